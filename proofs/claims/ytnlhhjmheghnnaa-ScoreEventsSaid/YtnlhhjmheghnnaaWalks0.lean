/- Walks. -/
import Derived.Test.YtnlhhjmheghnnaaHemCode
import Derived.Test.YtnlhhjmheghnnaaHemData
import Derived.Test.YtnlhhjmheghnnaaHemBun
/- Walks: counting staves. -/
set_option maxRecDepth 10000
set_option linter.unusedSimpArgs false
set_option linter.unusedVariables false
namespace Go.Hem
noncomputable abbrev prog := Go.Proofs.Try.prog
variable {pol : Pol}

def stavesOf (l : List Part) : Nat := (l.map fun p => p.staves.l.length).sum

theorem stavesOf_take {l : List Part} {i : Nat} {p : Part} (h : l[i]? = some p) : stavesOf (l.take (i + 1)) = stavesOf (l.take i) + p.staves.l.length := by
  simp [stavesOf, List.take_add_one, h]
theorem stavesOf_le {l : List Part} {i : Nat} : stavesOf (l.take i) ≤ stavesOf l := by
  have h : stavesOf (l.take i ++ l.drop i) = stavesOf (l.take i) + stavesOf (l.drop i) := by simp [stavesOf, -List.take_append_drop]
  rw [List.take_append_drop] at h
  omega

end Go.Hem
/- Walks: the first staff of a part. -/
set_option maxRecDepth 10000
set_option linter.unusedSimpArgs false
set_option linter.unusedVariables false
namespace Go.Hem
variable {pol : Pol}

end Go.Hem
/- The objects of a score, and the reference's list of them. -/
set_option maxRecDepth 10000
set_option maxHeartbeats 4000000
set_option linter.unusedSimpArgs false
set_option linter.unusedVariables false
namespace Go.Hem
variable {pol : Pol}
theorem row_O : RowOf 9 O.enc := ⟨by decide, fun _ => ⟨rfl, rfl⟩⟩
theorem of_snoc' {α : Type} {l : List α} {y : α} : (some (Sl.l (Sl.of l) ++ [y]) : Sl α) = Sl.of (l ++ [y]) := by
  rw [l_of]; unfold Sl.of; cases l <;> rfl

def oPart (i : Nat) (p : Part) : O := ⟨p.id, ⟨1, i, 0, 0, 0, 0, 0⟩⟩
def oStaff (st : Nat) (p : Staff) : O := ⟨p.id, ⟨2, 0, st, 0, 0, 0, 0⟩⟩
def oMeasure (m : Nat) (x : Measure) : O := ⟨x.id, ⟨3, 0, 0, m, 0, 0, 0⟩⟩
def oEvent (m c v e : Nat) (x : Event) : O := ⟨x.id, ⟨4, 0, c, m, v, e, 0⟩⟩
def oSpanner (i : Nat) (x : Spanner) : O := ⟨x.id, ⟨5, 0, 0, 0, 0, 0, i⟩⟩
def objStaves (st : Nat) : List Staff → List O
  | [] => []
  | s :: r => oStaff st s :: objStaves (st + 1) r
def objParts (i st : Nat) : List Part → List O
  | [] => []
  | p :: r => oPart i p :: (objStaves st p.staves.l ++ objParts (i + 1) (st + p.staves.l.length) r)
def objEvents (m c v e : Nat) : List Event → List O
  | [] => []
  | x :: r => oEvent m c v e x :: objEvents m c v (e + 1) r
def objVoices (m c v : Nat) : List Voice → List O
  | [] => []
  | x :: r => objEvents m c v 0 x.events.l ++ objVoices m c (v + 1) r
def objCells (m c : Nat) : List Cell → List O
  | [] => []
  | x :: r => objVoices m c 0 x.voices.l ++ objCells m (c + 1) r
def objMeasures (m : Nat) : List Measure → List O
  | [] => []
  | x :: r => oMeasure m x :: (objCells m 0 x.cells.l ++ objMeasures (m + 1) r)
def objSpanners (i : Nat) : List Spanner → List O
  | [] => []
  | x :: r => oSpanner i x :: objSpanners (i + 1) r
def objs (s : Score) : List O := objParts 0 0 s.parts.l ++ (objMeasures 0 s.measures.l ++ objSpanners 0 s.spanners.l)

section
variable {m c v e i st : Nat}
theorem drop_cons {α : Type} {l : List α} {i : Nat} {y : α} (h : l[i]? = some y) : l.drop i = y :: l.drop (i + 1) := by
  obtain ⟨hi, rfl⟩ := List.getElem?_eq_some_iff.1 h
  exact List.drop_eq_getElem_cons hi
theorem drop_end {α : Type} {l : List α} {i : Nat} (h : ¬ ((i : Int) < (l.length : Int))) : l.drop i = [] := List.drop_of_length_le (by omega)
theorem len_pre {a b : List O} {s : Score} (h : a ++ b = objs s) : a.length ≤ (objs s).length := by rw [← h]; simp
theorem stavesOf_at {l : List Part} {i : Nat} {p : Part} (h : l[i]? = some p) : stavesOf (l.take i) + p.staves.l.length ≤ stavesOf l := by
  rw [← stavesOf_take h]; exact stavesOf_le
end

/-- No list is long. -/
structure Tame (s : Score) : Prop where
  objs : (objs s).length < 1000000
  staves : stavesOf s.parts.l < 1000000
  parts : s.parts.l.length < 1000000
  measures : s.measures.l.length < 1000000
  spanners : s.spanners.l.length < 1000000
  cells : ∀ (m : Nat) y, s.measures.l[m]? = some y → y.cells.l.length < 1000000
  voices : ∀ (m : Nat) y (c : Nat) q, s.measures.l[m]? = some y → y.cells.l[c]? = some q → q.voices.l.length < 1000000
  events : ∀ (m : Nat) y (c : Nat) q (v : Nat) z, s.measures.l[m]? = some y → y.cells.l[c]? = some q → q.voices.l[v]? = some z → z.events.l.length < 1000000
theorem robjects_pv (s : Score) (hT : Tame s) : Pv prog pol 16 [s.enc] (slm O.enc (Sl.of (objs s))) := by
  obtain ⟨hs, hst, hl1, hl2, hl3, hT1, hT2, hT3⟩ := hT
  refine Pv_of' ok16 (by simp only [AV.closedBs, Score.enc_closed, Bool.and_self]) ?_
  simp -implicitDefEqProofs (maxDischargeDepth := 12) only [wpF, cf16, WW,List.replicate,e_splice,if_true,if_false,ite_true,ite_false,true_or,ne_eq,Nat.reduceAdd,Nat.reduceSub,Nat.reduceMul,Nat.reduceLeDiff,Nat.reduceEqDiff,Nat.reduceGT,Nat.reduceLT,Int.reduceLE,Int.reduceLT,Int.reduceToNat,Int.reduceAdd,reduceCtorEq,h_putc,beq_self_eq_true,eq_self,exists_eq_left,exists_eq_left', s.enc_eq]
  -- the parts
  refine wp_loop (Inv := fun k t H => ∃ (i : Nat) (fp : List Nat) (done : List O) (a : AV), i + k = s.parts.l.length ∧ H.cells 0 = some s.enc.cells ∧ done ++ (objParts i (stavesOf (s.parts.l.take i)) (s.parts.l.drop i) ++ (objMeasures 0 s.measures.l ++ objSpanners 0 s.spanners.l)) = objs s ∧
    Acc 1 9 O.enc H a (Sl.of done) fp ∧ (∀ b ∈ fp, 1 ≤ b) ∧
    ∃ x : Nat → AV, t = [s.enc, .ptr 0 0, .sc .nils, a, .sc (.int .i64 (stavesOf (s.parts.l.take i))), .sc (.int .i64 i), x 6, x 7, x 8, x 9, x 10, x 11, x 12, x 13, x 14, x 15, x 16, x 17, x 18, x 19, x 20, x 21, x 22, x 23, x 24, x 25, x 26, x 27, x 28, x 29, x 30, x 31, x 32, x 33, x 34, x 35, x 36, x 37, x 38, x 39, x 40, x 41, x 42, x 43, x 44, x 45, x 46, x 47, x 48, x 49, x 50, x 51, x 52, x 53, x 54, x 55, x 56, x 57, x 58, x 59, x 60, x 61, x 62, x 63, x 64, x 65, x 66, x 67, x 68, x 69, x 70, x 71, x 72, x 73, x 74, x 75, x 76, x 77, x 78, x 79, x 80, x 81, x 82, x 83, x 84, x 85, x 86, x 87, x 88, x 89, x 90, x 91, x 92, x 93, x 94, x 95, x 96, x 97, x 98, x 99, x 100, x 101, x 102, x 103, x 104, x 105, x 106, x 107, x 108, x 109, x 110, x 111, x 112, x 113, x 114, x 115, x 116, x 117, x 118, x 119, x 120, x 121, x 122, x 123, x 124, x 125, x 126, x 127, x 128, x 129, x 130, x 131, x 132, x 133, x 134, x 135, x 136, x 137, x 138, x 139, x 140, x 141, x 142, x 143, x 144, x 145, x 146, x 147, x 148, x 149, x 150, x 151, x 152, x 153, x 154]) (k := s.parts.l.length) ?_
    ⟨0, [], [], _, by omega, ?_, rfl, acc_none, by simp, ex_x rfl⟩
  rotate_left
  · simp -implicitDefEqProofs (maxDischargeDepth := 12) only [WW,List.replicate,e_splice,if_true,if_false,ite_true,ite_false,true_or,ne_eq,Nat.reduceAdd,Nat.reduceSub,Nat.reduceMul,Nat.reduceLeDiff,Nat.reduceEqDiff,Nat.reduceGT,Nat.reduceLT,Int.reduceLE,Int.reduceLT,Int.reduceToNat,Int.reduceAdd,reduceCtorEq,h_putc,beq_self_eq_true,eq_self,exists_eq_left,exists_eq_left']; rfl
  rintro k t H ⟨i, fp, done, a, hk, hH0, hd, hA, hfp, x, rfl⟩
  simp only [s.enc_eq, c_agg] at hH0
  by_cases h1 : (i : Int) < (s.parts.l.length : Int)
  · obtain ⟨p, hp⟩ : ∃ y, s.parts.l[i]? = some y := ⟨_, List.getElem?_eq_getElem (by omega)⟩
    have e2 : IntKind.i64.wrap ((i : Int) + 1) = ((i + 1 : Nat) : Int) := by rw [w64 (by omega) (by omega)]; omega
    have hst2 := stavesOf_at hp
    simp -implicitDefEqProofs (maxDischargeDepth := 12) only [WW,List.replicate,e_splice,if_true,if_false,ite_true,ite_false,true_or,ne_eq,Nat.reduceAdd,Nat.reduceSub,Nat.reduceMul,Nat.reduceLeDiff,Nat.reduceEqDiff,Nat.reduceGT,Nat.reduceLT,Int.reduceLE,Int.reduceLT,Int.reduceToNat,Int.reduceAdd,reduceCtorEq,h_putc,beq_self_eq_true,eq_self,exists_eq_left,exists_eq_left', hH0, h1, hp, p.enc_eq]
    -- oPart i p: the list's fact, drop_cons hp, objParts: what is added, $3: the element's fact
    refine wA_app2 row_O hA (by repeat (first | exact Keep.refl | refine Keep.put (by (try simp only [AHeap.next_alloc, AHeap.next_put]); omega) ?_ | refine Keep.alloc (by (try simp only [AHeap.next_alloc, AHeap.next_put]); omega) ?_)) (by simp) (ys := [oPart i p]) (by simp) rfl (asrc_new (by simp) rfl) (own_one (O.enc_plain _) rfl) Apart.nil_right ?_ ?_
    · rw [l_of]; have := len_pre hd; simp only [List.length_cons, List.length_nil]; omega
    intro v' H2 fp' hA' hn2 hk2 hfp2 ho2 hc2
    rw [of_snoc'] at hA'
    have g0 := (hk2 0 (fun h => by have := hfp 0 h; omega) (h_lt hH0)).trans hH0
    have hfp3 : ∀ b ∈ fp', 1 ≤ b := fun b hb => by
      rcases hfp2 b hb with h | h | h
      · exact hfp b h
      · simp at h
      · have := h_lt hH0; omega
    have hd' := hd
    rw [drop_cons hp, objParts] at hd'
    try simp only [List.cons_append] at hd'
    rw [List.append_cons] at hd'
    simp -implicitDefEqProofs (maxDischargeDepth := 12) only [WW,List.replicate,e_splice,if_true,if_false,ite_true,ite_false,true_or,ne_eq,Nat.reduceAdd,Nat.reduceSub,Nat.reduceMul,Nat.reduceLeDiff,Nat.reduceEqDiff,Nat.reduceGT,Nat.reduceLT,Int.reduceLE,Int.reduceLT,Int.reduceToNat,Int.reduceAdd,reduceCtorEq,h_putc,beq_self_eq_true,eq_self,exists_eq_left,exists_eq_left']
    -- its staves
    refine wp_loop (Inv := fun k t H => ∃ (j : Nat) (fp : List Nat) (done : List O) (a : AV), j + k = p.staves.l.length ∧ H.cells 0 = some s.enc.cells ∧ done ++ (objStaves (stavesOf (s.parts.l.take i) + j) (p.staves.l.drop j) ++ objParts (i + 1) (stavesOf (s.parts.l.take i) + p.staves.l.length) (s.parts.l.drop (i + 1)) ++ (objMeasures 0 s.measures.l ++ objSpanners 0 s.spanners.l)) = objs s ∧
      Acc 1 9 O.enc H a (Sl.of done) fp ∧ (∀ b ∈ fp, 1 ≤ b) ∧
      ∃ x : Nat → AV, t = [s.enc, .ptr 0 0, .sc .nils, a, .sc (.int .i64 ((stavesOf (s.parts.l.take i) + j : Nat) : Int)), .sc (.int .i64 i), .sc (.int .i64 j), x 7, x 8, x 9, x 10, x 11, x 12, x 13, x 14, x 15, x 16, x 17, x 18, x 19, x 20, x 21, x 22, x 23, x 24, x 25, x 26, x 27, x 28, x 29, x 30, x 31, x 32, x 33, x 34, x 35, x 36, x 37, x 38, x 39, x 40, x 41, x 42, x 43, x 44, x 45, x 46, x 47, x 48, x 49, x 50, x 51, x 52, x 53, x 54, x 55, x 56, x 57, x 58, x 59, x 60, x 61, x 62, x 63, x 64, x 65, x 66, x 67, x 68, x 69, x 70, x 71, x 72, x 73, x 74, x 75, x 76, x 77, x 78, x 79, x 80, x 81, x 82, x 83, x 84, x 85, x 86, x 87, x 88, x 89, x 90, x 91, x 92, x 93, x 94, x 95, x 96, x 97, x 98, x 99, x 100, x 101, x 102, x 103, x 104, x 105, x 106, x 107, x 108, x 109, x 110, x 111, x 112, x 113, x 114, x 115, x 116, x 117, x 118, x 119, x 120, x 121, x 122, x 123, x 124, x 125, x 126, x 127, x 128, x 129, x 130, x 131, x 132, x 133, x 134, x 135, x 136, x 137, x 138, x 139, x 140, x 141, x 142, x 143, x 144, x 145, x 146, x 147, x 148, x 149, x 150, x 151, x 152, x 153, x 154]) (k := p.staves.l.length) ?_
      ⟨0, fp', done ++ [oPart i p], _, by omega, g0, by simpa using hd', hA', hfp3, ex_x rfl⟩
    clear hA' hA hH0 g0 hd hd' hfp hfp2 hfp3 hk2 hn2 x hc2 ho2
    rintro k' t H ⟨j, fp, done, a, hk', hH0, hd, hA, hfp, x, rfl⟩
    simp only [s.enc_eq, c_agg] at hH0
    by_cases h3 : (j : Int) < (p.staves.l.length : Int)
    · obtain ⟨q, hq⟩ : ∃ y, p.staves.l[j]? = some y := ⟨_, List.getElem?_eq_getElem (by omega)⟩
      have e3 : IntKind.i64.wrap ((j : Int) + 1) = ((j + 1 : Nat) : Int) := by rw [w64 (by omega) (by omega)]; omega
      have e4 : IntKind.i64.wrap (((stavesOf (s.parts.l.take i) + j : Nat) : Int) + 1) = ((stavesOf (s.parts.l.take i) + (j + 1) : Nat) : Int) := by rw [w64 (by omega) (by omega)]; omega
      simp -implicitDefEqProofs (maxDischargeDepth := 12) only [WW,List.replicate,e_splice,if_true,if_false,ite_true,ite_false,true_or,ne_eq,Nat.reduceAdd,Nat.reduceSub,Nat.reduceMul,Nat.reduceLeDiff,Nat.reduceEqDiff,Nat.reduceGT,Nat.reduceLT,Int.reduceLE,Int.reduceLT,Int.reduceToNat,Int.reduceAdd,reduceCtorEq,h_putc,beq_self_eq_true,eq_self,exists_eq_left,exists_eq_left', hH0, h3, hp, hq, p.enc_eq, q.enc_eq]
      -- oStaff (stavesOf (s.parts.l.take i) + j) q: the list's fact, drop_cons hq, objStaves: what is added, $3: the element's fact
      refine wA_app2 row_O hA (by repeat (first | exact Keep.refl | refine Keep.put (by (try simp only [AHeap.next_alloc, AHeap.next_put]); omega) ?_ | refine Keep.alloc (by (try simp only [AHeap.next_alloc, AHeap.next_put]); omega) ?_)) (by simp) (ys := [oStaff (stavesOf (s.parts.l.take i) + j) q]) (by simp) rfl (asrc_new (by simp) rfl) (own_one (O.enc_plain _) rfl) Apart.nil_right ?_ ?_
      · rw [l_of]; have := len_pre hd; simp only [List.length_cons, List.length_nil]; omega
      intro v' H2 fp' hA' hn2 hk2 hfp2 ho2 hc2
      rw [of_snoc'] at hA'
      have g0 := (hk2 0 (fun h => by have := hfp 0 h; omega) (h_lt hH0)).trans hH0
      have hfp3 : ∀ b ∈ fp', 1 ≤ b := fun b hb => by
        rcases hfp2 b hb with h | h | h
        · exact hfp b h
        · simp at h
        · have := h_lt hH0; omega
      have hd' := hd
      rw [drop_cons hq, objStaves] at hd'
      try simp only [List.cons_append] at hd'
      rw [List.append_cons] at hd'
      simp -implicitDefEqProofs (maxDischargeDepth := 12) only [WW,List.replicate,e_splice,if_true,if_false,ite_true,ite_false,true_or,ne_eq,Nat.reduceAdd,Nat.reduceSub,Nat.reduceMul,Nat.reduceLeDiff,Nat.reduceEqDiff,Nat.reduceGT,Nat.reduceLT,Int.reduceLE,Int.reduceLT,Int.reduceToNat,Int.reduceAdd,reduceCtorEq,h_putc,beq_self_eq_true,eq_self,exists_eq_left,exists_eq_left', e3, e4]
      exact ⟨k' - 1, by omega, j + 1, fp', _, v', by omega, g0, by simpa [Nat.add_assoc] using hd', hA', hfp3, ex_x rfl⟩
    · have hj : j = p.staves.l.length := by omega
      simp -implicitDefEqProofs (maxDischargeDepth := 12) only [WW,List.replicate,e_splice,if_true,if_false,ite_true,ite_false,true_or,ne_eq,Nat.reduceAdd,Nat.reduceSub,Nat.reduceMul,Nat.reduceLeDiff,Nat.reduceEqDiff,Nat.reduceGT,Nat.reduceLT,Int.reduceLE,Int.reduceLT,Int.reduceToNat,Int.reduceAdd,reduceCtorEq,h_putc,beq_self_eq_true,eq_self,exists_eq_left,exists_eq_left', hH0, h3, hp, p.enc_eq, e2]
      rw [drop_end h3] at hd
      simp only [objStaves, List.nil_append] at hd
      rw [hj, ← stavesOf_take hp]
      rw [← stavesOf_take hp] at hd
      exact ⟨k - 1, by omega, i + 1, fp, done, a, by omega, rfl, hd, hA, hfp, ex_x rfl⟩
  · simp -implicitDefEqProofs (maxDischargeDepth := 12) only [WW,List.replicate,e_splice,if_true,if_false,ite_true,ite_false,true_or,ne_eq,Nat.reduceAdd,Nat.reduceSub,Nat.reduceMul,Nat.reduceLeDiff,Nat.reduceEqDiff,Nat.reduceGT,Nat.reduceLT,Int.reduceLE,Int.reduceLT,Int.reduceToNat,Int.reduceAdd,reduceCtorEq,h_putc,beq_self_eq_true,eq_self,exists_eq_left,exists_eq_left', hH0, h1]
    rw [drop_end h1] at hd
    simp only [objParts, List.nil_append] at hd
    -- the measures
    refine wp_loop (Inv := fun k t H => ∃ (m : Nat) (fp : List Nat) (done : List O) (a : AV), m + k = s.measures.l.length ∧ H.cells 0 = some s.enc.cells ∧ done ++ (objMeasures m (s.measures.l.drop m) ++ objSpanners 0 s.spanners.l) = objs s ∧
      Acc 1 9 O.enc H a (Sl.of done) fp ∧ (∀ b ∈ fp, 1 ≤ b) ∧
      ∃ x : Nat → AV, t = [s.enc, .ptr 0 0, .sc .nils, a, x 4, x 5, x 6, .sc (.int .i64 m), x 8, x 9, x 10, x 11, x 12, x 13, x 14, x 15, x 16, x 17, x 18, x 19, x 20, x 21, x 22, x 23, x 24, x 25, x 26, x 27, x 28, x 29, x 30, x 31, x 32, x 33, x 34, x 35, x 36, x 37, x 38, x 39, x 40, x 41, x 42, x 43, x 44, x 45, x 46, x 47, x 48, x 49, x 50, x 51, x 52, x 53, x 54, x 55, x 56, x 57, x 58, x 59, x 60, x 61, x 62, x 63, x 64, x 65, x 66, x 67, x 68, x 69, x 70, x 71, x 72, x 73, x 74, x 75, x 76, x 77, x 78, x 79, x 80, x 81, x 82, x 83, x 84, x 85, x 86, x 87, x 88, x 89, x 90, x 91, x 92, x 93, x 94, x 95, x 96, x 97, x 98, x 99, x 100, x 101, x 102, x 103, x 104, x 105, x 106, x 107, x 108, x 109, x 110, x 111, x 112, x 113, x 114, x 115, x 116, x 117, x 118, x 119, x 120, x 121, x 122, x 123, x 124, x 125, x 126, x 127, x 128, x 129, x 130, x 131, x 132, x 133, x 134, x 135, x 136, x 137, x 138, x 139, x 140, x 141, x 142, x 143, x 144, x 145, x 146, x 147, x 148, x 149, x 150, x 151, x 152, x 153, x 154]) (k := s.measures.l.length) ?_
      ⟨0, fp, done, _, by omega, hH0, by simpa using hd, hA, hfp, ex_x rfl⟩
    clear hA hH0 hd hfp x h1 hk
    rintro k t H ⟨m, fp, done, a, hk, hH0, hd, hA, hfp, x, rfl⟩
    simp only [s.enc_eq, c_agg] at hH0
    by_cases h1 : (m : Int) < (s.measures.l.length : Int)
    · obtain ⟨y, hy⟩ : ∃ y, s.measures.l[m]? = some y := ⟨_, List.getElem?_eq_getElem (by omega)⟩
      have e2 : IntKind.i64.wrap ((m : Int) + 1) = ((m + 1 : Nat) : Int) := by rw [w64 (by omega) (by omega)]; omega
      simp -implicitDefEqProofs (maxDischargeDepth := 12) only [WW,List.replicate,e_splice,if_true,if_false,ite_true,ite_false,true_or,ne_eq,Nat.reduceAdd,Nat.reduceSub,Nat.reduceMul,Nat.reduceLeDiff,Nat.reduceEqDiff,Nat.reduceGT,Nat.reduceLT,Int.reduceLE,Int.reduceLT,Int.reduceToNat,Int.reduceAdd,reduceCtorEq,h_putc,beq_self_eq_true,eq_self,exists_eq_left,exists_eq_left', hH0, h1, hy, y.enc_eq]
      -- oMeasure m y: the list's fact, drop_cons hy, objMeasures: what is added, $3: the element's fact
      refine wA_app2 row_O hA (by repeat (first | exact Keep.refl | refine Keep.put (by (try simp only [AHeap.next_alloc, AHeap.next_put]); omega) ?_ | refine Keep.alloc (by (try simp only [AHeap.next_alloc, AHeap.next_put]); omega) ?_)) (by simp) (ys := [oMeasure m y]) (by simp) rfl (asrc_new (by simp) rfl) (own_one (O.enc_plain _) rfl) Apart.nil_right ?_ ?_
      · rw [l_of]; have := len_pre hd; simp only [List.length_cons, List.length_nil]; omega
      intro v' H2 fp' hA' hn2 hk2 hfp2 ho2 hc2
      rw [of_snoc'] at hA'
      have g0 := (hk2 0 (fun h => by have := hfp 0 h; omega) (h_lt hH0)).trans hH0
      have hfp3 : ∀ b ∈ fp', 1 ≤ b := fun b hb => by
        rcases hfp2 b hb with h | h | h
        · exact hfp b h
        · simp at h
        · have := h_lt hH0; omega
      have hd' := hd
      rw [drop_cons hy, objMeasures] at hd'
      try simp only [List.cons_append] at hd'
      rw [List.append_cons] at hd'
      simp -implicitDefEqProofs (maxDischargeDepth := 12) only [WW,List.replicate,e_splice,if_true,if_false,ite_true,ite_false,true_or,ne_eq,Nat.reduceAdd,Nat.reduceSub,Nat.reduceMul,Nat.reduceLeDiff,Nat.reduceEqDiff,Nat.reduceGT,Nat.reduceLT,Int.reduceLE,Int.reduceLT,Int.reduceToNat,Int.reduceAdd,reduceCtorEq,h_putc,beq_self_eq_true,eq_self,exists_eq_left,exists_eq_left']
      -- its cells
      refine wp_loop (Inv := fun k t H => ∃ (c : Nat) (fp : List Nat) (done : List O) (a : AV), c + k = y.cells.l.length ∧ H.cells 0 = some s.enc.cells ∧ done ++ (objCells m c (y.cells.l.drop c) ++ objMeasures (m + 1) (s.measures.l.drop (m + 1)) ++ objSpanners 0 s.spanners.l) = objs s ∧
        Acc 1 9 O.enc H a (Sl.of done) fp ∧ (∀ b ∈ fp, 1 ≤ b) ∧
        ∃ x : Nat → AV, t = [s.enc, .ptr 0 0, .sc .nils, a, x 4, x 5, x 6, .sc (.int .i64 m), .sc (.int .i64 c), x 9, x 10, x 11, x 12, x 13, x 14, x 15, x 16, x 17, x 18, x 19, x 20, x 21, x 22, x 23, x 24, x 25, x 26, x 27, x 28, x 29, x 30, x 31, x 32, x 33, x 34, x 35, x 36, x 37, x 38, x 39, x 40, x 41, x 42, x 43, x 44, x 45, x 46, x 47, x 48, x 49, x 50, x 51, x 52, x 53, x 54, x 55, x 56, x 57, x 58, x 59, x 60, x 61, x 62, x 63, x 64, x 65, x 66, x 67, x 68, x 69, x 70, x 71, x 72, x 73, x 74, x 75, x 76, x 77, x 78, x 79, x 80, x 81, x 82, x 83, x 84, x 85, x 86, x 87, x 88, x 89, x 90, x 91, x 92, x 93, x 94, x 95, x 96, x 97, x 98, x 99, x 100, x 101, x 102, x 103, x 104, x 105, x 106, x 107, x 108, x 109, x 110, x 111, x 112, x 113, x 114, x 115, x 116, x 117, x 118, x 119, x 120, x 121, x 122, x 123, x 124, x 125, x 126, x 127, x 128, x 129, x 130, x 131, x 132, x 133, x 134, x 135, x 136, x 137, x 138, x 139, x 140, x 141, x 142, x 143, x 144, x 145, x 146, x 147, x 148, x 149, x 150, x 151, x 152, x 153, x 154]) (k := y.cells.l.length) ?_
        ⟨0, fp', done ++ [oMeasure m y], _, by omega, g0, by simpa using hd', hA', hfp3, ex_x rfl⟩
      clear hA' hA hH0 g0 hd hd' hfp hfp2 hfp3 hk2 hn2 x hc2 ho2
      rintro k' t H ⟨c, fp, done, a, hk', hH0, hd, hA, hfp, x, rfl⟩
      simp only [s.enc_eq, c_agg] at hH0
      by_cases h3 : (c : Int) < (y.cells.l.length : Int)
      · obtain ⟨q, hq⟩ : ∃ q, y.cells.l[c]? = some q := ⟨_, List.getElem?_eq_getElem (by omega)⟩
        simp -implicitDefEqProofs (maxDischargeDepth := 12) only [WW,List.replicate,e_splice,if_true,if_false,ite_true,ite_false,true_or,ne_eq,Nat.reduceAdd,Nat.reduceSub,Nat.reduceMul,Nat.reduceLeDiff,Nat.reduceEqDiff,Nat.reduceGT,Nat.reduceLT,Int.reduceLE,Int.reduceLT,Int.reduceToNat,Int.reduceAdd,reduceCtorEq,h_putc,beq_self_eq_true,eq_self,exists_eq_left,exists_eq_left', hH0, h3, hy, hq, y.enc_eq, q.enc_eq]
        rw [drop_cons hq] at hd
        simp only [objCells] at hd
        -- its voices
        refine wp_loop (Inv := fun k t H => ∃ (v : Nat) (fp : List Nat) (done : List O) (a : AV), v + k = q.voices.l.length ∧ H.cells 0 = some s.enc.cells ∧ done ++ (objVoices m c v (q.voices.l.drop v) ++ objCells m (c + 1) (y.cells.l.drop (c + 1)) ++ objMeasures (m + 1) (s.measures.l.drop (m + 1)) ++ objSpanners 0 s.spanners.l) = objs s ∧
          Acc 1 9 O.enc H a (Sl.of done) fp ∧ (∀ b ∈ fp, 1 ≤ b) ∧
          ∃ x : Nat → AV, t = [s.enc, .ptr 0 0, .sc .nils, a, x 4, x 5, x 6, .sc (.int .i64 m), .sc (.int .i64 c), slm Voice.enc q.voices, .sc (.int .i64 v), x 11, x 12, x 13, x 14, x 15, x 16, x 17, x 18, x 19, x 20, x 21, x 22, x 23, x 24, x 25, x 26, x 27, x 28, x 29, x 30, x 31, x 32, x 33, x 34, x 35, x 36, x 37, x 38, x 39, x 40, x 41, x 42, x 43, x 44, x 45, x 46, x 47, x 48, x 49, x 50, x 51, x 52, x 53, x 54, x 55, x 56, x 57, x 58, x 59, x 60, x 61, x 62, x 63, x 64, x 65, x 66, x 67, x 68, x 69, x 70, x 71, x 72, x 73, x 74, x 75, x 76, x 77, x 78, x 79, x 80, x 81, x 82, x 83, x 84, x 85, x 86, x 87, x 88, x 89, x 90, x 91, x 92, x 93, x 94, x 95, x 96, x 97, x 98, x 99, x 100, x 101, x 102, x 103, x 104, x 105, x 106, x 107, x 108, x 109, x 110, x 111, x 112, x 113, x 114, x 115, x 116, x 117, x 118, x 119, x 120, x 121, x 122, x 123, x 124, x 125, x 126, x 127, x 128, x 129, x 130, x 131, x 132, x 133, x 134, x 135, x 136, x 137, x 138, x 139, x 140, x 141, x 142, x 143, x 144, x 145, x 146, x 147, x 148, x 149, x 150, x 151, x 152, x 153, x 154]) (k := q.voices.l.length) ?_
          ⟨0, fp, done, _, by omega, hH0, by simpa using hd, hA, hfp, ex_x rfl⟩
        clear hA hH0 hd hfp x
        rintro k2 t H ⟨v, fp, done, a, hk2', hH0, hd, hA, hfp, x, rfl⟩
        simp only [s.enc_eq, c_agg] at hH0
        by_cases h5 : (v : Int) < (q.voices.l.length : Int)
        · obtain ⟨z, hz⟩ : ∃ z, q.voices.l[v]? = some z := ⟨_, List.getElem?_eq_getElem (by omega)⟩
          simp -implicitDefEqProofs (maxDischargeDepth := 12) only [WW,List.replicate,e_splice,if_true,if_false,ite_true,ite_false,true_or,ne_eq,Nat.reduceAdd,Nat.reduceSub,Nat.reduceMul,Nat.reduceLeDiff,Nat.reduceEqDiff,Nat.reduceGT,Nat.reduceLT,Int.reduceLE,Int.reduceLT,Int.reduceToNat,Int.reduceAdd,reduceCtorEq,h_putc,beq_self_eq_true,eq_self,exists_eq_left,exists_eq_left', hH0, h5, hz, z.enc_eq]
          rw [drop_cons hz] at hd
          simp only [objVoices] at hd
          -- its events
          refine wp_loop (Inv := fun k t H => ∃ (e : Nat) (fp : List Nat) (done : List O) (a : AV), e + k = z.events.l.length ∧ H.cells 0 = some s.enc.cells ∧ done ++ (objEvents m c v e (z.events.l.drop e) ++ objVoices m c (v + 1) (q.voices.l.drop (v + 1)) ++ objCells m (c + 1) (y.cells.l.drop (c + 1)) ++ objMeasures (m + 1) (s.measures.l.drop (m + 1)) ++ objSpanners 0 s.spanners.l) = objs s ∧
            Acc 1 9 O.enc H a (Sl.of done) fp ∧ (∀ b ∈ fp, 1 ≤ b) ∧
            ∃ x : Nat → AV, t = [s.enc, .ptr 0 0, .sc .nils, a, x 4, x 5, x 6, .sc (.int .i64 m), .sc (.int .i64 c), slm Voice.enc q.voices, .sc (.int .i64 v), .sc (.int .i64 e), x 12, x 13, x 14, x 15, x 16, x 17, x 18, x 19, x 20, x 21, x 22, x 23, x 24, x 25, x 26, x 27, x 28, x 29, x 30, x 31, x 32, x 33, x 34, x 35, x 36, x 37, x 38, x 39, x 40, x 41, x 42, x 43, x 44, x 45, x 46, x 47, x 48, x 49, x 50, x 51, x 52, x 53, x 54, x 55, x 56, x 57, x 58, x 59, x 60, x 61, x 62, x 63, x 64, x 65, x 66, x 67, x 68, x 69, x 70, x 71, x 72, x 73, x 74, x 75, x 76, x 77, x 78, x 79, x 80, x 81, x 82, x 83, x 84, x 85, x 86, x 87, x 88, x 89, x 90, x 91, x 92, x 93, x 94, x 95, x 96, x 97, x 98, x 99, x 100, x 101, x 102, x 103, x 104, x 105, x 106, x 107, x 108, x 109, x 110, x 111, x 112, x 113, x 114, x 115, x 116, x 117, x 118, x 119, x 120, x 121, x 122, x 123, x 124, x 125, x 126, x 127, x 128, x 129, x 130, x 131, x 132, x 133, x 134, x 135, x 136, x 137, x 138, x 139, x 140, x 141, x 142, x 143, x 144, x 145, x 146, x 147, x 148, x 149, x 150, x 151, x 152, x 153, x 154]) (k := z.events.l.length) ?_
            ⟨0, fp, done, _, by omega, hH0, by simpa using hd, hA, hfp, ex_x rfl⟩
          clear hA hH0 hd hfp x
          rintro k3 t H ⟨e, fp, done, a, hk3, hH0, hd, hA, hfp, x, rfl⟩
          simp only [s.enc_eq, c_agg] at hH0
          by_cases h7 : (e : Int) < (z.events.l.length : Int)
          · obtain ⟨w, hw⟩ : ∃ w, z.events.l[e]? = some w := ⟨_, List.getElem?_eq_getElem (by omega)⟩
            simp -implicitDefEqProofs (maxDischargeDepth := 12) only [WW,List.replicate,e_splice,if_true,if_false,ite_true,ite_false,true_or,ne_eq,Nat.reduceAdd,Nat.reduceSub,Nat.reduceMul,Nat.reduceLeDiff,Nat.reduceEqDiff,Nat.reduceGT,Nat.reduceLT,Int.reduceLE,Int.reduceLT,Int.reduceToNat,Int.reduceAdd,reduceCtorEq,h_putc,beq_self_eq_true,eq_self,exists_eq_left,exists_eq_left', hH0, h7, hz, hw, z.enc_eq, w.enc_eq]
            -- oEvent m c v e w: the list's fact, drop_cons hw, objEvents: what is added, $3: the element's fact
            refine wA_app2 row_O hA (by repeat (first | exact Keep.refl | refine Keep.put (by (try simp only [AHeap.next_alloc, AHeap.next_put]); omega) ?_ | refine Keep.alloc (by (try simp only [AHeap.next_alloc, AHeap.next_put]); omega) ?_)) (by simp) (ys := [oEvent m c v e w]) (by simp) rfl (asrc_new (by simp) rfl) (own_one (O.enc_plain _) rfl) Apart.nil_right ?_ ?_
            · rw [l_of]; have := len_pre hd; simp only [List.length_cons, List.length_nil]; omega
            intro v' H2 fp' hA' hn2 hk2 hfp2 ho2 hc2
            rw [of_snoc'] at hA'
            have g0 := (hk2 0 (fun h => by have := hfp 0 h; omega) (h_lt hH0)).trans hH0
            have hfp3 : ∀ b ∈ fp', 1 ≤ b := fun b hb => by
              rcases hfp2 b hb with h | h | h
              · exact hfp b h
              · simp at h
              · have := h_lt hH0; omega
            have hd' := hd
            rw [drop_cons hw, objEvents] at hd'
            try simp only [List.cons_append] at hd'
            rw [List.append_cons] at hd'
            have hb1 := hT3 _ _ _ _ _ _ hy hq hz
            have e5 : IntKind.i64.wrap ((e : Int) + 1) = ((e + 1 : Nat) : Int) := by rw [w64 (by omega) (by omega)]; omega
            simp -implicitDefEqProofs (maxDischargeDepth := 12) only [WW,List.replicate,e_splice,if_true,if_false,ite_true,ite_false,true_or,ne_eq,Nat.reduceAdd,Nat.reduceSub,Nat.reduceMul,Nat.reduceLeDiff,Nat.reduceEqDiff,Nat.reduceGT,Nat.reduceLT,Int.reduceLE,Int.reduceLT,Int.reduceToNat,Int.reduceAdd,reduceCtorEq,h_putc,beq_self_eq_true,eq_self,exists_eq_left,exists_eq_left', e5]
            exact ⟨k3 - 1, by omega, e + 1, fp', _, v', by omega, g0, by simpa using hd', hA', hfp3, ex_x rfl⟩
          · have hb1 := hT2 _ _ _ _ hy hq
            have e5 : IntKind.i64.wrap ((v : Int) + 1) = ((v + 1 : Nat) : Int) := by rw [w64 (by omega) (by omega)]; omega
            simp -implicitDefEqProofs (maxDischargeDepth := 12) only [WW,List.replicate,e_splice,if_true,if_false,ite_true,ite_false,true_or,ne_eq,Nat.reduceAdd,Nat.reduceSub,Nat.reduceMul,Nat.reduceLeDiff,Nat.reduceEqDiff,Nat.reduceGT,Nat.reduceLT,Int.reduceLE,Int.reduceLT,Int.reduceToNat,Int.reduceAdd,reduceCtorEq,h_putc,beq_self_eq_true,eq_self,exists_eq_left,exists_eq_left', h7, hz, z.enc_eq, e5]
            rw [drop_end h7] at hd
            simp only [objEvents, List.nil_append] at hd
            exact ⟨k2 - 1, by omega, v + 1, fp, done, a, by omega, hH0, hd, hA, hfp, ex_x rfl⟩
        · have hb1 := hT1 _ _ hy
          have e5 : IntKind.i64.wrap ((c : Int) + 1) = ((c + 1 : Nat) : Int) := by rw [w64 (by omega) (by omega)]; omega
          simp -implicitDefEqProofs (maxDischargeDepth := 12) only [WW,List.replicate,e_splice,if_true,if_false,ite_true,ite_false,true_or,ne_eq,Nat.reduceAdd,Nat.reduceSub,Nat.reduceMul,Nat.reduceLeDiff,Nat.reduceEqDiff,Nat.reduceGT,Nat.reduceLT,Int.reduceLE,Int.reduceLT,Int.reduceToNat,Int.reduceAdd,reduceCtorEq,h_putc,beq_self_eq_true,eq_self,exists_eq_left,exists_eq_left', h5, e5]
          rw [drop_end h5] at hd
          simp only [objVoices, List.nil_append] at hd
          exact ⟨k' - 1, by omega, c + 1, fp, done, a, by omega, hH0, hd, hA, hfp, ex_x rfl⟩
      · simp -implicitDefEqProofs (maxDischargeDepth := 12) only [WW,List.replicate,e_splice,if_true,if_false,ite_true,ite_false,true_or,ne_eq,Nat.reduceAdd,Nat.reduceSub,Nat.reduceMul,Nat.reduceLeDiff,Nat.reduceEqDiff,Nat.reduceGT,Nat.reduceLT,Int.reduceLE,Int.reduceLT,Int.reduceToNat,Int.reduceAdd,reduceCtorEq,h_putc,beq_self_eq_true,eq_self,exists_eq_left,exists_eq_left', hH0, h3, hy, y.enc_eq, e2]
        rw [drop_end h3] at hd
        simp only [objCells, List.nil_append] at hd
        exact ⟨k - 1, by omega, m + 1, fp, done, a, by omega, rfl, hd, hA, hfp, ex_x rfl⟩
    · simp -implicitDefEqProofs (maxDischargeDepth := 12) only [WW,List.replicate,e_splice,if_true,if_false,ite_true,ite_false,true_or,ne_eq,Nat.reduceAdd,Nat.reduceSub,Nat.reduceMul,Nat.reduceLeDiff,Nat.reduceEqDiff,Nat.reduceGT,Nat.reduceLT,Int.reduceLE,Int.reduceLT,Int.reduceToNat,Int.reduceAdd,reduceCtorEq,h_putc,beq_self_eq_true,eq_self,exists_eq_left,exists_eq_left', hH0, h1]
      rw [drop_end h1] at hd
      simp only [objMeasures, List.nil_append] at hd
      -- the spanners
      refine wp_loop (Inv := fun k t H => ∃ (i : Nat) (fp : List Nat) (done : List O) (a : AV), i + k = s.spanners.l.length ∧ H.cells 0 = some s.enc.cells ∧ done ++ objSpanners i (s.spanners.l.drop i) = objs s ∧
        Acc 1 9 O.enc H a (Sl.of done) fp ∧ (∀ b ∈ fp, 1 ≤ b) ∧
        ∃ x : Nat → AV, t = [s.enc, .ptr 0 0, .sc .nils, a, x 4, x 5, x 6, x 7, x 8, x 9, x 10, x 11, .sc (.int .i64 i), x 13, x 14, x 15, x 16, x 17, x 18, x 19, x 20, x 21, x 22, x 23, x 24, x 25, x 26, x 27, x 28, x 29, x 30, x 31, x 32, x 33, x 34, x 35, x 36, x 37, x 38, x 39, x 40, x 41, x 42, x 43, x 44, x 45, x 46, x 47, x 48, x 49, x 50, x 51, x 52, x 53, x 54, x 55, x 56, x 57, x 58, x 59, x 60, x 61, x 62, x 63, x 64, x 65, x 66, x 67, x 68, x 69, x 70, x 71, x 72, x 73, x 74, x 75, x 76, x 77, x 78, x 79, x 80, x 81, x 82, x 83, x 84, x 85, x 86, x 87, x 88, x 89, x 90, x 91, x 92, x 93, x 94, x 95, x 96, x 97, x 98, x 99, x 100, x 101, x 102, x 103, x 104, x 105, x 106, x 107, x 108, x 109, x 110, x 111, x 112, x 113, x 114, x 115, x 116, x 117, x 118, x 119, x 120, x 121, x 122, x 123, x 124, x 125, x 126, x 127, x 128, x 129, x 130, x 131, x 132, x 133, x 134, x 135, x 136, x 137, x 138, x 139, x 140, x 141, x 142, x 143, x 144, x 145, x 146, x 147, x 148, x 149, x 150, x 151, x 152, x 153, x 154]) (k := s.spanners.l.length) ?_
        ⟨0, fp, done, _, by omega, hH0, by simpa using hd, hA, hfp, ex_x rfl⟩
      clear hA hH0 hd hfp x
      rintro k t H ⟨i, fp, done, a, hk, hH0, hd, hA, hfp, x, rfl⟩
      simp only [s.enc_eq, c_agg] at hH0
      by_cases h1 : (i : Int) < (s.spanners.l.length : Int)
      · obtain ⟨y, hy⟩ : ∃ y, s.spanners.l[i]? = some y := ⟨_, List.getElem?_eq_getElem (by omega)⟩
        have e2 : IntKind.i64.wrap ((i : Int) + 1) = ((i + 1 : Nat) : Int) := by rw [w64 (by omega) (by omega)]; omega
        simp -implicitDefEqProofs (maxDischargeDepth := 12) only [WW,List.replicate,e_splice,if_true,if_false,ite_true,ite_false,true_or,ne_eq,Nat.reduceAdd,Nat.reduceSub,Nat.reduceMul,Nat.reduceLeDiff,Nat.reduceEqDiff,Nat.reduceGT,Nat.reduceLT,Int.reduceLE,Int.reduceLT,Int.reduceToNat,Int.reduceAdd,reduceCtorEq,h_putc,beq_self_eq_true,eq_self,exists_eq_left,exists_eq_left', hH0, h1, hy, y.enc_eq]
        -- oSpanner i y: the list's fact, drop_cons hy, objSpanners: what is added, $3: the element's fact
        refine wA_app2 row_O hA (by repeat (first | exact Keep.refl | refine Keep.put (by (try simp only [AHeap.next_alloc, AHeap.next_put]); omega) ?_ | refine Keep.alloc (by (try simp only [AHeap.next_alloc, AHeap.next_put]); omega) ?_)) (by simp) (ys := [oSpanner i y]) (by simp) rfl (asrc_new (by simp) rfl) (own_one (O.enc_plain _) rfl) Apart.nil_right ?_ ?_
        · rw [l_of]; have := len_pre hd; simp only [List.length_cons, List.length_nil]; omega
        intro v' H2 fp' hA' hn2 hk2 hfp2 ho2 hc2
        rw [of_snoc'] at hA'
        have g0 := (hk2 0 (fun h => by have := hfp 0 h; omega) (h_lt hH0)).trans hH0
        have hfp3 : ∀ b ∈ fp', 1 ≤ b := fun b hb => by
          rcases hfp2 b hb with h | h | h
          · exact hfp b h
          · simp at h
          · have := h_lt hH0; omega
        have hd' := hd
        rw [drop_cons hy, objSpanners] at hd'
        try simp only [List.cons_append] at hd'
        rw [List.append_cons] at hd'
        simp -implicitDefEqProofs (maxDischargeDepth := 12) only [WW,List.replicate,e_splice,if_true,if_false,ite_true,ite_false,true_or,ne_eq,Nat.reduceAdd,Nat.reduceSub,Nat.reduceMul,Nat.reduceLeDiff,Nat.reduceEqDiff,Nat.reduceGT,Nat.reduceLT,Int.reduceLE,Int.reduceLT,Int.reduceToNat,Int.reduceAdd,reduceCtorEq,h_putc,beq_self_eq_true,eq_self,exists_eq_left,exists_eq_left', e2]
        exact ⟨k - 1, by omega, i + 1, fp', _, v', by omega, g0, by simpa using hd', hA', hfp3, ex_x rfl⟩
      · simp -implicitDefEqProofs (maxDischargeDepth := 12) only [WW,List.replicate,e_splice,if_true,if_false,ite_true,ite_false,true_or,ne_eq,Nat.reduceAdd,Nat.reduceSub,Nat.reduceMul,Nat.reduceLeDiff,Nat.reduceEqDiff,Nat.reduceGT,Nat.reduceLT,Int.reduceLE,Int.reduceLT,Int.reduceToNat,Int.reduceAdd,reduceCtorEq,h_putc,beq_self_eq_true,eq_self,exists_eq_left,exists_eq_left', hH0, h1]
        rw [drop_end h1] at hd
        simp only [objSpanners, List.append_nil] at hd
        rw [hd] at hA
        exact hA.frz row_O (by omega)
end Go.Hem
/- Walks: the reference's Find. -/
set_option maxRecDepth 10000
set_option maxHeartbeats 4000000
set_option linter.unusedSimpArgs false
set_option linter.unusedVariables false
namespace Go.Hem
variable {pol : Pol}
def ID.zero : ID := ⟨0, 0⟩
def Place.zero : Place := ⟨0, 0, 0, 0, 0, 0, 0⟩
theorem id_eq {a b : ID} : (decide (a.site = b.site) && decide (a.number = b.number)) = decide (a = b) := by
  cases a; cases b; simp only [ID.mk.injEq, Bool.decide_and]
end Go.Hem
/- Walks: the reference's isEvent and Prune. -/
set_option maxRecDepth 10000
set_option maxHeartbeats 4000000
set_option linter.unusedSimpArgs false
set_option linter.unusedVariables false
namespace Go.Hem
variable {pol : Pol}
/-- Whether an id is that of an event. -/
def isEv (l : List O) (id : ID) : Bool := l.any fun o => decide (o.place.kind = 4) && decide (o.id = id)
/-- A score without spanners that have lost an end. -/
def Score.pruned (s : Score) : Score := { s with spanners := Sl.of (s.spanners.l.filter fun p => isEv (objs s) p.from_ && isEv (objs s) p.to) }
theorem isEv_skip {o : O} {l : List O} {id : ID} (h : ¬ o.place.kind = 4 ∨ ¬ o.id = id) : isEv (o :: l) id = isEv l id := by
  unfold isEv
  rw [List.any_cons]
  rcases h with h | h <;> simp [h]
theorem risEv_pv (hp : pol.pure 16 = true) (s : Score) (hT : Tame s) (id : ID) : Pv prog pol 71 [s.enc, id.enc] (.sc (.bool (isEv (objs s) id))) := by
  refine Pv_of' ok71 (by simp only [AV.closedBs, Score.enc_closed, ID.enc_closed, Bool.and_self]) ?_
  simp -implicitDefEqProofs (maxDischargeDepth := 12) only [wpF, cf71, WW,List.replicate,e_splice,if_true,if_false,ite_true,ite_false,true_or,ne_eq,Nat.reduceAdd,Nat.reduceSub,Nat.reduceMul,Nat.reduceLeDiff,Nat.reduceEqDiff,Nat.reduceGT,Nat.reduceLT,Int.reduceLE,Int.reduceLT,Int.reduceToNat,Int.reduceAdd,reduceCtorEq,h_putc,beq_self_eq_true,eq_self,exists_eq_left,exists_eq_left', s.enc_eq, id.enc_eq]
  rw [← s.enc_eq]
  refine wA_pure hp (robjects_pv s hT) ?_
  simp -implicitDefEqProofs (maxDischargeDepth := 12) only [WW,List.replicate,e_splice,if_true,if_false,ite_true,ite_false,true_or,ne_eq,Nat.reduceAdd,Nat.reduceSub,Nat.reduceMul,Nat.reduceLeDiff,Nat.reduceEqDiff,Nat.reduceGT,Nat.reduceLT,Int.reduceLE,Int.reduceLT,Int.reduceToNat,Int.reduceAdd,reduceCtorEq,h_putc,beq_self_eq_true,eq_self,exists_eq_left,exists_eq_left']
  refine wp_loop (Inv := fun k t H => ∃ (i : Nat), i + k = (objs s).length ∧ H.cells 1 = some id.enc.cells ∧ isEv (objs s) id = isEv ((objs s).drop i) id ∧
    ∃ x : Nat → AV, t = [s.enc, id.enc, .ptr 0 0, .ptr 1 0, .sc (.bool false), slm O.enc (Sl.of (objs s)), .sc (.int .i64 i), x 7, x 8, x 9, x 10, x 11, x 12, x 13, x 14, x 15, x 16, x 17, x 18, x 19, x 20, x 21, x 22, x 23, x 24, x 25, x 26, x 27, x 28, x 29, x 30]) (k := (objs s).length) ?_
    ⟨0, by omega, ?_, by simp, ex_x rfl⟩
  rotate_left
  · simp -implicitDefEqProofs (maxDischargeDepth := 12) only [WW,List.replicate,e_splice,if_true,if_false,ite_true,ite_false,true_or,ne_eq,Nat.reduceAdd,Nat.reduceSub,Nat.reduceMul,Nat.reduceLeDiff,Nat.reduceEqDiff,Nat.reduceGT,Nat.reduceLT,Int.reduceLE,Int.reduceLT,Int.reduceToNat,Int.reduceAdd,reduceCtorEq,h_putc,beq_self_eq_true,eq_self,exists_eq_left,exists_eq_left']; rfl
  rintro k t H ⟨i, hk, hH1, hf, x, rfl⟩
  simp only [id.enc_eq, c_agg] at hH1
  have hb := hT.objs
  by_cases h1 : (i : Int) < ((objs s).length : Int)
  · obtain ⟨o, ho⟩ : ∃ y, (objs s)[i]? = some y := ⟨_, List.getElem?_eq_getElem (by omega)⟩
    have e2 : IntKind.i64.wrap ((i : Int) + 1) = ((i + 1 : Nat) : Int) := by rw [w64 (by omega) (by omega)]; omega
    rw [drop_cons ho] at hf
    by_cases h2 : o.place.kind = 4
    · by_cases h3 : o.id = id
      · have : isEv (objs s) id = true := by rw [hf]; unfold isEv; rw [List.any_cons, decide_eq_true h2, decide_eq_true h3]; rfl
        rw [this]
        simp -implicitDefEqProofs (maxDischargeDepth := 12) only [WW,List.replicate,e_splice,if_true,if_false,ite_true,ite_false,true_or,ne_eq,Nat.reduceAdd,Nat.reduceSub,Nat.reduceMul,Nat.reduceLeDiff,Nat.reduceEqDiff,Nat.reduceGT,Nat.reduceLT,Int.reduceLE,Int.reduceLT,Int.reduceToNat,Int.reduceAdd,reduceCtorEq,h_putc,beq_self_eq_true,eq_self,exists_eq_left,exists_eq_left', hH1, l_of, h1, ho, o.enc_eq, id_eq, h2, h3]
        exact frz_sc
      · rw [isEv_skip (.inr h3)] at hf
        simp -implicitDefEqProofs (maxDischargeDepth := 12) only [WW,List.replicate,e_splice,if_true,if_false,ite_true,ite_false,true_or,ne_eq,Nat.reduceAdd,Nat.reduceSub,Nat.reduceMul,Nat.reduceLeDiff,Nat.reduceEqDiff,Nat.reduceGT,Nat.reduceLT,Int.reduceLE,Int.reduceLT,Int.reduceToNat,Int.reduceAdd,reduceCtorEq,h_putc,beq_self_eq_true,eq_self,exists_eq_left,exists_eq_left', hH1, l_of, h1, ho, o.enc_eq, id_eq, h2, h3, e2]
        exact ⟨k - 1, by omega, i + 1, by omega, rfl, hf, ex_x rfl⟩
    · rw [isEv_skip (.inl h2)] at hf
      simp -implicitDefEqProofs (maxDischargeDepth := 12) only [WW,List.replicate,e_splice,if_true,if_false,ite_true,ite_false,true_or,ne_eq,Nat.reduceAdd,Nat.reduceSub,Nat.reduceMul,Nat.reduceLeDiff,Nat.reduceEqDiff,Nat.reduceGT,Nat.reduceLT,Int.reduceLE,Int.reduceLT,Int.reduceToNat,Int.reduceAdd,reduceCtorEq,h_putc,beq_self_eq_true,eq_self,exists_eq_left,exists_eq_left', hH1, l_of, h1, ho, o.enc_eq, id_eq, h2, e2]
      exact ⟨k - 1, by omega, i + 1, by omega, rfl, hf, ex_x rfl⟩
  · rw [drop_end h1] at hf
    have : isEv (objs s) id = false := by rw [hf]; rfl
    rw [this]
    simp -implicitDefEqProofs (maxDischargeDepth := 12) only [WW,List.replicate,e_splice,if_true,if_false,ite_true,ite_false,true_or,ne_eq,Nat.reduceAdd,Nat.reduceSub,Nat.reduceMul,Nat.reduceLeDiff,Nat.reduceEqDiff,Nat.reduceGT,Nat.reduceLT,Int.reduceLE,Int.reduceLT,Int.reduceToNat,Int.reduceAdd,reduceCtorEq,h_putc,beq_self_eq_true,eq_self,exists_eq_left,exists_eq_left', hH1, l_of, h1]
    exact frz_sc
theorem row_Spanner : RowOf 7 Spanner.enc := ⟨by decide, fun _ => ⟨rfl, rfl⟩⟩
theorem own_imm {α : Type} {f : α → AV} {s : Sl α} {H : AHeap} {d : Nat} (hf : ∀ v, AV.closedB (f v) = true) : Own (d + 1) H (slm f s) (slm f s) [] := by
  cases s with
  | none => exact ⟨rfl, rfl⟩
  | some l => exact ⟨rfl, rfl, rfl, closedBs_map hf⟩
theorem spanners_frz {s : Score} {H : AHeap} {a : AV} {l : Sl Spanner} {fp : List Nat} (h : Acc 1 7 Spanner.enc H a l fp) :
    Frz (.agg [.sc (.str s.title), .sc (.bool s.written), slm Part.enc s.parts, slm Measure.enc s.measures, a, slm ID.enc s.last]) H (Score.enc { s with spanners := l }) := by
  obtain ⟨fq, hO, -⟩ := h.own row_Spanner
  refine OwnX.frz (I := true) (d := 3) (fp := [] ++ ([] ++ ([] ++ ([] ++ (fq ++ ([] ++ [])))))) ?_ (by decide)
  exact ⟨_, rfl, .cons .scal (.cons .scal (.cons (own_imm Part.enc_closed) (.cons (own_imm Measure.enc_closed) (.cons hO (.cons (own_imm ID.enc_closed) .nil Apart.nil_left) Apart.nil_right) Apart.nil_left) Apart.nil_left) Apart.nil_left) Apart.nil_left⟩
theorem rprune_pv (hp : pol.pure 16 = true) (hp2 : pol.pure 71 = true) (s : Score) (hT : Tame s) : Pv prog pol 30 [s.enc] s.pruned.enc := by
  refine Pv_of' ok30 (by simp only [AV.closedBs, Score.enc_closed, Bool.and_self]) ?_
  simp -implicitDefEqProofs (maxDischargeDepth := 12) only [wpF, cf30, WW,List.replicate,e_splice,if_true,if_false,ite_true,ite_false,true_or,ne_eq,Nat.reduceAdd,Nat.reduceSub,Nat.reduceMul,Nat.reduceLeDiff,Nat.reduceEqDiff,Nat.reduceGT,Nat.reduceLT,Int.reduceLE,Int.reduceLT,Int.reduceToNat,Int.reduceAdd,reduceCtorEq,h_putc,beq_self_eq_true,eq_self,exists_eq_left,exists_eq_left', s.enc_eq]
  have hb := hT.spanners
  refine wp_loop (Inv := fun k t H => ∃ (i : Nat) (fp : List Nat) (a : AV), i + k = s.spanners.l.length ∧ H.cells 0 = some s.enc.cells ∧ (∃ z, H.cells 1 = some z ∧ z.length = 6) ∧ Acc 1 7 Spanner.enc H a (Sl.of ((s.spanners.l.take i).filter fun p => isEv (objs s) p.from_ && isEv (objs s) p.to)) fp ∧ (∀ b ∈ fp, 2 ≤ b) ∧
    ∃ x : Nat → AV, t = [s.enc, .ptr 0 0, .ptr 1 0, a, .sc (.int .i64 i), x 5, x 6, x 7, x 8, x 9, x 10, x 11, x 12, x 13, x 14, x 15, x 16, x 17, x 18, x 19, x 20, x 21, x 22, x 23, x 24, x 25, x 26, x 27, x 28, x 29, x 30, x 31, x 32, x 33, x 34, x 35, x 36, x 37, x 38, x 39, x 40]) (k := s.spanners.l.length) ?_
    ⟨0, [], _, by omega, ?_, ?_, acc_none, by simp, ex_x rfl⟩
  rotate_left
  · simp -implicitDefEqProofs (maxDischargeDepth := 12) only [WW,List.replicate,e_splice,if_true,if_false,ite_true,ite_false,true_or,ne_eq,Nat.reduceAdd,Nat.reduceSub,Nat.reduceMul,Nat.reduceLeDiff,Nat.reduceEqDiff,Nat.reduceGT,Nat.reduceLT,Int.reduceLE,Int.reduceLT,Int.reduceToNat,Int.reduceAdd,reduceCtorEq,h_putc,beq_self_eq_true,eq_self,exists_eq_left,exists_eq_left']; rfl
  · exact ⟨_, by simp -implicitDefEqProofs (maxDischargeDepth := 12) only [WW,List.replicate,e_splice,if_true,if_false,ite_true,ite_false,true_or,ne_eq,Nat.reduceAdd,Nat.reduceSub,Nat.reduceMul,Nat.reduceLeDiff,Nat.reduceEqDiff,Nat.reduceGT,Nat.reduceLT,Int.reduceLE,Int.reduceLT,Int.reduceToNat,Int.reduceAdd,reduceCtorEq,h_putc,beq_self_eq_true,eq_self,exists_eq_left,exists_eq_left']; rfl, rfl⟩
  rintro k t H ⟨i, fp, a, hk, hH0, ⟨z, hH1, hz⟩, hA, hfp, x, rfl⟩
  simp only [s.enc_eq, c_agg] at hH0
  by_cases h1 : (i : Int) < (s.spanners.l.length : Int)
  · obtain ⟨o, ho⟩ : ∃ y, s.spanners.l[i]? = some y := ⟨_, List.getElem?_eq_getElem (by omega)⟩
    have e2 : IntKind.i64.wrap ((i : Int) + 1) = ((i + 1 : Nat) : Int) := by rw [w64 (by omega) (by omega)]; omega
    have ek : (s.spanners.l.take (i + 1)).filter (fun p => isEv (objs s) p.from_ && isEv (objs s) p.to) = (s.spanners.l.take i).filter (fun p => isEv (objs s) p.from_ && isEv (objs s) p.to) ++ (if isEv (objs s) o.from_ && isEv (objs s) o.to then [o] else []) := by
      rw [List.take_add_one, ho, List.filter_append]
      cases h : (isEv (objs s) o.from_ && isEv (objs s) o.to) <;> simp [h]
    simp -implicitDefEqProofs (maxDischargeDepth := 12) only [WW,List.replicate,e_splice,if_true,if_false,ite_true,ite_false,true_or,ne_eq,Nat.reduceAdd,Nat.reduceSub,Nat.reduceMul,Nat.reduceLeDiff,Nat.reduceEqDiff,Nat.reduceGT,Nat.reduceLT,Int.reduceLE,Int.reduceLT,Int.reduceToNat,Int.reduceAdd,reduceCtorEq,h_putc,beq_self_eq_true,eq_self,exists_eq_left,exists_eq_left', hH0, h1, ho, o.enc_eq]
    refine wA_pure hp2 (risEv_pv hp s hT o.from_) ?_
    cases hf : isEv (objs s) o.from_ with
    | false =>
      rw [hf, Bool.false_and, if_neg Bool.false_ne_true, List.append_nil] at ek
      simp -implicitDefEqProofs (maxDischargeDepth := 12) only [WW,List.replicate,e_splice,if_true,if_false,ite_true,ite_false,true_or,ne_eq,Nat.reduceAdd,Nat.reduceSub,Nat.reduceMul,Nat.reduceLeDiff,Nat.reduceEqDiff,Nat.reduceGT,Nat.reduceLT,Int.reduceLE,Int.reduceLT,Int.reduceToNat,Int.reduceAdd,reduceCtorEq,h_putc,beq_self_eq_true,eq_self,exists_eq_left,exists_eq_left', hH0, h1, ho, o.enc_eq, e2]
      exact ⟨k - 1, by omega, i + 1, fp, a, by omega, rfl, ⟨z, hH1, hz⟩, by rw [ek]; exact hA, hfp, ex_x rfl⟩
    | true =>
      simp -implicitDefEqProofs (maxDischargeDepth := 12) only [WW,List.replicate,e_splice,if_true,if_false,ite_true,ite_false,true_or,ne_eq,Nat.reduceAdd,Nat.reduceSub,Nat.reduceMul,Nat.reduceLeDiff,Nat.reduceEqDiff,Nat.reduceGT,Nat.reduceLT,Int.reduceLE,Int.reduceLT,Int.reduceToNat,Int.reduceAdd,reduceCtorEq,h_putc,beq_self_eq_true,eq_self,exists_eq_left,exists_eq_left', hH0, h1, ho, o.enc_eq, e2]
      refine wA_pure hp2 (risEv_pv hp s hT o.to) ?_
      cases ht : isEv (objs s) o.to with
      | false =>
        rw [hf, ht, Bool.and_false, if_neg Bool.false_ne_true, List.append_nil] at ek
        simp -implicitDefEqProofs (maxDischargeDepth := 12) only [WW,List.replicate,e_splice,if_true,if_false,ite_true,ite_false,true_or,ne_eq,Nat.reduceAdd,Nat.reduceSub,Nat.reduceMul,Nat.reduceLeDiff,Nat.reduceEqDiff,Nat.reduceGT,Nat.reduceLT,Int.reduceLE,Int.reduceLT,Int.reduceToNat,Int.reduceAdd,reduceCtorEq,h_putc,beq_self_eq_true,eq_self,exists_eq_left,exists_eq_left', hH0, h1, ho, o.enc_eq, e2]
        exact ⟨k - 1, by omega, i + 1, fp, a, by omega, rfl, ⟨z, hH1, hz⟩, by rw [ek]; exact hA, hfp, ex_x rfl⟩
      | true =>
        rw [hf, ht, Bool.and_self, if_pos rfl] at ek
        simp -implicitDefEqProofs (maxDischargeDepth := 12) only [WW,List.replicate,e_splice,if_true,if_false,ite_true,ite_false,true_or,ne_eq,Nat.reduceAdd,Nat.reduceSub,Nat.reduceMul,Nat.reduceLeDiff,Nat.reduceEqDiff,Nat.reduceGT,Nat.reduceLT,Int.reduceLE,Int.reduceLT,Int.reduceToNat,Int.reduceAdd,reduceCtorEq,h_putc,beq_self_eq_true,eq_self,exists_eq_left,exists_eq_left', hH0, h1, ho, o.enc_eq, e2]
        refine wA_app2 row_Spanner hA (by repeat (first | exact Keep.refl | refine Keep.put (by (try simp only [AHeap.next_alloc, AHeap.next_put]); omega) ?_ | refine Keep.alloc (by (try simp only [AHeap.next_alloc, AHeap.next_put]); omega) ?_)) (by simp) (ys := [o]) (by simp) rfl (asrc_new (by simp) rfl) (own_one (Spanner.enc_plain _) o.enc_eq) Apart.nil_right ?_ ?_
        · rw [l_of]
          have := List.length_filter_le (fun p : Spanner => isEv (objs s) p.from_ && isEv (objs s) p.to) (s.spanners.l.take i)
          simp only [List.length_take, List.length_cons, List.length_nil] at this ⊢; omega
        intro v' H2 fp' hA' hn2 hk2 hfp2 ho2 hc2
        rw [of_snoc', ← ek] at hA'
        have g0 := (hk2 0 (fun h => by have := hfp 0 h; omega) (h_lt hH0)).trans hH0
        have g1 := (hk2 1 (fun h => by have := hfp 1 h; omega) (h_lt hH1)).trans hH1
        have hfp3 : ∀ b ∈ fp', 2 ≤ b := fun b hb => by
          rcases hfp2 b hb with h | h | h
          · exact hfp b h
          · simp at h
          · have := h_lt hH1; omega
        simp -implicitDefEqProofs (maxDischargeDepth := 12) only [WW,List.replicate,e_splice,if_true,if_false,ite_true,ite_false,true_or,ne_eq,Nat.reduceAdd,Nat.reduceSub,Nat.reduceMul,Nat.reduceLeDiff,Nat.reduceEqDiff,Nat.reduceGT,Nat.reduceLT,Int.reduceLE,Int.reduceLT,Int.reduceToNat,Int.reduceAdd,reduceCtorEq,h_putc,beq_self_eq_true,eq_self,exists_eq_left,exists_eq_left', e2]
        exact ⟨k - 1, by omega, i + 1, fp', v', by omega, g0, ⟨z, g1, hz⟩, hA', hfp3, ex_x rfl⟩
  · have ek : s.spanners.l.take i = s.spanners.l := List.take_of_length_le (by omega)
    rw [ek] at hA
    have hl1 : 0 < H.next := h_lt hH0
    have hl2 : 1 < H.next := h_lt hH1
    have hA1 : ∀ x y, Acc 1 7 Spanner.enc ((H.put 0 x).put 1 y) a (Sl.of (s.spanners.l.filter fun p => isEv (objs s) p.from_ && isEv (objs s) p.to)) fp := fun x y => hA.fr fun b hb => by
      have := hfp b hb
      rw [cells_of_get (AHeap.get_put_ne _ y (show b ≠ 1 by omega)), cells_of_get (AHeap.get_put_ne _ x (show b ≠ 0 by omega))]
    simp -implicitDefEqProofs (maxDischargeDepth := 12) only [WW,List.replicate,e_splice,if_true,if_false,ite_true,ite_false,true_or,ne_eq,Nat.reduceAdd,Nat.reduceSub,Nat.reduceMul,Nat.reduceLeDiff,Nat.reduceEqDiff,Nat.reduceGT,Nat.reduceLT,Int.reduceLE,Int.reduceLT,Int.reduceToNat,Int.reduceAdd,reduceCtorEq,h_putc,beq_self_eq_true,eq_self,exists_eq_left,exists_eq_left', hH0, hH1, h1, hA.cells, hA.one, hz]
    exact spanners_frz (hA1 _ _)
end Go.Hem
/- Walks: the reference's counts of staves. -/
set_option maxRecDepth 10000
set_option linter.unusedSimpArgs false
set_option linter.unusedVariables false
namespace Go.Hem
variable {pol : Pol}

end Go.Hem
/- Walks: the part of a staff. -/
set_option maxRecDepth 10000
set_option linter.unusedSimpArgs false
set_option linter.unusedVariables false
namespace Go.Hem
variable {pol : Pol}

end Go.Hem
/- Walks: score.PartOf. -/
set_option maxRecDepth 10000
set_option linter.unusedSimpArgs false
set_option linter.unusedVariables false
namespace Go.Hem
variable {pol : Pol}
end Go.Hem
/- Walks: shortPart. -/
set_option maxRecDepth 10000
set_option linter.unusedSimpArgs false
set_option linter.unusedVariables false
namespace Go.Hem
variable {pol : Pol}
theorem min_cast (n m : Nat) : (if (m : Int) < (n : Int) then (m : Int) else (n : Int)) = ((min n m : Nat) : Int) := by split <;> omega
theorem min20 (n : Nat) : (if (20 : Int) < (n : Int) then (20 : Int) else (n : Int)) = ((min n 20 : Nat) : Int) := min_cast n 20
theorem min3 (n : Nat) : (if (3 : Int) < (n : Int) then (3 : Int) else (n : Int)) = ((min n 3 : Nat) : Int) := min_cast n 3
theorem slm_take {α : Type} {f : α → AV} {s : Sl α} {n : Nat} : slm f (s.map fun x => x.take (min s.l.length n)) = slm f (s.map (·.take n)) := by
  cases s with
  | none => rfl
  | some l =>
    have e : l.take (min l.length n) = l.take n := by rw [List.take_eq_take_iff]; omega
    simp only [Option.map_some, l_some, e]
def Part.short (p : Part) : Part := { p with name := p.name.extract 0 (min p.name.size 20), staves := p.staves.map (·.take 3) }
theorem shortPart_pv (p : Part) : Pv prog pol 58 [p.enc] p.short.enc := by
  refine Pv_of' ok58 (by simp [AV.closedBs, Part.enc_closed]) ?_
  simp -implicitDefEqProofs (maxDischargeDepth := 12) only [wpF, cf58, WW,List.replicate,e_splice,if_true,if_false,ite_true,ite_false,true_or,ne_eq,Nat.reduceAdd,Nat.reduceSub,Nat.reduceMul,Nat.reduceLeDiff,Nat.reduceEqDiff,Nat.reduceGT,Nat.reduceLT,Int.reduceLE,Int.reduceLT,Int.reduceToNat,Int.reduceAdd,reduceCtorEq,h_putc,beq_self_eq_true,eq_self,exists_eq_left,exists_eq_left', p.enc_eq, min20, min3, e_cutm Staff.enc_len, Nat.min_le_left, slm_take]
  exact frz_plain rfl (Part.enc_plain _)
end Go.Hem
/- Walks: shortLyrics. -/
set_option maxRecDepth 10000
set_option linter.unusedSimpArgs false
set_option linter.unusedVariables false
namespace Go.Hem
variable {pol : Pol}
theorem of_snoc {α : Type} {l : List α} {y : α} : (some (Sl.l (Sl.of l) ++ [y]) : Sl α) = Sl.of (l ++ [y]) := by
  rw [l_of]; unfold Sl.of; cases l <;> rfl
theorem take_snoc {α : Type} {l : List α} {i : Nat} {y : α} (h : l[i]? = some y) : l.take (i + 1) = l.take i ++ [y] := by
  simp [List.take_add_one, h]
def Syllable.short (x : Syllable) : Syllable := { x with text := x.text.extract 0 (min x.text.size 260) }
def shortLyrics (s : Sl Syllable) : Sl Syllable := Sl.of ((s.l.take 6).map Syllable.short)
theorem row_Syllable : RowOf 2 Syllable.enc := ⟨by decide, fun _ => ⟨rfl, rfl⟩⟩
theorem min260 (n : Nat) : (if (260 : Int) < (n : Int) then (260 : Int) else (n : Int)) = ((min n 260 : Nat) : Int) := min_cast n 260
theorem shortLyrics_pv (s : Sl Syllable) : Pv prog pol 96 [slm Syllable.enc s] (slm Syllable.enc (shortLyrics s)) := by
  refine Pv_of' ok96 (by simp only [AV.closedBs, closedB_slm Syllable.enc_closed, Bool.and_self]) ?_
  simp -implicitDefEqProofs (maxDischargeDepth := 12) only [wpF, cf96, WW,List.replicate,e_splice,if_true,if_false,ite_true,ite_false,true_or,ne_eq,Nat.reduceAdd,Nat.reduceSub,Nat.reduceMul,Nat.reduceLeDiff,Nat.reduceEqDiff,Nat.reduceGT,Nat.reduceLT,Int.reduceLE,Int.reduceLT,Int.reduceToNat,Int.reduceAdd,reduceCtorEq,h_putc,beq_self_eq_true,eq_self,exists_eq_left,exists_eq_left']
  refine wp_loop (Inv := fun k t H => ∃ (i : Nat) (fp : List Nat) (a : AV), i + k = 6 ∧ i ≤ s.l.length ∧
    Acc 1 2 Syllable.enc H a (Sl.of ((s.l.take i).map Syllable.short)) fp ∧ ∃ x : Nat → AV, t = [slm Syllable.enc s, .sc .undef, .sc .nils, a, .sc (.int .i64 i), x 5, x 6, x 7, x 8, x 9, x 10, x 11, x 12, x 13, x 14, x 15, x 16, x 17, x 18, x 19, x 20, x 21, x 22, x 23, x 24, x 25, x 26, x 27, x 28, x 29, x 30, x 31, .sc .undef]) (k := 6) ?_
    ⟨0, [], _, rfl, Nat.zero_le _, acc_none, ex_x rfl⟩
  rintro k t H ⟨i, fp, a, hk, hi, hA, x, rfl⟩
  by_cases h1 : (i : Int) < (s.l.length : Int)
  · by_cases h2 : (i : Int) < 6
    · obtain ⟨y, hy⟩ : ∃ y, s.l[i]? = some y := ⟨_, List.getElem?_eq_getElem (by omega)⟩
      have e2 : IntKind.i64.wrap ((i : Int) + 1) = ((i + 1 : Nat) : Int) := by rw [w64 (by omega) (by omega)]; omega
      simp -implicitDefEqProofs (maxDischargeDepth := 12) only [WW,List.replicate,e_splice,if_true,if_false,ite_true,ite_false,true_or,ne_eq,Nat.reduceAdd,Nat.reduceSub,Nat.reduceMul,Nat.reduceLeDiff,Nat.reduceEqDiff,Nat.reduceGT,Nat.reduceLT,Int.reduceLE,Int.reduceLT,Int.reduceToNat,Int.reduceAdd,reduceCtorEq,h_putc,beq_self_eq_true,eq_self,exists_eq_left,exists_eq_left', h1, h2, hy, y.enc_eq, min260, Nat.min_le_left]
      refine wA_app row_Syllable (hA.keep (by repeat (first | exact Keep.refl | refine Keep.put (by (try simp only [AHeap.next_alloc, AHeap.next_put]); omega) ?_ | refine Keep.alloc (by (try simp only [AHeap.next_alloc, AHeap.next_put]); omega) ?_))) (ys := [y.short]) (by simp) rfl (asrc_new (by simp) rfl) (own_one (Syllable.enc_plain y.short) y.short.enc_eq) Apart.nil_right ?_ ?_
      · rw [l_of]; simp only [List.length_map, List.length_take, List.length_cons, List.length_nil]; omega
      intro v' H' fp' hA' hn hk hfp
      rw [of_snoc, ← List.map_singleton, ← List.map_append, ← take_snoc hy] at hA'
      simp -implicitDefEqProofs (maxDischargeDepth := 12) only [WW,List.replicate,e_splice,if_true,if_false,ite_true,ite_false,true_or,ne_eq,Nat.reduceAdd,Nat.reduceSub,Nat.reduceMul,Nat.reduceLeDiff,Nat.reduceEqDiff,Nat.reduceGT,Nat.reduceLT,Int.reduceLE,Int.reduceLT,Int.reduceToNat,Int.reduceAdd,reduceCtorEq,h_putc,beq_self_eq_true,eq_self,exists_eq_left,exists_eq_left', e2]
      exact ⟨k - 1, by omega, i + 1, _, _, by omega, by omega, hA', ex_x rfl⟩
    · simp -implicitDefEqProofs (maxDischargeDepth := 12) only [WW,List.replicate,e_splice,if_true,if_false,ite_true,ite_false,true_or,ne_eq,Nat.reduceAdd,Nat.reduceSub,Nat.reduceMul,Nat.reduceLeDiff,Nat.reduceEqDiff,Nat.reduceGT,Nat.reduceLT,Int.reduceLE,Int.reduceLT,Int.reduceToNat,Int.reduceAdd,reduceCtorEq,h_putc,beq_self_eq_true,eq_self,exists_eq_left,exists_eq_left', h1, h2]
      have e : (s.l.take i) = s.l.take 6 := by rw [show i = 6 by omega]
      rw [e] at hA
      exact hA.frz row_Syllable (by omega)
  · simp -implicitDefEqProofs (maxDischargeDepth := 12) only [WW,List.replicate,e_splice,if_true,if_false,ite_true,ite_false,true_or,ne_eq,Nat.reduceAdd,Nat.reduceSub,Nat.reduceMul,Nat.reduceLeDiff,Nat.reduceEqDiff,Nat.reduceGT,Nat.reduceLT,Int.reduceLE,Int.reduceLT,Int.reduceToNat,Int.reduceAdd,reduceCtorEq,h_putc,beq_self_eq_true,eq_self,exists_eq_left,exists_eq_left', h1]
    have e : (s.l.take i) = s.l.take 6 := by rw [List.take_of_length_le (by omega), List.take_of_length_le (by omega)]
    rw [e] at hA
    exact hA.frz row_Syllable (by omega)
end Go.Hem
/- Walks: L11.Short. -/
set_option maxRecDepth 10000
set_option linter.unusedSimpArgs false
set_option linter.unusedVariables false
namespace Go.Hem
variable {pol : Pol}
theorem min12 (n : Nat) : (if (12 : Int) < (n : Int) then (12 : Int) else (n : Int)) = ((min n 12 : Nat) : Int) := min_cast n 12
theorem min6 (n : Nat) : (if (6 : Int) < (n : Int) then (6 : Int) else (n : Int)) = ((min n 6 : Nat) : Int) := min_cast n 6
theorem min4 (n : Nat) : (if (4 : Int) < (n : Int) then (4 : Int) else (n : Int)) = ((min n 4 : Nat) : Int) := min_cast n 4
def Event.short (e : Event) : Event := { e with heads := e.heads.map (·.take 12), graces := e.graces.map (·.take 12), lyrics := shortLyrics e.lyrics }
theorem shortEvent_pv (hp : pol.pure 96 = true) (e : Event) : Pv prog pol 46 [e.enc] e.short.enc := by
  refine Pv_of' ok46 (by simp only [AV.closedBs, Event.enc_closed, Bool.and_self]) ?_
  simp -implicitDefEqProofs (maxDischargeDepth := 12) only [wpF, cf46, WW,List.replicate,e_splice,if_true,if_false,ite_true,ite_false,true_or,ne_eq,Nat.reduceAdd,Nat.reduceSub,Nat.reduceMul,Nat.reduceLeDiff,Nat.reduceEqDiff,Nat.reduceGT,Nat.reduceLT,Int.reduceLE,Int.reduceLT,Int.reduceToNat,Int.reduceAdd,reduceCtorEq,h_putc,beq_self_eq_true,eq_self,exists_eq_left,exists_eq_left', e.enc_eq, min12, e_cutm Head.enc_len, e_cutm Grace.enc_len, Nat.min_le_left, slm_take]
  refine wA_pure hp (shortLyrics_pv e.lyrics) ?_
  simp -implicitDefEqProofs (maxDischargeDepth := 12) only [WW,List.replicate,e_splice,if_true,if_false,ite_true,ite_false,true_or,ne_eq,Nat.reduceAdd,Nat.reduceSub,Nat.reduceMul,Nat.reduceLeDiff,Nat.reduceEqDiff,Nat.reduceGT,Nat.reduceLT,Int.reduceLE,Int.reduceLT,Int.reduceToNat,Int.reduceAdd,reduceCtorEq,h_putc,beq_self_eq_true,eq_self,exists_eq_left,exists_eq_left']
  exact frz_plain rfl (Event.enc_plain _)
end Go.Hem
/- Walks: shortCell. -/
set_option maxRecDepth 10000
set_option linter.unusedSimpArgs false
set_option linter.unusedVariables false
namespace Go.Hem
variable {pol : Pol}
def Voice.short (v : Voice) : Voice := { events := Sl.of ((v.events.l.take 5).map Event.short), tuplets := v.tuplets.map (·.take 3) }
def Cell.short (c : Cell) : Cell := { clefs := c.clefs.map (·.take 3), voices := Sl.of ((c.voices.l.take 3).map Voice.short) }
theorem row_Event : RowOf 13 Event.enc := ⟨by decide, fun _ => ⟨rfl, rfl⟩⟩
theorem row_Voice : RowOf 2 Voice.enc := ⟨by decide, fun _ => ⟨rfl, rfl⟩⟩
theorem row_Cell : RowOf 2 Cell.enc := ⟨by decide, fun _ => ⟨rfl, rfl⟩⟩
theorem row_Measure : RowOf 22 Measure.enc := ⟨by decide, fun _ => ⟨rfl, rfl⟩⟩
theorem row_Part : RowOf 6 Part.enc := ⟨by decide, fun _ => ⟨rfl, rfl⟩⟩
theorem shortCell_pv (hp : pol.pure 46 = true) (hp2 : pol.pure 96 = true) (c : Cell) : Pv prog pol 59 [c.enc] c.short.enc := by
  refine Pv_of' ok59 (by simp only [AV.closedBs, Cell.enc_closed, Bool.and_self]) ?_
  simp -implicitDefEqProofs (maxDischargeDepth := 12) only [wpF, cf59, WW,List.replicate,e_splice,if_true,if_false,ite_true,ite_false,true_or,ne_eq,Nat.reduceAdd,Nat.reduceSub,Nat.reduceMul,Nat.reduceLeDiff,Nat.reduceEqDiff,Nat.reduceGT,Nat.reduceLT,Int.reduceLE,Int.reduceLT,Int.reduceToNat,Int.reduceAdd,reduceCtorEq,h_putc,beq_self_eq_true,eq_self,exists_eq_left,exists_eq_left', c.enc_eq, min3, e_cutm ClefChange.enc_len, Nat.min_le_left, slm_take]
  refine wp_loop (Inv := fun k t H => ∃ (i : Nat) (fp : List Nat) (a : AV), i + k = 3 ∧ i ≤ c.voices.l.length ∧ H.cells 0 = some [slm ClefChange.enc c.clefs, slm Voice.enc c.voices] ∧ H.cells 1 = some [.sc .nils, .sc .nils] ∧
    H.cells 2 = some [slm ClefChange.enc c.short.clefs, a] ∧ Acc 3 2 Voice.enc H a (Sl.of ((c.voices.l.take i).map Voice.short)) fp ∧ (∀ b ∈ fp, 3 ≤ b) ∧
    ∃ x : Nat → AV, t = [.agg [slm ClefChange.enc c.clefs, slm Voice.enc c.voices], .ptr 0 0, .ptr 1 0, .ptr 2 0, .sc (.int .i64 i), x 5, x 6, x 7, x 8, x 9, x 10, x 11, x 12, x 13, x 14, x 15, x 16, x 17, x 18, x 19, x 20, x 21, x 22, x 23, x 24, x 25, x 26, x 27, x 28, x 29, x 30, x 31, x 32, x 33, x 34, x 35, x 36, x 37, x 38, x 39, x 40, x 41, x 42, x 43, x 44, x 45, x 46, x 47, x 48, x 49, x 50, x 51, x 52, x 53, x 54, x 55, x 56, x 57, x 58, x 59, x 60, x 61, x 62, x 63, x 64, x 65, x 66, x 67, x 68, x 69, x 70, x 71, x 72, x 73, x 74, x 75, x 76, x 77, .sc .undef]) (k := 3) ?_
    ⟨0, [], _, rfl, Nat.zero_le _, ?_, ?_, ?_, acc_none, by simp, ex_x rfl⟩
  rotate_left
  · simp -implicitDefEqProofs (maxDischargeDepth := 12) only [WW,List.replicate,e_splice,if_true,if_false,ite_true,ite_false,true_or,ne_eq,Nat.reduceAdd,Nat.reduceSub,Nat.reduceMul,Nat.reduceLeDiff,Nat.reduceEqDiff,Nat.reduceGT,Nat.reduceLT,Int.reduceLE,Int.reduceLT,Int.reduceToNat,Int.reduceAdd,reduceCtorEq,h_putc,beq_self_eq_true,eq_self,exists_eq_left,exists_eq_left']
  · simp -implicitDefEqProofs (maxDischargeDepth := 12) only [WW,List.replicate,e_splice,if_true,if_false,ite_true,ite_false,true_or,ne_eq,Nat.reduceAdd,Nat.reduceSub,Nat.reduceMul,Nat.reduceLeDiff,Nat.reduceEqDiff,Nat.reduceGT,Nat.reduceLT,Int.reduceLE,Int.reduceLT,Int.reduceToNat,Int.reduceAdd,reduceCtorEq,h_putc,beq_self_eq_true,eq_self,exists_eq_left,exists_eq_left']
  · simp -implicitDefEqProofs (maxDischargeDepth := 12) only [WW,List.replicate,e_splice,if_true,if_false,ite_true,ite_false,true_or,ne_eq,Nat.reduceAdd,Nat.reduceSub,Nat.reduceMul,Nat.reduceLeDiff,Nat.reduceEqDiff,Nat.reduceGT,Nat.reduceLT,Int.reduceLE,Int.reduceLT,Int.reduceToNat,Int.reduceAdd,reduceCtorEq,h_putc,beq_self_eq_true,eq_self,exists_eq_left,exists_eq_left']; rfl
  rintro k t H ⟨i, fp, a, hk, hi, hH0, hH1, hH2, hA, hfp, x, rfl⟩
  by_cases h1 : (i : Int) < (c.voices.l.length : Int)
  · by_cases h2 : (i : Int) < 3
    · obtain ⟨y, hy⟩ : ∃ y, c.voices.l[i]? = some y := ⟨_, List.getElem?_eq_getElem (by omega)⟩
      have e2 : IntKind.i64.wrap ((i : Int) + 1) = ((i + 1 : Nat) : Int) := by rw [w64 (by omega) (by omega)]; omega
      simp -implicitDefEqProofs (maxDischargeDepth := 12) only [WW,List.replicate,e_splice,if_true,if_false,ite_true,ite_false,true_or,ne_eq,Nat.reduceAdd,Nat.reduceSub,Nat.reduceMul,Nat.reduceLeDiff,Nat.reduceEqDiff,Nat.reduceGT,Nat.reduceLT,Int.reduceLE,Int.reduceLT,Int.reduceToNat,Int.reduceAdd,reduceCtorEq,h_putc,beq_self_eq_true,eq_self,exists_eq_left,exists_eq_left', hH0, h1, h2, hy, y.enc_eq, min3, e_cutm Tuplet.enc_len, Nat.min_le_left, slm_take]
      have e0 := hA.lts
      refine wp_loop (Inv := fun k' t H' => ∃ (j : Nat) (fq : List Nat) (ev : AV), j + k' = 5 ∧ j ≤ y.events.l.length ∧ H'.cells 0 = some [slm ClefChange.enc c.clefs, slm Voice.enc c.voices] ∧ H'.cells 1 = some [.sc .nils, .sc .nils] ∧
        H'.cells 2 = some [slm ClefChange.enc c.short.clefs, a] ∧ Acc 3 2 Voice.enc H' a (Sl.of ((c.voices.l.take i).map Voice.short)) fp ∧ H.next < H'.next ∧ H'.cells H.next = some [ev, slm Tuplet.enc y.short.tuplets] ∧
        Acc 2 13 Event.enc H' ev (Sl.of ((y.events.l.take j).map Event.short)) fq ∧ (∀ b ∈ fq, H.next < b) ∧
        ∃ x : Nat → AV, t = [.agg [slm ClefChange.enc c.clefs, slm Voice.enc c.voices], .ptr 0 0, .ptr 1 0, .ptr 2 0, .sc (.int .i64 i), .ptr H.next 0, .sc (.int .i64 j), x 7, x 8, x 9, x 10, x 11, x 12, x 13, x 14, x 15, x 16, x 17, x 18, x 19, x 20, x 21, x 22, x 23, x 24, x 25, x 26, x 27, x 28, x 29, x 30, x 31, x 32, x 33, x 34, x 35, x 36, x 37, x 38, x 39, x 40, x 41, x 42, x 43, x 44, x 45, x 46, x 47, x 48, x 49, x 50, x 51, x 52, x 53, x 54, x 55, x 56, x 57, x 58, x 59, x 60, x 61, x 62, x 63, x 64, x 65, x 66, x 67, x 68, x 69, x 70, x 71, x 72, x 73, x 74, x 75, x 76, x 77, .sc .undef]) (k := 5) ?_
        ⟨0, [], _, rfl, Nat.zero_le _, ?_, ?_, ?_, hA.keep (by repeat (first | exact Keep.refl | refine Keep.put (by (try simp only [AHeap.next_alloc, AHeap.next_put]); omega) ?_ | refine Keep.alloc (by (try simp only [AHeap.next_alloc, AHeap.next_put]); omega) ?_)), ?_, ?_, acc_none, by simp, ex_x rfl⟩
      rotate_left
      · have := h_lt hH0
        simp -implicitDefEqProofs (maxDischargeDepth := 12) only [WW,List.replicate,e_splice,if_true,if_false,ite_true,ite_false,true_or,ne_eq,Nat.reduceAdd,Nat.reduceSub,Nat.reduceMul,Nat.reduceLeDiff,Nat.reduceEqDiff,Nat.reduceGT,Nat.reduceLT,Int.reduceLE,Int.reduceLT,Int.reduceToNat,Int.reduceAdd,reduceCtorEq,h_putc,beq_self_eq_true,eq_self,exists_eq_left,exists_eq_left', hH0, show ¬ 0 = H.next by omega]
      · have := h_lt hH1
        simp -implicitDefEqProofs (maxDischargeDepth := 12) only [WW,List.replicate,e_splice,if_true,if_false,ite_true,ite_false,true_or,ne_eq,Nat.reduceAdd,Nat.reduceSub,Nat.reduceMul,Nat.reduceLeDiff,Nat.reduceEqDiff,Nat.reduceGT,Nat.reduceLT,Int.reduceLE,Int.reduceLT,Int.reduceToNat,Int.reduceAdd,reduceCtorEq,h_putc,beq_self_eq_true,eq_self,exists_eq_left,exists_eq_left', hH1, show ¬ 1 = H.next by omega]
      · have := h_lt hH2
        simp -implicitDefEqProofs (maxDischargeDepth := 12) only [WW,List.replicate,e_splice,if_true,if_false,ite_true,ite_false,true_or,ne_eq,Nat.reduceAdd,Nat.reduceSub,Nat.reduceMul,Nat.reduceLeDiff,Nat.reduceEqDiff,Nat.reduceGT,Nat.reduceLT,Int.reduceLE,Int.reduceLT,Int.reduceToNat,Int.reduceAdd,reduceCtorEq,h_putc,beq_self_eq_true,eq_self,exists_eq_left,exists_eq_left', hH2, show ¬ 2 = H.next by omega]
      · simp
      · simp -implicitDefEqProofs (maxDischargeDepth := 12) only [WW,List.replicate,e_splice,if_true,if_false,ite_true,ite_false,true_or,ne_eq,Nat.reduceAdd,Nat.reduceSub,Nat.reduceMul,Nat.reduceLeDiff,Nat.reduceEqDiff,Nat.reduceGT,Nat.reduceLT,Int.reduceLE,Int.reduceLT,Int.reduceToNat,Int.reduceAdd,reduceCtorEq,h_putc,beq_self_eq_true,eq_self,exists_eq_left,exists_eq_left']; rfl
      have l2 := h_lt hH2
      clear hH0 hH1 hH2 hA x
      rintro k' t H' ⟨j, fq, ev, hk', hj, hH0, hH1, hH2, hA, hn, hbv, hE, hfq, x, rfl⟩
      by_cases h3 : (j : Int) < (y.events.l.length : Int)
      · by_cases h4 : (j : Int) < 5
        · obtain ⟨z, hz⟩ : ∃ z, y.events.l[j]? = some z := ⟨_, List.getElem?_eq_getElem (by omega)⟩
          have e3 : IntKind.i64.wrap ((j : Int) + 1) = ((j + 1 : Nat) : Int) := by rw [w64 (by omega) (by omega)]; omega
          simp -implicitDefEqProofs (maxDischargeDepth := 12) only [WW,List.replicate,e_splice,if_true,if_false,ite_true,ite_false,true_or,ne_eq,Nat.reduceAdd,Nat.reduceSub,Nat.reduceMul,Nat.reduceLeDiff,Nat.reduceEqDiff,Nat.reduceGT,Nat.reduceLT,Int.reduceLE,Int.reduceLT,Int.reduceToNat,Int.reduceAdd,reduceCtorEq,h_putc,beq_self_eq_true,eq_self,exists_eq_left,exists_eq_left', hH0, hH1, hH2, hbv, h3, h4, hy, hz, y.enc_eq, z.enc_eq]
          refine wA_pure hp (shortEvent_pv hp2 z) ?_
          simp -implicitDefEqProofs (maxDischargeDepth := 12) only [WW,List.replicate,e_splice,if_true,if_false,ite_true,ite_false,true_or,ne_eq,Nat.reduceAdd,Nat.reduceSub,Nat.reduceMul,Nat.reduceLeDiff,Nat.reduceEqDiff,Nat.reduceGT,Nat.reduceLT,Int.reduceLE,Int.reduceLT,Int.reduceToNat,Int.reduceAdd,reduceCtorEq,h_putc,beq_self_eq_true,eq_self,exists_eq_left,exists_eq_left', z.short.enc_eq]
          refine wA_app2 row_Event hE (by repeat (first | exact Keep.refl | refine Keep.put (by (try simp only [AHeap.next_alloc, AHeap.next_put]); omega) ?_ | refine Keep.alloc (by (try simp only [AHeap.next_alloc, AHeap.next_put]); omega) ?_)) (by simp) (ys := [z.short]) (by simp) rfl (asrc_new (by simp) rfl) (own_one (Event.enc_plain z.short) z.short.enc_eq) Apart.nil_right ?_ ?_
          · rw [l_of]; simp only [List.length_map, List.length_take, List.length_cons, List.length_nil]; omega
          intro v' H2 fp' hA' hn2 hk2 hfp2 ho2 hc2
          rw [of_snoc, ← List.map_singleton, ← List.map_append, ← take_snoc hz] at hA'
          have g0 := (hk2 0 (fun h => by have := hfq 0 h; omega) (by omega)).trans hH0
          have g1 := (hk2 1 (fun h => by have := hfq 1 h; omega) (by omega)).trans hH1
          have g2 := (hk2 2 (fun h => by have := hfq 2 h; omega) (by omega)).trans hH2
          have gb := (hk2 H.next (fun h => by have := hfq _ h; omega) (by omega)).trans hbv
          have hfp3 : ∀ b ∈ fp', H.next < b := fun b hb => by
            rcases hfp2 b hb with h | h | h
            · exact hfq b h
            · simp at h
            · omega
          simp -implicitDefEqProofs (maxDischargeDepth := 12) only [WW,List.replicate,e_splice,if_true,if_false,ite_true,ite_false,true_or,ne_eq,Nat.reduceAdd,Nat.reduceSub,Nat.reduceMul,Nat.reduceLeDiff,Nat.reduceEqDiff,Nat.reduceGT,Nat.reduceLT,Int.reduceLE,Int.reduceLT,Int.reduceToNat,Int.reduceAdd,reduceCtorEq,h_putc,beq_self_eq_true,eq_self,exists_eq_left,exists_eq_left', e3, g0, g1, g2, gb, ho2, hc2, show ¬ 0 = H.next by omega, show ¬ 1 = H.next by omega, show ¬ 2 = H.next by omega]
          refine ⟨k' - 1, by omega, j + 1, fp', v', by omega, by omega, ?_, by omega, rfl, hA'.fr fun b hb => h_put_ne (by have := hfp3 b hb; omega), hfp3, ex_x rfl⟩
          exact hA.fr fun b hb => by
              have := e0 b hb
              rw [h_put_ne (by omega), hk2 b (fun h => by have := hfq b h; omega) (by omega)]
        · simp -implicitDefEqProofs (maxDischargeDepth := 12) only [WW,List.replicate,e_splice,if_true,if_false,ite_true,ite_false,true_or,ne_eq,Nat.reduceAdd,Nat.reduceSub,Nat.reduceMul,Nat.reduceLeDiff,Nat.reduceEqDiff,Nat.reduceGT,Nat.reduceLT,Int.reduceLE,Int.reduceLT,Int.reduceToNat,Int.reduceAdd,reduceCtorEq,h_putc,beq_self_eq_true,eq_self,exists_eq_left,exists_eq_left', hH0, hH1, hH2, hbv, h3, h4, hy, y.enc_eq, hE.one]
          have hj5 : y.events.l.take j = y.events.l.take 5 := by rw [List.take_eq_take_iff]; omega
          rw [hj5] at hE
          obtain ⟨fq', hOE, hq'⟩ := hE.own row_Event
          refine wA_app2 row_Voice hA (by repeat (first | exact Keep.refl | refine Keep.put (by (try simp only [AHeap.next_alloc, AHeap.next_put]); omega) ?_ | refine Keep.alloc (by (try simp only [AHeap.next_alloc, AHeap.next_put]); omega) ?_)) (by simp) (ys := [y.short]) (by simp) rfl (asrc_new (by simp) rfl) (.cons (hOE.keep (by repeat (first | exact Keep.refl | refine Keep.put (by (try simp only [AHeap.next_alloc, AHeap.next_put]); omega) ?_ | refine Keep.alloc (by (try simp only [AHeap.next_alloc, AHeap.next_put]); omega) ?_))) (OwnL.single (Own.plain (plain1_slm Tuplet.enc_closed))) Apart.nil_right) ?_ ?_ ?_
          · intro b hb hb2
            have := e0 b hb
            rcases List.mem_append.1 hb2 with h | h
            · have := hfq b (hq' b h); omega
            · simp at h
          · rw [l_of]; simp only [List.length_map, List.length_take, List.length_cons, List.length_nil]; omega
          intro v' H2 fp' hA' hn2 hk2 hfp2 ho2 hc2
          rw [of_snoc, ← List.map_singleton, ← List.map_append, ← take_snoc hy] at hA'
          have g0 := (hk2 0 (fun h => by have := hfp 0 h; omega) (by omega)).trans hH0
          have g1 := (hk2 1 (fun h => by have := hfp 1 h; omega) (by omega)).trans hH1
          have g2 := (hk2 2 (fun h => by have := hfp 2 h; omega) (by omega)).trans hH2
          have hfp3 : ∀ b ∈ fp', 3 ≤ b := fun b hb => by
            rcases hfp2 b hb with h | h | h
            · exact hfp b h
            · rcases List.mem_append.1 h with h | h
              · have := hfq b (hq' b h); omega
              · simp at h
            · omega
          simp -implicitDefEqProofs (maxDischargeDepth := 12) only [WW,List.replicate,e_splice,if_true,if_false,ite_true,ite_false,true_or,ne_eq,Nat.reduceAdd,Nat.reduceSub,Nat.reduceMul,Nat.reduceLeDiff,Nat.reduceEqDiff,Nat.reduceGT,Nat.reduceLT,Int.reduceLE,Int.reduceLT,Int.reduceToNat,Int.reduceAdd,reduceCtorEq,h_putc,beq_self_eq_true,eq_self,exists_eq_left,exists_eq_left', e2, g0, g1, g2, ho2, hc2]
          exact ⟨k - 1, by omega, i + 1, fp', v', by omega, by omega, rfl, hA'.fr fun b hb => h_put_ne (by have := hfp3 b hb; omega), hfp3, ex_x rfl⟩
      · simp -implicitDefEqProofs (maxDischargeDepth := 12) only [WW,List.replicate,e_splice,if_true,if_false,ite_true,ite_false,true_or,ne_eq,Nat.reduceAdd,Nat.reduceSub,Nat.reduceMul,Nat.reduceLeDiff,Nat.reduceEqDiff,Nat.reduceGT,Nat.reduceLT,Int.reduceLE,Int.reduceLT,Int.reduceToNat,Int.reduceAdd,reduceCtorEq,h_putc,beq_self_eq_true,eq_self,exists_eq_left,exists_eq_left', hH0, hH1, hH2, hbv, h3, hy, y.enc_eq, hE.one]
        have hj5 : y.events.l.take j = y.events.l.take 5 := by rw [List.take_eq_take_iff]; omega
        rw [hj5] at hE
        obtain ⟨fq', hOE, hq'⟩ := hE.own row_Event
        refine wA_app2 row_Voice hA (by repeat (first | exact Keep.refl | refine Keep.put (by (try simp only [AHeap.next_alloc, AHeap.next_put]); omega) ?_ | refine Keep.alloc (by (try simp only [AHeap.next_alloc, AHeap.next_put]); omega) ?_)) (by simp) (ys := [y.short]) (by simp) rfl (asrc_new (by simp) rfl) (.cons (hOE.keep (by repeat (first | exact Keep.refl | refine Keep.put (by (try simp only [AHeap.next_alloc, AHeap.next_put]); omega) ?_ | refine Keep.alloc (by (try simp only [AHeap.next_alloc, AHeap.next_put]); omega) ?_))) (OwnL.single (Own.plain (plain1_slm Tuplet.enc_closed))) Apart.nil_right) ?_ ?_ ?_
        · intro b hb hb2
          have := e0 b hb
          rcases List.mem_append.1 hb2 with h | h
          · have := hfq b (hq' b h); omega
          · simp at h
        · rw [l_of]; simp only [List.length_map, List.length_take, List.length_cons, List.length_nil]; omega
        intro v' H2 fp' hA' hn2 hk2 hfp2 ho2 hc2
        rw [of_snoc, ← List.map_singleton, ← List.map_append, ← take_snoc hy] at hA'
        have g0 := (hk2 0 (fun h => by have := hfp 0 h; omega) (by omega)).trans hH0
        have g1 := (hk2 1 (fun h => by have := hfp 1 h; omega) (by omega)).trans hH1
        have g2 := (hk2 2 (fun h => by have := hfp 2 h; omega) (by omega)).trans hH2
        have hfp3 : ∀ b ∈ fp', 3 ≤ b := fun b hb => by
          rcases hfp2 b hb with h | h | h
          · exact hfp b h
          · rcases List.mem_append.1 h with h | h
            · have := hfq b (hq' b h); omega
            · simp at h
          · omega
        simp -implicitDefEqProofs (maxDischargeDepth := 12) only [WW,List.replicate,e_splice,if_true,if_false,ite_true,ite_false,true_or,ne_eq,Nat.reduceAdd,Nat.reduceSub,Nat.reduceMul,Nat.reduceLeDiff,Nat.reduceEqDiff,Nat.reduceGT,Nat.reduceLT,Int.reduceLE,Int.reduceLT,Int.reduceToNat,Int.reduceAdd,reduceCtorEq,h_putc,beq_self_eq_true,eq_self,exists_eq_left,exists_eq_left', e2, g0, g1, g2, ho2, hc2]
        exact ⟨k - 1, by omega, i + 1, fp', v', by omega, by omega, rfl, hA'.fr fun b hb => h_put_ne (by have := hfp3 b hb; omega), hfp3, ex_x rfl⟩
    · simp -implicitDefEqProofs (maxDischargeDepth := 12) only [WW,List.replicate,e_splice,if_true,if_false,ite_true,ite_false,true_or,ne_eq,Nat.reduceAdd,Nat.reduceSub,Nat.reduceMul,Nat.reduceLeDiff,Nat.reduceEqDiff,Nat.reduceGT,Nat.reduceLT,Int.reduceLE,Int.reduceLT,Int.reduceToNat,Int.reduceAdd,reduceCtorEq,h_putc,beq_self_eq_true,eq_self,exists_eq_left,exists_eq_left', hH0, hH1, hH2, h1, h2, hA.one]
      have hi3 : c.voices.l.take i = c.voices.l.take 3 := by rw [List.take_eq_take_iff]; omega
      rw [hi3] at hA
      obtain ⟨fq2, hO, hq2⟩ := hA.own row_Voice
      exact Own.frz (d := 5) ⟨_, rfl, .cons (Own.plain (plain1_slm ClefChange.enc_closed)) (OwnL.single (hO.frame fun b hb => h_put_ne (by have := hfp b (hq2 b hb); omega))) Apart.nil_left⟩ (by omega)
  · simp -implicitDefEqProofs (maxDischargeDepth := 12) only [WW,List.replicate,e_splice,if_true,if_false,ite_true,ite_false,true_or,ne_eq,Nat.reduceAdd,Nat.reduceSub,Nat.reduceMul,Nat.reduceLeDiff,Nat.reduceEqDiff,Nat.reduceGT,Nat.reduceLT,Int.reduceLE,Int.reduceLT,Int.reduceToNat,Int.reduceAdd,reduceCtorEq,h_putc,beq_self_eq_true,eq_self,exists_eq_left,exists_eq_left', hH0, hH1, hH2, h1, hA.one]
    have hi3 : c.voices.l.take i = c.voices.l.take 3 := by rw [List.take_eq_take_iff]; omega
    rw [hi3] at hA
    obtain ⟨fq2, hO, hq2⟩ := hA.own row_Voice
    exact Own.frz (d := 5) ⟨_, rfl, .cons (Own.plain (plain1_slm ClefChange.enc_closed)) (OwnL.single (hO.frame fun b hb => h_put_ne (by have := hfp b (hq2 b hb); omega))) Apart.nil_left⟩ (by omega)
end Go.Hem
/- Walks: shortMeasure. -/
set_option maxRecDepth 10000
set_option linter.unusedSimpArgs false
set_option linter.unusedVariables false
namespace Go.Hem
variable {pol : Pol}
def Measure.short (m : Measure) : Measure := { m with rehearsal := m.rehearsal.extract 0 (min m.rehearsal.size 20), tempi := m.tempi.map (·.take 3), cells := Sl.of ((m.cells.l.take 6).map Cell.short) }
def Measure.cells0 (m : Measure) (a : AV) : List AV := [.sc (.int .i64 m.id.site), .sc (.int .i64 m.id.number), .sc (.int .i64 m.metre.count), .sc (.int .i64 m.metre.unit), .sc (.int .i64 m.metre.g0), .sc (.int .i64 m.metre.g1), .sc (.int .i64 m.metre.g2), .sc (.int .i64 m.metre.g3), .sc (.int .i64 m.metre.g4), .sc (.int .i64 m.metre.g5), .sc (.int .i64 m.length), .sc (.int .i64 m.fifths), .sc (.bool m.rstart), .sc (.int .i64 m.rend), .sc (.int .i64 m.endings), .sc (.int .i64 m.jump), .sc (.int .i64 m.labels), .sc (.int .i64 m.swing), .sc (.int .i64 m.brk), .sc (.str m.rehearsal), slm Tempo.enc m.tempi, a]
theorem Measure.cells0_eq {m : Measure} {a : AV} : m.cells0 a = [.sc (.int .i64 m.id.site), .sc (.int .i64 m.id.number), .sc (.int .i64 m.metre.count), .sc (.int .i64 m.metre.unit), .sc (.int .i64 m.metre.g0), .sc (.int .i64 m.metre.g1), .sc (.int .i64 m.metre.g2), .sc (.int .i64 m.metre.g3), .sc (.int .i64 m.metre.g4), .sc (.int .i64 m.metre.g5), .sc (.int .i64 m.length), .sc (.int .i64 m.fifths), .sc (.bool m.rstart), .sc (.int .i64 m.rend), .sc (.int .i64 m.endings), .sc (.int .i64 m.jump), .sc (.int .i64 m.labels), .sc (.int .i64 m.swing), .sc (.int .i64 m.brk), .sc (.str m.rehearsal), slm Tempo.enc m.tempi, a] := rfl
theorem shortMeasure_pv (hp : pol.pure 46 = true) (hp2 : pol.pure 96 = true) (hp3 : pol.pure 59 = true) (m : Measure) : Pv prog pol 41 [m.enc] m.short.enc := by
  refine Pv_of' ok41 (by simp only [AV.closedBs, Measure.enc_closed, Bool.and_self]) ?_
  simp -implicitDefEqProofs (maxDischargeDepth := 12) only [wpF, cf41, WW,List.replicate,e_splice,if_true,if_false,ite_true,ite_false,true_or,ne_eq,Nat.reduceAdd,Nat.reduceSub,Nat.reduceMul,Nat.reduceLeDiff,Nat.reduceEqDiff,Nat.reduceGT,Nat.reduceLT,Int.reduceLE,Int.reduceLT,Int.reduceToNat,Int.reduceAdd,reduceCtorEq,h_putc,beq_self_eq_true,eq_self,exists_eq_left,exists_eq_left', m.enc_eq, min20, min3, e_cutm Tempo.enc_len, Nat.min_le_left, slm_take]
  refine wp_loop (Inv := fun k t H => ∃ (i : Nat) (fp : List Nat) (a : AV), i + k = 6 ∧ i ≤ m.cells.l.length ∧ H.cells 0 = some (m.short.cells0 a) ∧ (∃ z, H.cells 1 = some z ∧ z.length = 22) ∧
    Acc 4 2 Cell.enc H a (Sl.of ((m.cells.l.take i).map Cell.short)) fp ∧ (∀ b ∈ fp, 2 ≤ b) ∧
    ∃ x : Nat → AV, t = [m.enc, .ptr 0 0, .ptr 1 0, slm Cell.enc m.cells, .sc (.int .i64 i), x 5, x 6, x 7, x 8, x 9, x 10, x 11, x 12, x 13, x 14, x 15, x 16, x 17, x 18, x 19, x 20, x 21, x 22, x 23, x 24, x 25, x 26, x 27, x 28, x 29, x 30, x 31, x 32, x 33, x 34, x 35, x 36, x 37, x 38, x 39, x 40, x 41, x 42, x 43, .sc .undef]) (k := 6) ?_
    ⟨0, [], _, rfl, Nat.zero_le _, ?_, ?_, acc_none, by simp, ex_x rfl⟩
  rotate_left
  · simp -implicitDefEqProofs (maxDischargeDepth := 12) only [WW,List.replicate,e_splice,if_true,if_false,ite_true,ite_false,true_or,ne_eq,Nat.reduceAdd,Nat.reduceSub,Nat.reduceMul,Nat.reduceLeDiff,Nat.reduceEqDiff,Nat.reduceGT,Nat.reduceLT,Int.reduceLE,Int.reduceLT,Int.reduceToNat,Int.reduceAdd,reduceCtorEq,h_putc,beq_self_eq_true,eq_self,exists_eq_left,exists_eq_left']; rfl
  · refine Exists.intro [.sc (.int .i64 0), .sc (.int .i64 0), .sc (.int .i64 0), .sc (.int .i64 0), .sc (.int .i64 0), .sc (.int .i64 0), .sc (.int .i64 0), .sc (.int .i64 0), .sc (.int .i64 0), .sc (.int .i64 0), .sc (.int .i64 0), .sc (.int .i64 0), .sc (.bool false), .sc (.int .i64 0), .sc (.int .i64 0), .sc (.int .i64 0), .sc (.int .i64 0), .sc (.int .i64 0), .sc (.int .i64 0), .sc (.str ⟨#[]⟩), .sc .nils, .sc .nils] ⟨?_, rfl⟩
    simp -implicitDefEqProofs (maxDischargeDepth := 12) only [WW,List.replicate,e_splice,if_true,if_false,ite_true,ite_false,true_or,ne_eq,Nat.reduceAdd,Nat.reduceSub,Nat.reduceMul,Nat.reduceLeDiff,Nat.reduceEqDiff,Nat.reduceGT,Nat.reduceLT,Int.reduceLE,Int.reduceLT,Int.reduceToNat,Int.reduceAdd,reduceCtorEq,h_putc,beq_self_eq_true,eq_self,exists_eq_left,exists_eq_left']
  rintro k t H ⟨i, fp, a, hk, hi, hH0, ⟨z, hH1, hz⟩, hA, hfp, x, rfl⟩
  rw [Measure.cells0_eq] at hH0
  by_cases h1 : (i : Int) < (m.cells.l.length : Int)
  · by_cases h2 : (i : Int) < 6
    · obtain ⟨y, hy⟩ : ∃ y, m.cells.l[i]? = some y := ⟨_, List.getElem?_eq_getElem (by omega)⟩
      have e2 : IntKind.i64.wrap ((i : Int) + 1) = ((i + 1 : Nat) : Int) := by rw [w64 (by omega) (by omega)]; omega
      simp -implicitDefEqProofs (maxDischargeDepth := 12) only [WW,List.replicate,e_splice,if_true,if_false,ite_true,ite_false,true_or,ne_eq,Nat.reduceAdd,Nat.reduceSub,Nat.reduceMul,Nat.reduceLeDiff,Nat.reduceEqDiff,Nat.reduceGT,Nat.reduceLT,Int.reduceLE,Int.reduceLT,Int.reduceToNat,Int.reduceAdd,reduceCtorEq,h_putc,beq_self_eq_true,eq_self,exists_eq_left,exists_eq_left', hH0, h1, h2, hy, y.enc_eq, m.enc_eq]
      rw [← y.enc_eq]
      refine wA_pure hp3 (shortCell_pv hp hp2 y) ?_
      simp -implicitDefEqProofs (maxDischargeDepth := 12) only [WW,List.replicate,e_splice,if_true,if_false,ite_true,ite_false,true_or,ne_eq,Nat.reduceAdd,Nat.reduceSub,Nat.reduceMul,Nat.reduceLeDiff,Nat.reduceEqDiff,Nat.reduceGT,Nat.reduceLT,Int.reduceLE,Int.reduceLT,Int.reduceToNat,Int.reduceAdd,reduceCtorEq,h_putc,beq_self_eq_true,eq_self,exists_eq_left,exists_eq_left', y.short.enc_eq]
      refine wA_app2 row_Cell hA (by repeat (first | exact Keep.refl | refine Keep.put (by (try simp only [AHeap.next_alloc, AHeap.next_put]); omega) ?_ | refine Keep.alloc (by (try simp only [AHeap.next_alloc, AHeap.next_put]); omega) ?_)) (by simp) (ys := [y.short]) (by simp) rfl (asrc_new (by simp) rfl) (own_one (Cell.enc_plain y.short) y.short.enc_eq) Apart.nil_right ?_ ?_
      · rw [l_of]; simp only [List.length_map, List.length_take, List.length_cons, List.length_nil]; omega
      intro v' H2 fp' hA' hn2 hk2 hfp2 ho2 hc2
      rw [of_snoc, ← List.map_singleton, ← List.map_append, ← take_snoc hy] at hA'
      have l1 := h_lt hH1
      have g0 := (hk2 0 (fun h => by have := hfp 0 h; omega) (by omega)).trans hH0
      have g1 := (hk2 1 (fun h => by have := hfp 1 h; omega) (by omega)).trans hH1
      have hfp3 : ∀ b ∈ fp', 2 ≤ b := fun b hb => by
        rcases hfp2 b hb with h | h | h
        · exact hfp b h
        · simp at h
        · omega
      simp -implicitDefEqProofs (maxDischargeDepth := 12) only [WW,List.replicate,e_splice,if_true,if_false,ite_true,ite_false,true_or,ne_eq,Nat.reduceAdd,Nat.reduceSub,Nat.reduceMul,Nat.reduceLeDiff,Nat.reduceEqDiff,Nat.reduceGT,Nat.reduceLT,Int.reduceLE,Int.reduceLT,Int.reduceToNat,Int.reduceAdd,reduceCtorEq,h_putc,beq_self_eq_true,eq_self,exists_eq_left,exists_eq_left', e2, g0, g1, ho2, hc2]
      refine ⟨k - 1, by omega, i + 1, fp', v', by omega, by omega, rfl, hz, hA'.fr fun b hb => h_put_ne (by have := hfp3 b hb; omega), hfp3, ex_x rfl⟩
    · simp -implicitDefEqProofs (maxDischargeDepth := 12) only [WW,List.replicate,e_splice,if_true,if_false,ite_true,ite_false,true_or,ne_eq,Nat.reduceAdd,Nat.reduceSub,Nat.reduceMul,Nat.reduceLeDiff,Nat.reduceEqDiff,Nat.reduceGT,Nat.reduceLT,Int.reduceLE,Int.reduceLT,Int.reduceToNat,Int.reduceAdd,reduceCtorEq,h_putc,beq_self_eq_true,eq_self,exists_eq_left,exists_eq_left', hH0, hH1, hz, h1, h2, hA.one, m.enc_eq]

      have hi3 : m.cells.l.take i = m.cells.l.take 6 := by rw [List.take_eq_take_iff]; omega
      rw [hi3] at hA
      obtain ⟨fq2, hO, hq2⟩ := hA.own row_Cell
      refine Own.frz (d := 6) (fp := [] ++ fq2) (u := m.short.enc) ⟨_, rfl, ?_⟩ (by omega)
      exact OwnL.append (fp := []) (OwnL.plain (d := 4) (cs := (m.short.cells0 a).take 21) (by simp [Measure.cells0, pl_sc, plain1_slm Tempo.enc_closed])) (OwnL.single (hO.frame fun b hb => h_put_ne (by have := hfp b (hq2 b hb); omega))) Apart.nil_left
  · simp -implicitDefEqProofs (maxDischargeDepth := 12) only [WW,List.replicate,e_splice,if_true,if_false,ite_true,ite_false,true_or,ne_eq,Nat.reduceAdd,Nat.reduceSub,Nat.reduceMul,Nat.reduceLeDiff,Nat.reduceEqDiff,Nat.reduceGT,Nat.reduceLT,Int.reduceLE,Int.reduceLT,Int.reduceToNat,Int.reduceAdd,reduceCtorEq,h_putc,beq_self_eq_true,eq_self,exists_eq_left,exists_eq_left', hH0, hH1, hz, h1, hA.one, m.enc_eq]
    have hi3 : m.cells.l.take i = m.cells.l.take 6 := by rw [List.take_eq_take_iff]; omega
    rw [hi3] at hA
    obtain ⟨fq2, hO, hq2⟩ := hA.own row_Cell
    refine Own.frz (d := 6) (fp := [] ++ fq2) (u := m.short.enc) ⟨_, rfl, ?_⟩ (by omega)
    exact OwnL.append (fp := []) (OwnL.plain (d := 4) (cs := (m.short.cells0 a).take 21) (by simp [Measure.cells0, pl_sc, plain1_slm Tempo.enc_closed])) (OwnL.single (hO.frame fun b hb => h_put_ne (by have := hfp b (hq2 b hb); omega))) Apart.nil_left
end Go.Hem
/- Walks: Short. -/
set_option maxRecDepth 10000
set_option linter.unusedSimpArgs false
set_option linter.unusedVariables false
namespace Go.Hem
variable {pol : Pol}
def Score.short (s : Score) : Score := { title := s.title.extract 0 (min s.title.size 20), written := s.written, parts := Sl.of ((s.parts.l.take 4).map Part.short), measures := Sl.of ((s.measures.l.take 5).map Measure.short), spanners := s.spanners.map (·.take 6), last := s.last.map (·.take 4) }
theorem short_pv (hp : pol.pure 46 = true) (hp2 : pol.pure 96 = true) (hp3 : pol.pure 59 = true) (hp4 : pol.pure 41 = true) (hp5 : pol.pure 58 = true) (s : Score) : Pv prog pol 14 [s.enc] s.short.enc := by
  refine Pv_of' ok14 (by simp only [AV.closedBs, Score.enc_closed, Bool.and_self]) ?_
  simp -implicitDefEqProofs (maxDischargeDepth := 12) only [wpF, cf14, WW,List.replicate,e_splice,if_true,if_false,ite_true,ite_false,true_or,ne_eq,Nat.reduceAdd,Nat.reduceSub,Nat.reduceMul,Nat.reduceLeDiff,Nat.reduceEqDiff,Nat.reduceGT,Nat.reduceLT,Int.reduceLE,Int.reduceLT,Int.reduceToNat,Int.reduceAdd,reduceCtorEq,h_putc,beq_self_eq_true,eq_self,exists_eq_left,exists_eq_left', s.enc_eq, min20, min6, min4, e_cutm Spanner.enc_len, e_cutm ID.enc_len, Nat.min_le_left, slm_take]
  refine wp_loop (Inv := fun k t H => ∃ (i : Nat) (fp : List Nat) (a : AV), i + k = 4 ∧ i ≤ s.parts.l.length ∧ H.cells 0 = some [.sc (.str s.title), .sc (.bool s.written), slm Part.enc s.parts, slm Measure.enc s.measures, slm Spanner.enc s.spanners, slm ID.enc s.last] ∧
    H.cells 1 = some [.sc (.str ⟨#[]⟩), .sc (.bool false), .sc .nils, .sc .nils, .sc .nils, .sc .nils] ∧
    H.cells 2 = some [.sc (.str s.short.title), .sc (.bool s.written), a, .sc .nils, slm Spanner.enc s.short.spanners, slm ID.enc s.short.last] ∧
    Acc 5 6 Part.enc H a (Sl.of ((s.parts.l.take i).map Part.short)) fp ∧ (∀ b ∈ fp, 3 ≤ b) ∧
    ∃ x : Nat → AV, t = [s.enc, .ptr 0 0, .ptr 1 0, .ptr 2 0, .sc (.int .i64 i), x 5, x 6, x 7, x 8, x 9, x 10, x 11, x 12, x 13, x 14, x 15, x 16, x 17, x 18, x 19, x 20, x 21, x 22, x 23, x 24, x 25, x 26, x 27, x 28, x 29, x 30, x 31, x 32, x 33, x 34, x 35, x 36, x 37, x 38, x 39, x 40, x 41, x 42, x 43, x 44, x 45, x 46, x 47, x 48, x 49, x 50, x 51, x 52, x 53, x 54, x 55, x 56, x 57, x 58, x 59, x 60, x 61, x 62, x 63, x 64, x 65, x 66, x 67, x 68, x 69, x 70, x 71, x 72, x 73, .sc .undef]) (k := 4) ?_
    ⟨0, [], _, rfl, Nat.zero_le _, ?_, ?_, ?_, acc_none, by simp, ex_x rfl⟩
  rotate_left
  · simp -implicitDefEqProofs (maxDischargeDepth := 12) only [WW,List.replicate,e_splice,if_true,if_false,ite_true,ite_false,true_or,ne_eq,Nat.reduceAdd,Nat.reduceSub,Nat.reduceMul,Nat.reduceLeDiff,Nat.reduceEqDiff,Nat.reduceGT,Nat.reduceLT,Int.reduceLE,Int.reduceLT,Int.reduceToNat,Int.reduceAdd,reduceCtorEq,h_putc,beq_self_eq_true,eq_self,exists_eq_left,exists_eq_left']
  · simp -implicitDefEqProofs (maxDischargeDepth := 12) only [WW,List.replicate,e_splice,if_true,if_false,ite_true,ite_false,true_or,ne_eq,Nat.reduceAdd,Nat.reduceSub,Nat.reduceMul,Nat.reduceLeDiff,Nat.reduceEqDiff,Nat.reduceGT,Nat.reduceLT,Int.reduceLE,Int.reduceLT,Int.reduceToNat,Int.reduceAdd,reduceCtorEq,h_putc,beq_self_eq_true,eq_self,exists_eq_left,exists_eq_left']
  · simp -implicitDefEqProofs (maxDischargeDepth := 12) only [WW,List.replicate,e_splice,if_true,if_false,ite_true,ite_false,true_or,ne_eq,Nat.reduceAdd,Nat.reduceSub,Nat.reduceMul,Nat.reduceLeDiff,Nat.reduceEqDiff,Nat.reduceGT,Nat.reduceLT,Int.reduceLE,Int.reduceLT,Int.reduceToNat,Int.reduceAdd,reduceCtorEq,h_putc,beq_self_eq_true,eq_self,exists_eq_left,exists_eq_left']; rfl
  rintro k t H ⟨i, fp, a, hk, hi, hH0, hH1, hH2, hA, hfp, x, rfl⟩
  by_cases h1 : (i : Int) < (s.parts.l.length : Int)
  · by_cases h2 : (i : Int) < 4
    · obtain ⟨y, hy⟩ : ∃ y, s.parts.l[i]? = some y := ⟨_, List.getElem?_eq_getElem (by omega)⟩
      have e2 : IntKind.i64.wrap ((i : Int) + 1) = ((i + 1 : Nat) : Int) := by rw [w64 (by omega) (by omega)]; omega
      simp -implicitDefEqProofs (maxDischargeDepth := 12) only [WW,List.replicate,e_splice,if_true,if_false,ite_true,ite_false,true_or,ne_eq,Nat.reduceAdd,Nat.reduceSub,Nat.reduceMul,Nat.reduceLeDiff,Nat.reduceEqDiff,Nat.reduceGT,Nat.reduceLT,Int.reduceLE,Int.reduceLT,Int.reduceToNat,Int.reduceAdd,reduceCtorEq,h_putc,beq_self_eq_true,eq_self,exists_eq_left,exists_eq_left', hH0, hH2, h1, h2, hy, y.enc_eq]
      rw [← y.enc_eq]
      refine wA_pure hp5 (shortPart_pv y) ?_
      simp -implicitDefEqProofs (maxDischargeDepth := 12) only [WW,List.replicate,e_splice,if_true,if_false,ite_true,ite_false,true_or,ne_eq,Nat.reduceAdd,Nat.reduceSub,Nat.reduceMul,Nat.reduceLeDiff,Nat.reduceEqDiff,Nat.reduceGT,Nat.reduceLT,Int.reduceLE,Int.reduceLT,Int.reduceToNat,Int.reduceAdd,reduceCtorEq,h_putc,beq_self_eq_true,eq_self,exists_eq_left,exists_eq_left', y.short.enc_eq]
      refine wA_app2 row_Part hA (by repeat (first | exact Keep.refl | refine Keep.put (by (try simp only [AHeap.next_alloc, AHeap.next_put]); omega) ?_ | refine Keep.alloc (by (try simp only [AHeap.next_alloc, AHeap.next_put]); omega) ?_)) (by simp) (ys := [y.short]) (by simp) rfl (asrc_new (by simp) rfl) (own_one (Part.enc_plain y.short) y.short.enc_eq) Apart.nil_right ?_ ?_
      · rw [l_of]; simp only [List.length_map, List.length_take, List.length_cons, List.length_nil]; omega
      intro v' H2 fp' hA' hn2 hk2 hfp2 ho2 hc2
      rw [of_snoc, ← List.map_singleton, ← List.map_append, ← take_snoc hy] at hA'
      have l1 := h_lt hH2
      have g0 := (hk2 0 (fun h => by have := hfp 0 h; omega) (by omega)).trans hH0
      have g1 := (hk2 1 (fun h => by have := hfp 1 h; omega) (by omega)).trans hH1
      have g2 := (hk2 2 (fun h => by have := hfp 2 h; omega) (by omega)).trans hH2
      have hfp3 : ∀ b ∈ fp', 3 ≤ b := fun b hb => by
        rcases hfp2 b hb with h | h | h
        · exact hfp b h
        · simp at h
        · omega
      simp -implicitDefEqProofs (maxDischargeDepth := 12) only [WW,List.replicate,e_splice,if_true,if_false,ite_true,ite_false,true_or,ne_eq,Nat.reduceAdd,Nat.reduceSub,Nat.reduceMul,Nat.reduceLeDiff,Nat.reduceEqDiff,Nat.reduceGT,Nat.reduceLT,Int.reduceLE,Int.reduceLT,Int.reduceToNat,Int.reduceAdd,reduceCtorEq,h_putc,beq_self_eq_true,eq_self,exists_eq_left,exists_eq_left', e2, g0, g1, g2, ho2, hc2]
      exact ⟨k - 1, by omega, i + 1, fp', v', by omega, by omega, rfl, hA'.fr fun b hb => h_put_ne (by have := hfp3 b hb; omega), hfp3, ex_x rfl⟩
    · simp -implicitDefEqProofs (maxDischargeDepth := 12) only [WW,List.replicate,e_splice,if_true,if_false,ite_true,ite_false,true_or,ne_eq,Nat.reduceAdd,Nat.reduceSub,Nat.reduceMul,Nat.reduceLeDiff,Nat.reduceEqDiff,Nat.reduceGT,Nat.reduceLT,Int.reduceLE,Int.reduceLT,Int.reduceToNat,Int.reduceAdd,reduceCtorEq,h_putc,beq_self_eq_true,eq_self,exists_eq_left,exists_eq_left', hH0, hH1, hH2, h1, h2, hA.one]
      have hi3 : s.parts.l.take i = s.parts.l.take 4 := by rw [List.take_eq_take_iff]; omega
      rw [hi3] at hA
      have hP := hA
      have hfpP := hfp
      clear hA hfp
      refine wp_loop (Inv := fun k t H => ∃ (i : Nat) (fq : List Nat) (b : AV), i + k = 5 ∧ i ≤ s.measures.l.length ∧ H.cells 0 = some [.sc (.str s.title), .sc (.bool s.written), slm Part.enc s.parts, slm Measure.enc s.measures, slm Spanner.enc s.spanners, slm ID.enc s.last] ∧
        H.cells 1 = some [.sc (.str ⟨#[]⟩), .sc (.bool false), .sc .nils, .sc .nils, .sc .nils, .sc .nils] ∧
        H.cells 2 = some [.sc (.str s.short.title), .sc (.bool s.written), a, b, slm Spanner.enc s.short.spanners, slm ID.enc s.short.last] ∧
        Acc 5 6 Part.enc H a (Sl.of ((s.parts.l.take 4).map Part.short)) fp ∧ Acc 6 22 Measure.enc H b (Sl.of ((s.measures.l.take i).map Measure.short)) fq ∧ (∀ b ∈ fq, 3 ≤ b) ∧ Apart fp fq ∧
        ∃ x : Nat → AV, t = [s.enc, .ptr 0 0, .ptr 1 0, .ptr 2 0, x 4, .sc (.int .i64 i), x 6, x 7, x 8, x 9, x 10, x 11, x 12, x 13, x 14, x 15, x 16, x 17, x 18, x 19, x 20, x 21, x 22, x 23, x 24, x 25, x 26, x 27, x 28, x 29, x 30, x 31, x 32, x 33, x 34, x 35, x 36, x 37, x 38, x 39, x 40, x 41, x 42, x 43, x 44, x 45, x 46, x 47, x 48, x 49, x 50, x 51, x 52, x 53, x 54, x 55, x 56, x 57, x 58, x 59, x 60, x 61, x 62, x 63, x 64, x 65, x 66, x 67, x 68, x 69, x 70, x 71, x 72, x 73, .sc .undef]) (k := 5) ?_
        ⟨0, [], _, rfl, Nat.zero_le _, hH0, hH1, hH2, hP, acc_none, by simp, Apart.nil_right, ex_x rfl⟩
      clear hH0 hH1 hH2 hP x hi h1 hk hi3
      rintro k t H ⟨i, fq, c, hk, hi, hH0, hH1, hH2, hP, hA, hfp, hap, x, rfl⟩
      by_cases h1 : (i : Int) < (s.measures.l.length : Int)
      · by_cases h2 : (i : Int) < 5
        · obtain ⟨y, hy⟩ : ∃ y, s.measures.l[i]? = some y := ⟨_, List.getElem?_eq_getElem (by omega)⟩
          have e2 : IntKind.i64.wrap ((i : Int) + 1) = ((i + 1 : Nat) : Int) := by rw [w64 (by omega) (by omega)]; omega
          simp -implicitDefEqProofs (maxDischargeDepth := 12) only [WW,List.replicate,e_splice,if_true,if_false,ite_true,ite_false,true_or,ne_eq,Nat.reduceAdd,Nat.reduceSub,Nat.reduceMul,Nat.reduceLeDiff,Nat.reduceEqDiff,Nat.reduceGT,Nat.reduceLT,Int.reduceLE,Int.reduceLT,Int.reduceToNat,Int.reduceAdd,reduceCtorEq,h_putc,beq_self_eq_true,eq_self,exists_eq_left,exists_eq_left', hH0, hH2, h1, h2, hy, y.enc_eq]
          rw [← y.enc_eq]
          refine wA_pure hp4 (shortMeasure_pv hp hp2 hp3 y) ?_
          simp -implicitDefEqProofs (maxDischargeDepth := 12) only [WW,List.replicate,e_splice,if_true,if_false,ite_true,ite_false,true_or,ne_eq,Nat.reduceAdd,Nat.reduceSub,Nat.reduceMul,Nat.reduceLeDiff,Nat.reduceEqDiff,Nat.reduceGT,Nat.reduceLT,Int.reduceLE,Int.reduceLT,Int.reduceToNat,Int.reduceAdd,reduceCtorEq,h_putc,beq_self_eq_true,eq_self,exists_eq_left,exists_eq_left', y.short.enc_eq]
          refine wA_app2 row_Measure hA (by repeat (first | exact Keep.refl | refine Keep.put (by (try simp only [AHeap.next_alloc, AHeap.next_put]); omega) ?_ | refine Keep.alloc (by (try simp only [AHeap.next_alloc, AHeap.next_put]); omega) ?_)) (by simp) (ys := [y.short]) (by simp) rfl (asrc_new (by simp) rfl) (own_one (Measure.enc_plain y.short) y.short.enc_eq) Apart.nil_right ?_ ?_
          · rw [l_of]; simp only [List.length_map, List.length_take, List.length_cons, List.length_nil]; omega
          intro v' H2 fp' hA' hn2 hk2 hfp2 ho2 hc2
          rw [of_snoc, ← List.map_singleton, ← List.map_append, ← take_snoc hy] at hA'
          have l1 := h_lt hH2
          have g0 := (hk2 0 (fun h => by have := hfp 0 h; omega) (by omega)).trans hH0
          have g1 := (hk2 1 (fun h => by have := hfp 1 h; omega) (by omega)).trans hH1
          have g2 := (hk2 2 (fun h => by have := hfp 2 h; omega) (by omega)).trans hH2
          have hfp3 : ∀ b ∈ fp', 3 ≤ b := fun b hb => by
            rcases hfp2 b hb with h | h | h
            · exact hfp b h
            · simp at h
            · omega
          have hlts := hP.lts
          simp -implicitDefEqProofs (maxDischargeDepth := 12) only [WW,List.replicate,e_splice,if_true,if_false,ite_true,ite_false,true_or,ne_eq,Nat.reduceAdd,Nat.reduceSub,Nat.reduceMul,Nat.reduceLeDiff,Nat.reduceEqDiff,Nat.reduceGT,Nat.reduceLT,Int.reduceLE,Int.reduceLT,Int.reduceToNat,Int.reduceAdd,reduceCtorEq,h_putc,beq_self_eq_true,eq_self,exists_eq_left,exists_eq_left', e2, g0, g1, g2, ho2, hc2]
          refine ⟨k - 1, by omega, i + 1, fp', v', by omega, by omega, rfl, hP.fr fun b hb => ?_, hA'.fr fun b hb => h_put_ne (by have := hfp3 b hb; omega), hfp3, fun b hb hb2 => ?_, ex_x rfl⟩
          · rw [h_put_ne (by have := hfpP b hb; omega), hk2 b (hap b hb) (hlts b hb)]
          · rcases hfp2 b hb2 with h | h | h
            · exact hap b hb h
            · simp at h
            · have := hlts b hb; omega
        · simp -implicitDefEqProofs (maxDischargeDepth := 12) only [WW,List.replicate,e_splice,if_true,if_false,ite_true,ite_false,true_or,ne_eq,Nat.reduceAdd,Nat.reduceSub,Nat.reduceMul,Nat.reduceLeDiff,Nat.reduceEqDiff,Nat.reduceGT,Nat.reduceLT,Int.reduceLE,Int.reduceLT,Int.reduceToNat,Int.reduceAdd,reduceCtorEq,h_putc,beq_self_eq_true,eq_self,exists_eq_left,exists_eq_left', hH0, hH1, hH2, h1, h2, hP.one, hA.one]
          have hi3 : s.measures.l.take i = s.measures.l.take 5 := by rw [List.take_eq_take_iff]; omega
          rw [hi3] at hA
          obtain ⟨fq2, hO, hq2⟩ := hA.own row_Measure
          obtain ⟨fq3, hO3, hq3⟩ := hP.own row_Part
          refine Own.frz (d := 8) (fp := [] ++ ([] ++ (fq3 ++ (fq2 ++ ([] ++ ([] ++ [])))))) (u := s.short.enc) ⟨_, rfl, ?_⟩ (by omega)
          have w : ∀ b ∈ fq2, ∀ z, (H.put 1 (some (.cells z))).cells b = H.cells b := fun b hb z => h_put_ne (by have := hfp b (hq2 b hb); omega)
          have w3 : ∀ b ∈ fq3, ∀ z, (H.put 1 (some (.cells z))).cells b = H.cells b := fun b hb z => h_put_ne (by have := hfpP b (hq3 b hb); omega)
          refine .cons (Own.plain rfl) (.cons (Own.plain rfl) (.cons ((hO3.mono (by decide)).frame fun b hb => w3 b hb _) (.cons ((hO.mono (by decide)).frame fun b hb => w b hb _) (.cons (Own.plain (plain1_slm Spanner.enc_closed)) (.cons (Own.plain (plain1_slm ID.enc_closed)) .nil Apart.nil_right) Apart.nil_left) ?_) ?_) Apart.nil_left) Apart.nil_left
          · simpa using Apart.nil_right
          · intro b hb hb2
            simp only [List.append_nil, List.nil_append] at hb2
            exact hap b (hq3 b hb) (hq2 b hb2)
      · simp -implicitDefEqProofs (maxDischargeDepth := 12) only [WW,List.replicate,e_splice,if_true,if_false,ite_true,ite_false,true_or,ne_eq,Nat.reduceAdd,Nat.reduceSub,Nat.reduceMul,Nat.reduceLeDiff,Nat.reduceEqDiff,Nat.reduceGT,Nat.reduceLT,Int.reduceLE,Int.reduceLT,Int.reduceToNat,Int.reduceAdd,reduceCtorEq,h_putc,beq_self_eq_true,eq_self,exists_eq_left,exists_eq_left', hH0, hH1, hH2, h1, hP.one, hA.one]
        have hi3 : s.measures.l.take i = s.measures.l.take 5 := by rw [List.take_eq_take_iff]; omega
        rw [hi3] at hA
        obtain ⟨fq2, hO, hq2⟩ := hA.own row_Measure
        obtain ⟨fq3, hO3, hq3⟩ := hP.own row_Part
        refine Own.frz (d := 8) (fp := [] ++ ([] ++ (fq3 ++ (fq2 ++ ([] ++ ([] ++ [])))))) (u := s.short.enc) ⟨_, rfl, ?_⟩ (by omega)
        have w : ∀ b ∈ fq2, ∀ z, (H.put 1 (some (.cells z))).cells b = H.cells b := fun b hb z => h_put_ne (by have := hfp b (hq2 b hb); omega)
        have w3 : ∀ b ∈ fq3, ∀ z, (H.put 1 (some (.cells z))).cells b = H.cells b := fun b hb z => h_put_ne (by have := hfpP b (hq3 b hb); omega)
        refine .cons (Own.plain rfl) (.cons (Own.plain rfl) (.cons ((hO3.mono (by decide)).frame fun b hb => w3 b hb _) (.cons ((hO.mono (by decide)).frame fun b hb => w b hb _) (.cons (Own.plain (plain1_slm Spanner.enc_closed)) (.cons (Own.plain (plain1_slm ID.enc_closed)) .nil Apart.nil_right) Apart.nil_left) ?_) ?_) Apart.nil_left) Apart.nil_left
        · simpa using Apart.nil_right
        · intro b hb hb2
          simp only [List.append_nil, List.nil_append] at hb2
          exact hap b (hq3 b hb) (hq2 b hb2)
  · simp -implicitDefEqProofs (maxDischargeDepth := 12) only [WW,List.replicate,e_splice,if_true,if_false,ite_true,ite_false,true_or,ne_eq,Nat.reduceAdd,Nat.reduceSub,Nat.reduceMul,Nat.reduceLeDiff,Nat.reduceEqDiff,Nat.reduceGT,Nat.reduceLT,Int.reduceLE,Int.reduceLT,Int.reduceToNat,Int.reduceAdd,reduceCtorEq,h_putc,beq_self_eq_true,eq_self,exists_eq_left,exists_eq_left', hH0, hH1, hH2, h1, hA.one]
    have hi3 : s.parts.l.take i = s.parts.l.take 4 := by rw [List.take_eq_take_iff]; omega
    rw [hi3] at hA
    have hP := hA
    have hfpP := hfp
    clear hA hfp
    refine wp_loop (Inv := fun k t H => ∃ (i : Nat) (fq : List Nat) (b : AV), i + k = 5 ∧ i ≤ s.measures.l.length ∧ H.cells 0 = some [.sc (.str s.title), .sc (.bool s.written), slm Part.enc s.parts, slm Measure.enc s.measures, slm Spanner.enc s.spanners, slm ID.enc s.last] ∧
      H.cells 1 = some [.sc (.str ⟨#[]⟩), .sc (.bool false), .sc .nils, .sc .nils, .sc .nils, .sc .nils] ∧
      H.cells 2 = some [.sc (.str s.short.title), .sc (.bool s.written), a, b, slm Spanner.enc s.short.spanners, slm ID.enc s.short.last] ∧
      Acc 5 6 Part.enc H a (Sl.of ((s.parts.l.take 4).map Part.short)) fp ∧ Acc 6 22 Measure.enc H b (Sl.of ((s.measures.l.take i).map Measure.short)) fq ∧ (∀ b ∈ fq, 3 ≤ b) ∧ Apart fp fq ∧
      ∃ x : Nat → AV, t = [s.enc, .ptr 0 0, .ptr 1 0, .ptr 2 0, x 4, .sc (.int .i64 i), x 6, x 7, x 8, x 9, x 10, x 11, x 12, x 13, x 14, x 15, x 16, x 17, x 18, x 19, x 20, x 21, x 22, x 23, x 24, x 25, x 26, x 27, x 28, x 29, x 30, x 31, x 32, x 33, x 34, x 35, x 36, x 37, x 38, x 39, x 40, x 41, x 42, x 43, x 44, x 45, x 46, x 47, x 48, x 49, x 50, x 51, x 52, x 53, x 54, x 55, x 56, x 57, x 58, x 59, x 60, x 61, x 62, x 63, x 64, x 65, x 66, x 67, x 68, x 69, x 70, x 71, x 72, x 73, .sc .undef]) (k := 5) ?_
      ⟨0, [], _, rfl, Nat.zero_le _, hH0, hH1, hH2, hP, acc_none, by simp, Apart.nil_right, ex_x rfl⟩
    clear hH0 hH1 hH2 hP x hi h1 hk hi3
    rintro k t H ⟨i, fq, c, hk, hi, hH0, hH1, hH2, hP, hA, hfp, hap, x, rfl⟩
    by_cases h1 : (i : Int) < (s.measures.l.length : Int)
    · by_cases h2 : (i : Int) < 5
      · obtain ⟨y, hy⟩ : ∃ y, s.measures.l[i]? = some y := ⟨_, List.getElem?_eq_getElem (by omega)⟩
        have e2 : IntKind.i64.wrap ((i : Int) + 1) = ((i + 1 : Nat) : Int) := by rw [w64 (by omega) (by omega)]; omega
        simp -implicitDefEqProofs (maxDischargeDepth := 12) only [WW,List.replicate,e_splice,if_true,if_false,ite_true,ite_false,true_or,ne_eq,Nat.reduceAdd,Nat.reduceSub,Nat.reduceMul,Nat.reduceLeDiff,Nat.reduceEqDiff,Nat.reduceGT,Nat.reduceLT,Int.reduceLE,Int.reduceLT,Int.reduceToNat,Int.reduceAdd,reduceCtorEq,h_putc,beq_self_eq_true,eq_self,exists_eq_left,exists_eq_left', hH0, hH2, h1, h2, hy, y.enc_eq]
        rw [← y.enc_eq]
        refine wA_pure hp4 (shortMeasure_pv hp hp2 hp3 y) ?_
        simp -implicitDefEqProofs (maxDischargeDepth := 12) only [WW,List.replicate,e_splice,if_true,if_false,ite_true,ite_false,true_or,ne_eq,Nat.reduceAdd,Nat.reduceSub,Nat.reduceMul,Nat.reduceLeDiff,Nat.reduceEqDiff,Nat.reduceGT,Nat.reduceLT,Int.reduceLE,Int.reduceLT,Int.reduceToNat,Int.reduceAdd,reduceCtorEq,h_putc,beq_self_eq_true,eq_self,exists_eq_left,exists_eq_left', y.short.enc_eq]
        refine wA_app2 row_Measure hA (by repeat (first | exact Keep.refl | refine Keep.put (by (try simp only [AHeap.next_alloc, AHeap.next_put]); omega) ?_ | refine Keep.alloc (by (try simp only [AHeap.next_alloc, AHeap.next_put]); omega) ?_)) (by simp) (ys := [y.short]) (by simp) rfl (asrc_new (by simp) rfl) (own_one (Measure.enc_plain y.short) y.short.enc_eq) Apart.nil_right ?_ ?_
        · rw [l_of]; simp only [List.length_map, List.length_take, List.length_cons, List.length_nil]; omega
        intro v' H2 fp' hA' hn2 hk2 hfp2 ho2 hc2
        rw [of_snoc, ← List.map_singleton, ← List.map_append, ← take_snoc hy] at hA'
        have l1 := h_lt hH2
        have g0 := (hk2 0 (fun h => by have := hfp 0 h; omega) (by omega)).trans hH0
        have g1 := (hk2 1 (fun h => by have := hfp 1 h; omega) (by omega)).trans hH1
        have g2 := (hk2 2 (fun h => by have := hfp 2 h; omega) (by omega)).trans hH2
        have hfp3 : ∀ b ∈ fp', 3 ≤ b := fun b hb => by
          rcases hfp2 b hb with h | h | h
          · exact hfp b h
          · simp at h
          · omega
        have hlts := hP.lts
        simp -implicitDefEqProofs (maxDischargeDepth := 12) only [WW,List.replicate,e_splice,if_true,if_false,ite_true,ite_false,true_or,ne_eq,Nat.reduceAdd,Nat.reduceSub,Nat.reduceMul,Nat.reduceLeDiff,Nat.reduceEqDiff,Nat.reduceGT,Nat.reduceLT,Int.reduceLE,Int.reduceLT,Int.reduceToNat,Int.reduceAdd,reduceCtorEq,h_putc,beq_self_eq_true,eq_self,exists_eq_left,exists_eq_left', e2, g0, g1, g2, ho2, hc2]
        refine ⟨k - 1, by omega, i + 1, fp', v', by omega, by omega, rfl, hP.fr fun b hb => ?_, hA'.fr fun b hb => h_put_ne (by have := hfp3 b hb; omega), hfp3, fun b hb hb2 => ?_, ex_x rfl⟩
        · rw [h_put_ne (by have := hfpP b hb; omega), hk2 b (hap b hb) (hlts b hb)]
        · rcases hfp2 b hb2 with h | h | h
          · exact hap b hb h
          · simp at h
          · have := hlts b hb; omega
      · simp -implicitDefEqProofs (maxDischargeDepth := 12) only [WW,List.replicate,e_splice,if_true,if_false,ite_true,ite_false,true_or,ne_eq,Nat.reduceAdd,Nat.reduceSub,Nat.reduceMul,Nat.reduceLeDiff,Nat.reduceEqDiff,Nat.reduceGT,Nat.reduceLT,Int.reduceLE,Int.reduceLT,Int.reduceToNat,Int.reduceAdd,reduceCtorEq,h_putc,beq_self_eq_true,eq_self,exists_eq_left,exists_eq_left', hH0, hH1, hH2, h1, h2, hP.one, hA.one]
        have hi3 : s.measures.l.take i = s.measures.l.take 5 := by rw [List.take_eq_take_iff]; omega
        rw [hi3] at hA
        obtain ⟨fq2, hO, hq2⟩ := hA.own row_Measure
        obtain ⟨fq3, hO3, hq3⟩ := hP.own row_Part
        refine Own.frz (d := 8) (fp := [] ++ ([] ++ (fq3 ++ (fq2 ++ ([] ++ ([] ++ [])))))) (u := s.short.enc) ⟨_, rfl, ?_⟩ (by omega)
        have w : ∀ b ∈ fq2, ∀ z, (H.put 1 (some (.cells z))).cells b = H.cells b := fun b hb z => h_put_ne (by have := hfp b (hq2 b hb); omega)
        have w3 : ∀ b ∈ fq3, ∀ z, (H.put 1 (some (.cells z))).cells b = H.cells b := fun b hb z => h_put_ne (by have := hfpP b (hq3 b hb); omega)
        refine .cons (Own.plain rfl) (.cons (Own.plain rfl) (.cons ((hO3.mono (by decide)).frame fun b hb => w3 b hb _) (.cons ((hO.mono (by decide)).frame fun b hb => w b hb _) (.cons (Own.plain (plain1_slm Spanner.enc_closed)) (.cons (Own.plain (plain1_slm ID.enc_closed)) .nil Apart.nil_right) Apart.nil_left) ?_) ?_) Apart.nil_left) Apart.nil_left
        · simpa using Apart.nil_right
        · intro b hb hb2
          simp only [List.append_nil, List.nil_append] at hb2
          exact hap b (hq3 b hb) (hq2 b hb2)
    · simp -implicitDefEqProofs (maxDischargeDepth := 12) only [WW,List.replicate,e_splice,if_true,if_false,ite_true,ite_false,true_or,ne_eq,Nat.reduceAdd,Nat.reduceSub,Nat.reduceMul,Nat.reduceLeDiff,Nat.reduceEqDiff,Nat.reduceGT,Nat.reduceLT,Int.reduceLE,Int.reduceLT,Int.reduceToNat,Int.reduceAdd,reduceCtorEq,h_putc,beq_self_eq_true,eq_self,exists_eq_left,exists_eq_left', hH0, hH1, hH2, h1, hP.one, hA.one]
      have hi3 : s.measures.l.take i = s.measures.l.take 5 := by rw [List.take_eq_take_iff]; omega
      rw [hi3] at hA
      obtain ⟨fq2, hO, hq2⟩ := hA.own row_Measure
      obtain ⟨fq3, hO3, hq3⟩ := hP.own row_Part
      refine Own.frz (d := 8) (fp := [] ++ ([] ++ (fq3 ++ (fq2 ++ ([] ++ ([] ++ [])))))) (u := s.short.enc) ⟨_, rfl, ?_⟩ (by omega)
      have w : ∀ b ∈ fq2, ∀ z, (H.put 1 (some (.cells z))).cells b = H.cells b := fun b hb z => h_put_ne (by have := hfp b (hq2 b hb); omega)
      have w3 : ∀ b ∈ fq3, ∀ z, (H.put 1 (some (.cells z))).cells b = H.cells b := fun b hb z => h_put_ne (by have := hfpP b (hq3 b hb); omega)
      refine .cons (Own.plain rfl) (.cons (Own.plain rfl) (.cons ((hO3.mono (by decide)).frame fun b hb => w3 b hb _) (.cons ((hO.mono (by decide)).frame fun b hb => w b hb _) (.cons (Own.plain (plain1_slm Spanner.enc_closed)) (.cons (Own.plain (plain1_slm ID.enc_closed)) .nil Apart.nil_right) Apart.nil_left) ?_) ?_) Apart.nil_left) Apart.nil_left
      · simpa using Apart.nil_right
      · intro b hb hb2
        simp only [List.append_nil, List.nil_append] at hb2
        exact hap b (hq3 b hb) (hq2 b hb2)
end Go.Hem
/- Walks: a list with another element, as the reference makes it. -/
set_option maxRecDepth 10000
set_option maxHeartbeats 4000000
set_option linter.unusedSimpArgs false
set_option linter.unusedVariables false
namespace Go.Hem
variable {pol : Pol}
/-- A list with another element. -/
def Sl.set {α : Type} (s : Sl α) (i : Nat) (x : α) : Sl α := some (s.l.take i ++ [x] ++ s.l.drop (i + 1))
/-- As wA_app2, but what is put behind may be empty, if the list is not nil. -/
theorem wA_app3 {α : Type} {f : α → AV} {I : Bool} {d n bytes : Nat} {P : Program} {pol : Pol} {is : List CI} {dst : Option Tmp} {rd : List COp} {R : List AV → AHeap → Prop} {y : AV} {t : List AV} {H0 H : AHeap} {v x : AV} {l : List α} {fp fp1 : List Nat} {ys : List α} {cs1 : List AV}
    (hf : RowOf n f) (h : AccX I d n f H0 v (some l) fp) (hK : Keep H0.next H0 H) (hN : H0.next ≤ H.next) (hm : alen x = some ys.length) (hx : asrc n H x ys.length = some cs1)
    (ho : OwnL (OwnX I d) H cs1 (ys.flatMap fun y => (f y).cells) fp1) (ha : Apart fp fp1) (hb : (2 * (l.length + ys.length) + 1000) * bytes ≤ 2 ^ 47)
    (k : ∀ v' H' fp', AccX I d n f H' v' (some (l ++ ys)) fp' → H0.next ≤ H'.next → (∀ b, b ∉ fp → b < H0.next → H'.cells b = H0.cells b) → (∀ b ∈ fp', b ∈ fp ∨ b ∈ fp1 ∨ H0.next ≤ b) → v'.one = true → v'.cells = [v'] →
      reK P (y :: t) H rd H' ∧ wpIns P pol is (putT (y :: t) dst v') H' R) :
    wA P pol rd is dst (y :: t) H R (some true) (appTo n bytes H v x) := by
  by_cases hy : ys = []
  · subst hy
    have hl1 : cs1 = [] := List.length_eq_zero_iff.1 (by rw [ho.len]; rfl)
    subst hl1
    have hx' : asrc n H x 0 = some [] := hx
    have hm' : alen x = some 0 := hm
    have hA := h.keep hK
    have h2 := hA
    rcases h2 with ⟨_, h1, _⟩ | ⟨b, cap, cs, rest, fp', l', h1, rfl, h3, h4, h5, h6, h7, h8, rfl⟩
    · cases h1
    cases h1
    have e : appTo n bytes H (.slice b 0 l.length cap n) x = some (.mem (.slice b 0 l.length cap n) b (cs ++ rest)) := by
      simp only [appTo, hm', hx', Option.bind_some, h4, ne_eq, not_true, if_false, Nat.add_zero, if_pos h3]
      rw [if_pos (by
        have e1 : (cap - l.length) * n = cap * n - l.length * n := Nat.sub_mul _ _ _
        simp only [List.length_append]; omega)]
      simp [splice]
    have hs : ∀ c, (H.put b (some (.cells (cs ++ rest)))).cells c = H.cells c := fun c => by
      by_cases hc : c = b
      · subst hc; rw [h_put_self h4, h4]
      · rw [h_put_ne hc]
    have := k _ (H.put b (some (.cells (cs ++ rest)))) (b :: fp') (by rw [List.append_nil]; exact hA.fr fun c _ => hs c) (by simpa using hN) (fun c _ hc => by rw [hs, hK c hc]) (fun c hc => .inl hc) hA.one hA.cells
    rw [e, wA_mem]
    exact this
  · exact wA_app2 hf h hK hN hy hm hx ho ha hb k
theorem sl_take {α : Type} (s : Sl α) (i : Nat) : Sl.l (Option.map (fun x => x.take i) s) = s.l.take i := by cases s <;> simp [Sl.l]
theorem sl_drop {α : Type} (s : Sl α) (i : Nat) : Sl.l (Option.map (fun x => (x.take s.l.length).drop i) s) = s.l.drop i := by cases s <;> simp [Sl.l]
theorem own_flat {α : Type} {f : α → AV} {d : Nat} {H : AHeap} (h : ∀ v, AV.plain2 (f v) = true) (e : ∀ v, ∃ cs, f v = .agg cs) (l : List α) : OwnL (Own (d + 1)) H (l.flatMap fun v => (f v).cells) (l.flatMap fun v => (f v).cells) [] := OwnL.plain fun v hv => by
  obtain ⟨x, _, hx⟩ := List.mem_flatMap.1 hv
  obtain ⟨cs, hcs⟩ := e x
  have := h x
  rw [hcs] at this hx
  simp only [AV.plain2, List.all_eq_true] at this
  exact this v hx
theorem measures_frz {s : Score} {H : AHeap} {a : AV} {l : Sl Measure} {fp : List Nat} (h : Acc 1 22 Measure.enc H a l fp) :
    Frz (.agg [.sc (.str s.title), .sc (.bool s.written), slm Part.enc s.parts, a, slm Spanner.enc s.spanners, slm ID.enc s.last]) H (Score.enc { s with measures := l }) := by
  obtain ⟨fq, hO, -⟩ := h.own row_Measure
  refine OwnX.frz (I := true) (d := 3) (fp := [] ++ ([] ++ ([] ++ (fq ++ ([] ++ ([] ++ [])))))) ?_ (by decide)
  exact ⟨_, rfl, .cons .scal (.cons .scal (.cons (own_imm Part.enc_closed) (.cons hO (.cons (own_imm Spanner.enc_closed) (.cons (own_imm ID.enc_closed) .nil Apart.nil_left) Apart.nil_left) Apart.nil_right) Apart.nil_left) Apart.nil_left) Apart.nil_left⟩
theorem rsetm_pv (s : Score) (hT : Tame s) (i : Nat) (hi : i < s.measures.l.length) (m : Measure) : Pv prog pol 44 [s.enc, .sc (.int .i64 i), m.enc] (Score.enc { s with measures := s.measures.set i m }) := by
  refine Pv_of' ok44 (by simp only [AV.closedBs, Score.enc_closed, Measure.enc_closed, AV.closedB, Bool.and_self]) ?_
  have hb := hT.measures
  have e2 : IntKind.i64.wrap ((i : Int) + 1) = ((i + 1 : Nat) : Int) := by rw [w64 (by omega) (by omega)]; omega
  have f1 : ∀ v, (Measure.enc v).cells.length = 22 := Measure.enc_len
  have hi1 : i ≤ s.measures.l.length := by omega
  have hi2 : i + 1 ≤ s.measures.l.length := by omega
  simp -implicitDefEqProofs (maxDischargeDepth := 12) only [wpF, cf44, WW,List.replicate,e_splice,if_true,if_false,ite_true,ite_false,true_or,ne_eq,Nat.reduceAdd,Nat.reduceSub,Nat.reduceMul,Nat.reduceLeDiff,Nat.reduceEqDiff,Nat.reduceGT,Nat.reduceLT,Int.reduceLE,Int.reduceLT,Int.reduceToNat,Int.reduceAdd,reduceCtorEq,h_putc,beq_self_eq_true,eq_self,exists_eq_left,exists_eq_left', s.enc_eq, m.enc_eq, e2, e_cutm f1, hi1, hi2]
  refine wA_app3 row_Measure (I := true) (d := 1) (l := []) (fp := [3]) (ys := s.measures.l.take i) (.inr ⟨3, 0, [], [], [], [], rfl, rfl, Nat.le_refl _, ?_, rfl, by simp, .nil, by simp, rfl⟩) Keep.refl (Nat.le_refl _) (by rw [e_alenm, sl_take]) (by rw [e_srcm f1 (by rw [sl_take]; omega), sl_take, List.take_length]) (own_flat Measure.enc_plain (fun v => ⟨_, rfl⟩) _) Apart.nil_right ?_ ?_
  · simp -implicitDefEqProofs (maxDischargeDepth := 12) only [WW,List.replicate,e_splice,if_true,if_false,ite_true,ite_false,true_or,ne_eq,Nat.reduceAdd,Nat.reduceSub,Nat.reduceMul,Nat.reduceLeDiff,Nat.reduceEqDiff,Nat.reduceGT,Nat.reduceLT,Int.reduceLE,Int.reduceLT,Int.reduceToNat,Int.reduceAdd,reduceCtorEq,h_putc,beq_self_eq_true,eq_self,exists_eq_left,exists_eq_left']
  · simp only [List.length_take, List.length_nil]; omega
  intro v1 H1 fp1 hA1 hn1 hk1 hfp1 ho1 hc1
  simp only [AHeap.next_alloc, List.mem_singleton] at hn1 hk1 hfp1
  have g0 : H1.cells 0 = some s.enc.cells := by rw [hk1 0 (by decide) (by omega)]; simp -implicitDefEqProofs (maxDischargeDepth := 12) only [WW,List.replicate,e_splice,if_true,if_false,ite_true,ite_false,true_or,ne_eq,Nat.reduceAdd,Nat.reduceSub,Nat.reduceMul,Nat.reduceLeDiff,Nat.reduceEqDiff,Nat.reduceGT,Nat.reduceLT,Int.reduceLE,Int.reduceLT,Int.reduceToNat,Int.reduceAdd,reduceCtorEq,h_putc,beq_self_eq_true,eq_self,exists_eq_left,exists_eq_left']; rfl
  have g1 : H1.cells 1 = some m.enc.cells := by rw [hk1 1 (by decide) (by omega)]; simp -implicitDefEqProofs (maxDischargeDepth := 12) only [WW,List.replicate,e_splice,if_true,if_false,ite_true,ite_false,true_or,ne_eq,Nat.reduceAdd,Nat.reduceSub,Nat.reduceMul,Nat.reduceLeDiff,Nat.reduceEqDiff,Nat.reduceGT,Nat.reduceLT,Int.reduceLE,Int.reduceLT,Int.reduceToNat,Int.reduceAdd,reduceCtorEq,h_putc,beq_self_eq_true,eq_self,exists_eq_left,exists_eq_left']; rfl
  have g2 : H1.cells 2 = some (Score.enc default).cells := by rw [hk1 2 (by decide) (by omega)]; simp -implicitDefEqProofs (maxDischargeDepth := 12) only [WW,List.replicate,e_splice,if_true,if_false,ite_true,ite_false,true_or,ne_eq,Nat.reduceAdd,Nat.reduceSub,Nat.reduceMul,Nat.reduceLeDiff,Nat.reduceEqDiff,Nat.reduceGT,Nat.reduceLT,Int.reduceLE,Int.reduceLT,Int.reduceToNat,Int.reduceAdd,reduceCtorEq,h_putc,beq_self_eq_true,eq_self,exists_eq_left,exists_eq_left']; rfl
  have g4 : H1.cells 4 = some m.enc.cells := by rw [hk1 4 (by decide) (by omega)]; simp -implicitDefEqProofs (maxDischargeDepth := 12) only [WW,List.replicate,e_splice,if_true,if_false,ite_true,ite_false,true_or,ne_eq,Nat.reduceAdd,Nat.reduceSub,Nat.reduceMul,Nat.reduceLeDiff,Nat.reduceEqDiff,Nat.reduceGT,Nat.reduceLT,Int.reduceLE,Int.reduceLT,Int.reduceToNat,Int.reduceAdd,reduceCtorEq,h_putc,beq_self_eq_true,eq_self,exists_eq_left,exists_eq_left']; rfl
  have f2 : ∀ b ∈ fp1, 3 ≤ b := fun b hb => by rcases hfp1 b hb with h | h | h <;> first | omega | simp at h
  clear hk1
  simp only [s.enc_eq, m.enc_eq, c_agg] at g0 g1
  simp -implicitDefEqProofs (maxDischargeDepth := 12) only [WW,List.replicate,e_splice,if_true,if_false,ite_true,ite_false,true_or,ne_eq,Nat.reduceAdd,Nat.reduceSub,Nat.reduceMul,Nat.reduceLeDiff,Nat.reduceEqDiff,Nat.reduceGT,Nat.reduceLT,Int.reduceLE,Int.reduceLT,Int.reduceToNat,Int.reduceAdd,reduceCtorEq,h_putc,beq_self_eq_true,eq_self,exists_eq_left,exists_eq_left', e2, e_cutm f1, g0, g1, hi1, hi2]
  refine wA_app3 (f := Measure.enc) (bytes := 216) row_Measure hA1 Keep.refl (Nat.le_refl _) (ys := [m]) (cs1 := m.enc.cells) rfl (by simp [asrc, g4, m.enc_eq, c_agg]) (own_one (f := Measure.enc) (y := m) (Measure.enc_plain m) m.enc_eq) Apart.nil_right (by simp only [List.nil_append, List.length_take, List.length_cons, List.length_nil]; omega) ?_
  intro v2 H2 fp2 hA2 hn2 hk2 hfp2 ho2 hc2
  have g0' := g0
  replace g0 := (hk2 0 (fun h => by have := f2 0 h; omega) (h_lt g0)).trans g0
  replace g2 := (hk2 2 (fun h => by have := f2 2 h; omega) (h_lt g2)).trans g2
  have f3 : ∀ b ∈ fp2, 3 ≤ b := fun b hb => by rcases hfp2 b hb with h | h | h <;> first | exact f2 b h | omega | simp at h
  clear hk2 g1 g4 hA1 f2 hfp1 hfp2
  simp -implicitDefEqProofs (maxDischargeDepth := 12) only [WW,List.replicate,e_splice,if_true,if_false,ite_true,ite_false,true_or,ne_eq,Nat.reduceAdd,Nat.reduceSub,Nat.reduceMul,Nat.reduceLeDiff,Nat.reduceEqDiff,Nat.reduceGT,Nat.reduceLT,Int.reduceLE,Int.reduceLT,Int.reduceToNat,Int.reduceAdd,reduceCtorEq,h_putc,beq_self_eq_true,eq_self,exists_eq_left,exists_eq_left', e2, e_cutm f1, g0, g0', hi1, hi2]
  have a2 : alen (slm Measure.enc (Option.map (fun x => (x.take s.measures.l.length).drop (i + 1)) s.measures)) = some (s.measures.l.drop (i + 1)).length := by rw [e_alenm, sl_drop]
  have a3 : ∀ H, asrc 22 H (slm Measure.enc (Option.map (fun x => (x.take s.measures.l.length).drop (i + 1)) s.measures)) (s.measures.l.drop (i + 1)).length = some ((s.measures.l.drop (i + 1)).flatMap fun v => (Measure.enc v).cells) := fun H => by rw [e_srcm f1 (by rw [sl_drop]; omega), sl_drop, List.take_length]
  refine wA_app3 (f := Measure.enc) (bytes := 216) row_Measure hA2 Keep.refl (Nat.le_refl _) (ys := s.measures.l.drop (i + 1)) a2 (a3 _) (own_flat Measure.enc_plain (fun v => ⟨_, rfl⟩) _) Apart.nil_right (by simp only [List.nil_append, List.length_take, List.length_cons, List.length_nil, List.length_append, List.length_drop]; omega) ?_
  intro v3 H3 fp3 hA3 hn3 hk3 hfp3 ho3 hc3
  replace g0 := (hk3 0 (fun h => by have := f3 0 h; omega) (h_lt g0)).trans g0
  replace g2 := (hk3 2 (fun h => by have := f3 2 h; omega) (h_lt g2)).trans g2
  have f4 : ∀ b ∈ fp3, 3 ≤ b := fun b hb => by rcases hfp3 b hb with h | h | h <;> first | exact f3 b h | omega | simp at h
  have hl1 : 0 < H3.next := h_lt g0
  have hl2 : 2 < H3.next := h_lt g2
  have hz : (Score.enc default).cells.length = 6 := Score.enc_len _
  have hA4 : ∀ x y, Acc 1 22 Measure.enc ((H3.put 0 x).put 2 y) v3 (s.measures.set i m) fp3 := fun x y => hA3.fr fun b hb => by
    have := f4 b hb
    rw [cells_of_get (AHeap.get_put_ne _ y (show b ≠ 2 by omega)), cells_of_get (AHeap.get_put_ne _ x (show b ≠ 0 by omega))]
  simp -implicitDefEqProofs (maxDischargeDepth := 12) only [WW,List.replicate,e_splice,if_true,if_false,ite_true,ite_false,true_or,ne_eq,Nat.reduceAdd,Nat.reduceSub,Nat.reduceMul,Nat.reduceLeDiff,Nat.reduceEqDiff,Nat.reduceGT,Nat.reduceLT,Int.reduceLE,Int.reduceLT,Int.reduceToNat,Int.reduceAdd,reduceCtorEq,h_putc,beq_self_eq_true,eq_self,exists_eq_left,exists_eq_left', g0, g2, ho3, hc3, hz]
  exact measures_frz (hA4 _ _)
end Go.Hem
/- Walks: the reference's SetCell and SetEvent. -/
set_option maxRecDepth 10000
set_option maxHeartbeats 4000000
set_option linter.unusedSimpArgs false
set_option linter.unusedVariables false
namespace Go.Hem
variable {pol : Pol}
/-- A function that is run by itself on what owns its blocks; what it gives is not flat. -/
theorem pvf_ownA {P : Program} {pol : Pol} {K : AHeap → Prop} {H : AHeap} {Q : AV → AHeap → Prop} {f : FuncId} {args us : List AV} {fp : List Nat} {r : AV} (hc : AV.closedBs args = false) (h : OwnL (Own 20) H args us fp) (hv : Pv P pol f us r) (k : ∀ H1, Less H H1 fp → K H1 ∧ Q r H1) : PvF P pol K H Q f args := by
  obtain ⟨H1, a1, a2, a3⟩ := freezeL_own (O := Own 20) (fun H v u f => freezeV_own) (fun H H' v u f a b => OwnX.frame a b) h
  cases hr : r.flatB with
  | true => exact ⟨us, H1, r, hc, a1, hv, .inl ⟨hr, (k H fun _ _ => rfl).2⟩⟩
  | false => exact ⟨us, H1, r, hc, a1, hv, .inr ⟨hr, k H1 a3⟩⟩
theorem AccX.open {α : Type} {f : α → AV} {I : Bool} {d n : Nat} {H : AHeap} {v : AV} {l : List α} {fp : List Nat} (h : AccX I d n f H v (some l) fp) : AV.closedB v = false := by
  rcases h with ⟨_, h, _⟩ | ⟨b, cap, cs, rest, fp', l', h1, rfl, _⟩
  · cases h
  · rfl
def Measure.setCell (m : Measure) (j : Nat) (c : Cell) : Measure := { m with cells := m.cells.set j c }
def Score.setMeasure (s : Score) (i : Nat) (m : Measure) : Score := { s with measures := s.measures.set i m }
theorem own_score {d : Nat} {H : AHeap} (s : Score) : Own (d + 2) H (.agg [.sc (.str s.title), .sc (.bool s.written), slm Part.enc s.parts, slm Measure.enc s.measures, slm Spanner.enc s.spanners, slm ID.enc s.last]) s.enc [] :=
by
  have h : OwnL (Own (d + 1)) H [.sc (.str s.title), .sc (.bool s.written), slm Part.enc s.parts, slm Measure.enc s.measures, slm Spanner.enc s.spanners, slm ID.enc s.last] s.enc.cells ([] ++ ([] ++ ([] ++ ([] ++ ([] ++ ([] ++ [])))))) := .cons .scal (.cons .scal (.cons (own_imm Part.enc_closed) (.cons (own_imm Measure.enc_closed) (.cons (own_imm Spanner.enc_closed) (.cons (own_imm ID.enc_closed) .nil Apart.nil_left) Apart.nil_left) Apart.nil_left) Apart.nil_left) Apart.nil_left) Apart.nil_left
  exact ⟨_, rfl, h⟩
theorem ownL_scal {O : List AV} {U : List AV} {d : Nat} {H : AHeap} {fp : List Nat} : ∀ {l : List Sc}, OwnL (Own (d + 1)) H O U fp → OwnL (Own (d + 1)) H (l.map AV.sc ++ O) (l.map AV.sc ++ U) fp
  | [], h => h
  | x :: l, h => .cons (f := []) .scal (ownL_scal h) Apart.nil_left
theorem own_meas {d : Nat} {H : AHeap} {y : Measure} {v : AV} {l : Sl Cell} {fq : List Nat} (h : Own (d + 1) H v (slm Cell.enc l) fq) : Own (d + 2) H (.agg [.sc (.int .i64 y.id.site), .sc (.int .i64 y.id.number), .sc (.int .i64 y.metre.count), .sc (.int .i64 y.metre.unit), .sc (.int .i64 y.metre.g0), .sc (.int .i64 y.metre.g1), .sc (.int .i64 y.metre.g2), .sc (.int .i64 y.metre.g3), .sc (.int .i64 y.metre.g4), .sc (.int .i64 y.metre.g5), .sc (.int .i64 y.length), .sc (.int .i64 y.fifths), .sc (.bool y.rstart), .sc (.int .i64 y.rend), .sc (.int .i64 y.endings), .sc (.int .i64 y.jump), .sc (.int .i64 y.labels), .sc (.int .i64 y.swing), .sc (.int .i64 y.brk), .sc (.str y.rehearsal), slm Tempo.enc y.tempi, v]) (Measure.enc { y with cells := l }) fq :=
  ⟨_, rfl, ownL_scal (l := [.int .i64 y.id.site, .int .i64 y.id.number, .int .i64 y.metre.count, .int .i64 y.metre.unit, .int .i64 y.metre.g0, .int .i64 y.metre.g1, .int .i64 y.metre.g2, .int .i64 y.metre.g3, .int .i64 y.metre.g4, .int .i64 y.metre.g5, .int .i64 y.length, .int .i64 y.fifths, .bool y.rstart, .int .i64 y.rend, .int .i64 y.endings, .int .i64 y.jump, .int .i64 y.labels, .int .i64 y.swing, .int .i64 y.brk, .str y.rehearsal]) (by
    have := OwnL.cons (own_imm (H := H) (d := d) (s := y.tempi) Tempo.enc_closed) (.cons h .nil Apart.nil_right) Apart.nil_left
    simpa using this)⟩
theorem rsetc_pv (hp : pol.pure 44 = true) (s : Score) (hT : Tame s) (i j : Nat) (y : Measure) (hy : s.measures.l[i]? = some y) (hj : j < y.cells.l.length) (c : Cell) : Pv prog pol 45 [s.enc, .sc (.int .i64 i), .sc (.int .i64 j), c.enc] (Score.enc (s.setMeasure i (y.setCell j c))) := by
  refine Pv_of' ok45 (by simp only [AV.closedBs, Score.enc_closed, Cell.enc_closed, AV.closedB, Bool.and_self]) ?_
  have hb := hT.measures
  have hb1 := hT.cells _ _ hy
  have hi := (List.getElem?_eq_some_iff.1 hy).1
  have e2 : IntKind.i64.wrap ((j : Int) + 1) = ((j + 1 : Nat) : Int) := by rw [w64 (by omega) (by omega)]; omega
  have f1 : ∀ v, (Cell.enc v).cells.length = 2 := Cell.enc_len
  have hi1 : j ≤ y.cells.l.length := by omega
  have hi2 : j + 1 ≤ y.cells.l.length := by omega
  simp -implicitDefEqProofs (maxDischargeDepth := 12) only [wpF, cf45, WW,List.replicate,e_splice,if_true,if_false,ite_true,ite_false,true_or,ne_eq,Nat.reduceAdd,Nat.reduceSub,Nat.reduceMul,Nat.reduceLeDiff,Nat.reduceEqDiff,Nat.reduceGT,Nat.reduceLT,Int.reduceLE,Int.reduceLT,Int.reduceToNat,Int.reduceAdd,reduceCtorEq,h_putc,beq_self_eq_true,eq_self,exists_eq_left,exists_eq_left', s.enc_eq, c.enc_eq, hy, y.enc_eq, e2, e_cutm f1, hi1, hi2]
  have a0 : alen (slm Cell.enc (Option.map (fun x => x.take j) y.cells)) = some (y.cells.l.take j).length := by rw [e_alenm, sl_take]
  have a1 : ∀ H, asrc 2 H (slm Cell.enc (Option.map (fun x => x.take j) y.cells)) (y.cells.l.take j).length = some ((y.cells.l.take j).flatMap fun v => (Cell.enc v).cells) := fun H => by rw [e_srcm f1 (by rw [sl_take]; omega), sl_take, List.take_length]
  have a2 : alen (slm Cell.enc (Option.map (fun x => (x.take y.cells.l.length).drop (j + 1)) y.cells)) = some (y.cells.l.drop (j + 1)).length := by rw [e_alenm, sl_drop]
  have a3 : ∀ H, asrc 2 H (slm Cell.enc (Option.map (fun x => (x.take y.cells.l.length).drop (j + 1)) y.cells)) (y.cells.l.drop (j + 1)).length = some ((y.cells.l.drop (j + 1)).flatMap fun v => (Cell.enc v).cells) := fun H => by rw [e_srcm f1 (by rw [sl_drop]; omega), sl_drop, List.take_length]
  refine wA_app3 (f := Cell.enc) (bytes := 48) row_Cell (I := true) (d := 1) (l := []) (fp := [4]) (ys := y.cells.l.take j) (.inr ⟨4, 0, [], [], [], [], rfl, rfl, Nat.le_refl _, ?_, rfl, by simp, .nil, by simp, rfl⟩) Keep.refl (Nat.le_refl _) a0 (a1 _) (own_flat Cell.enc_plain (fun v => ⟨_, rfl⟩) _) Apart.nil_right ?_ ?_
  · simp -implicitDefEqProofs (maxDischargeDepth := 12) only [WW,List.replicate,e_splice,if_true,if_false,ite_true,ite_false,true_or,ne_eq,Nat.reduceAdd,Nat.reduceSub,Nat.reduceMul,Nat.reduceLeDiff,Nat.reduceEqDiff,Nat.reduceGT,Nat.reduceLT,Int.reduceLE,Int.reduceLT,Int.reduceToNat,Int.reduceAdd,reduceCtorEq,h_putc,beq_self_eq_true,eq_self,exists_eq_left,exists_eq_left']
  · simp only [List.length_take, List.length_nil]; omega
  intro v1 H1 fp1 hA1 hn1 hk1 hfp1 ho1 hc1
  simp only [AHeap.next_alloc, AHeap.next_put, List.mem_singleton] at hn1 hk1 hfp1
  have g0 : H1.cells 0 = some s.enc.cells := by rw [hk1 0 (by decide) (by omega)]; simp -implicitDefEqProofs (maxDischargeDepth := 12) only [WW,List.replicate,e_splice,if_true,if_false,ite_true,ite_false,true_or,ne_eq,Nat.reduceAdd,Nat.reduceSub,Nat.reduceMul,Nat.reduceLeDiff,Nat.reduceEqDiff,Nat.reduceGT,Nat.reduceLT,Int.reduceLE,Int.reduceLT,Int.reduceToNat,Int.reduceAdd,reduceCtorEq,h_putc,beq_self_eq_true,eq_self,exists_eq_left,exists_eq_left']; rfl
  have g1 : H1.cells 1 = some c.enc.cells := by rw [hk1 1 (by decide) (by omega)]; simp -implicitDefEqProofs (maxDischargeDepth := 12) only [WW,List.replicate,e_splice,if_true,if_false,ite_true,ite_false,true_or,ne_eq,Nat.reduceAdd,Nat.reduceSub,Nat.reduceMul,Nat.reduceLeDiff,Nat.reduceEqDiff,Nat.reduceGT,Nat.reduceLT,Int.reduceLE,Int.reduceLT,Int.reduceToNat,Int.reduceAdd,reduceCtorEq,h_putc,beq_self_eq_true,eq_self,exists_eq_left,exists_eq_left']; rfl
  have g2 : H1.cells 2 = some (Score.enc default).cells := by rw [hk1 2 (by decide) (by omega)]; simp -implicitDefEqProofs (maxDischargeDepth := 12) only [WW,List.replicate,e_splice,if_true,if_false,ite_true,ite_false,true_or,ne_eq,Nat.reduceAdd,Nat.reduceSub,Nat.reduceMul,Nat.reduceLeDiff,Nat.reduceEqDiff,Nat.reduceGT,Nat.reduceLT,Int.reduceLE,Int.reduceLT,Int.reduceToNat,Int.reduceAdd,reduceCtorEq,h_putc,beq_self_eq_true,eq_self,exists_eq_left,exists_eq_left']; rfl
  have g3 : H1.cells 3 = some y.enc.cells := by rw [hk1 3 (by decide) (by omega)]; simp -implicitDefEqProofs (maxDischargeDepth := 12) only [WW,List.replicate,e_splice,if_true,if_false,ite_true,ite_false,true_or,ne_eq,Nat.reduceAdd,Nat.reduceSub,Nat.reduceMul,Nat.reduceLeDiff,Nat.reduceEqDiff,Nat.reduceGT,Nat.reduceLT,Int.reduceLE,Int.reduceLT,Int.reduceToNat,Int.reduceAdd,reduceCtorEq,h_putc,beq_self_eq_true,eq_self,exists_eq_left,exists_eq_left']; rfl
  have g5 : H1.cells 5 = some c.enc.cells := by rw [hk1 5 (by decide) (by omega)]; simp -implicitDefEqProofs (maxDischargeDepth := 12) only [WW,List.replicate,e_splice,if_true,if_false,ite_true,ite_false,true_or,ne_eq,Nat.reduceAdd,Nat.reduceSub,Nat.reduceMul,Nat.reduceLeDiff,Nat.reduceEqDiff,Nat.reduceGT,Nat.reduceLT,Int.reduceLE,Int.reduceLT,Int.reduceToNat,Int.reduceAdd,reduceCtorEq,h_putc,beq_self_eq_true,eq_self,exists_eq_left,exists_eq_left']; rfl
  have f2 : ∀ b ∈ fp1, 4 ≤ b := fun b hb => by rcases hfp1 b hb with h | h | h <;> first | omega | simp at h
  clear hk1
  simp only [s.enc_eq, c.enc_eq, y.enc_eq, c_agg] at g0 g1 g3
  simp -implicitDefEqProofs (maxDischargeDepth := 12) only [WW,List.replicate,e_splice,if_true,if_false,ite_true,ite_false,true_or,ne_eq,Nat.reduceAdd,Nat.reduceSub,Nat.reduceMul,Nat.reduceLeDiff,Nat.reduceEqDiff,Nat.reduceGT,Nat.reduceLT,Int.reduceLE,Int.reduceLT,Int.reduceToNat,Int.reduceAdd,reduceCtorEq,h_putc,beq_self_eq_true,eq_self,exists_eq_left,exists_eq_left', e2, e_cutm f1, g0, g1, g3, hi1, hi2]
  refine wA_app3 (f := Cell.enc) (bytes := 48) row_Cell hA1 Keep.refl (Nat.le_refl _) (ys := [c]) (cs1 := c.enc.cells) rfl (by simp [asrc, g5, c.enc_eq, c_agg]) (own_one (f := Cell.enc) (y := c) (Cell.enc_plain c) c.enc_eq) Apart.nil_right (by simp only [List.nil_append, List.length_take, List.length_cons, List.length_nil]; omega) ?_
  intro v2 H2 fp2 hA2 hn2 hk2 hfp2 ho2 hc2
  have g3' := g3
  replace g0 := (hk2 0 (fun h => by have := f2 0 h; omega) (h_lt g0)).trans g0
  replace g2 := (hk2 2 (fun h => by have := f2 2 h; omega) (h_lt g2)).trans g2
  replace g3 := (hk2 3 (fun h => by have := f2 3 h; omega) (h_lt g3)).trans g3
  have f3 : ∀ b ∈ fp2, 4 ≤ b := fun b hb => by rcases hfp2 b hb with h | h | h <;> first | exact f2 b h | (have := h_lt g5; omega) | simp at h
  clear hk2 g1 g5 hA1 f2 hfp1 hfp2
  simp -implicitDefEqProofs (maxDischargeDepth := 12) only [WW,List.replicate,e_splice,if_true,if_false,ite_true,ite_false,true_or,ne_eq,Nat.reduceAdd,Nat.reduceSub,Nat.reduceMul,Nat.reduceLeDiff,Nat.reduceEqDiff,Nat.reduceGT,Nat.reduceLT,Int.reduceLE,Int.reduceLT,Int.reduceToNat,Int.reduceAdd,reduceCtorEq,h_putc,beq_self_eq_true,eq_self,exists_eq_left,exists_eq_left', e2, e_cutm f1, g0, g3, g3', hi1, hi2]
  refine wA_app3 (f := Cell.enc) (bytes := 48) row_Cell hA2 Keep.refl (Nat.le_refl _) (ys := y.cells.l.drop (j + 1)) a2 (a3 _) (own_flat Cell.enc_plain (fun v => ⟨_, rfl⟩) _) Apart.nil_right (by simp only [List.nil_append, List.length_take, List.length_cons, List.length_nil, List.length_append, List.length_drop]; omega) ?_
  intro v3 H3 fp3 hA3 hn3 hk3 hfp3 ho3 hc3
  have hl5 := h_lt g3
  replace g0 := (hk3 0 (fun h => by have := f3 0 h; omega) (h_lt g0)).trans g0
  replace g2 := (hk3 2 (fun h => by have := f3 2 h; omega) (h_lt g2)).trans g2
  replace g3 := (hk3 3 (fun h => by have := f3 3 h; omega) (h_lt g3)).trans g3
  have f4 : ∀ b ∈ fp3, 4 ≤ b := fun b hb => by rcases hfp3 b hb with h | h | h <;> first | exact f3 b h | omega | simp at h
  clear hk3 hA2 hfp3 g3'
  have hz : (Score.enc default).cells.length = 6 := Score.enc_len _
  simp -implicitDefEqProofs (maxDischargeDepth := 12) only [WW,List.replicate,e_splice,if_true,if_false,ite_true,ite_false,true_or,ne_eq,Nat.reduceAdd,Nat.reduceSub,Nat.reduceMul,Nat.reduceLeDiff,Nat.reduceEqDiff,Nat.reduceGT,Nat.reduceLT,Int.reduceLE,Int.reduceLT,Int.reduceToNat,Int.reduceAdd,reduceCtorEq,h_putc,beq_self_eq_true,eq_self,exists_eq_left,exists_eq_left', g0, g2, g3, ho3, hc3, hz]
  obtain ⟨fq, hO, hq⟩ := hA3.own row_Cell
  have hO' : ∀ x, Own 2 (H3.put 3 x) v3 (slm Cell.enc (y.cells.set j c)) fq := fun x => hO.frame fun b hb => by
    have := f4 b (hq b hb)
    rw [cells_of_get (AHeap.get_put_ne _ x (show b ≠ 3 by omega))]
  refine wA_pvf hp (pvf_ownA (fp := [] ++ ([] ++ (fq ++ []))) ?_ (.cons (own_score s) (.cons .scal (.cons (own_meas ((hO' _).mono (by decide))) .nil Apart.nil_right) Apart.nil_left) Apart.nil_left) (rsetm_pv s hT i hi (y.setCell j c)) ?_)
  · simp only [AV.closedBs, AV.closedB, hA3.open, Bool.and_false, Bool.false_and]
  intro H4 hless
  have g6 : H4.cells 2 = some (Score.enc default).cells := by
    rw [cells_of_get (hless 2 (by simp only [List.nil_append, List.append_nil]; exact fun h => by have := f4 _ (hq _ h); omega)), cells_of_get (AHeap.get_put_ne _ _ (by decide)), g2]
  simp -implicitDefEqProofs (maxDischargeDepth := 12) only [WW,List.replicate,e_splice,if_true,if_false,ite_true,ite_false,true_or,ne_eq,Nat.reduceAdd,Nat.reduceSub,Nat.reduceMul,Nat.reduceLeDiff,Nat.reduceEqDiff,Nat.reduceGT,Nat.reduceLT,Int.reduceLE,Int.reduceLT,Int.reduceToNat,Int.reduceAdd,reduceCtorEq,h_putc,beq_self_eq_true,eq_self,exists_eq_left,exists_eq_left', g6, hz, Score.enc_eq]
  exact (own_score (d := 1) (s.setMeasure i (y.setCell j c))).frz (by decide)
end Go.Hem
/- Walks: the reference's SetEvent. -/
set_option maxRecDepth 10000
set_option maxHeartbeats 4000000
set_option linter.unusedSimpArgs false
set_option linter.unusedVariables false
namespace Go.Hem
variable {pol : Pol}
section
variable {α : Type} {f : α → AV} {n : Nat}
theorem take_alen (s : Sl α) (j : Nat) : alen (slm f (Option.map (fun x => x.take j) s)) = some (s.l.take j).length := by rw [e_alenm, sl_take]
theorem take_src (hf : ∀ v, (f v).cells.length = n) (s : Sl α) (j : Nat) (H : AHeap) : asrc n H (slm f (Option.map (fun x => x.take j) s)) (s.l.take j).length = some ((s.l.take j).flatMap fun v => (f v).cells) := by rw [e_srcm hf (by rw [sl_take]; omega), sl_take, List.take_length]
theorem drop_alen (s : Sl α) (j : Nat) : alen (slm f (Option.map (fun x => (x.take s.l.length).drop j) s)) = some (s.l.drop j).length := by rw [e_alenm, sl_drop]
theorem drop_src (hf : ∀ v, (f v).cells.length = n) (s : Sl α) (j : Nat) (H : AHeap) : asrc n H (slm f (Option.map (fun x => (x.take s.l.length).drop j) s)) (s.l.drop j).length = some ((s.l.drop j).flatMap fun v => (f v).cells) := by rw [e_srcm hf (by rw [sl_drop]; omega), sl_drop, List.take_length]
end
def Voice.setEvent (v : Voice) (j : Nat) (e : Event) : Voice := { v with events := v.events.set j e }
def Cell.setVoice (c : Cell) (j : Nat) (v : Voice) : Cell := { c with voices := c.voices.set j v }
theorem own_cell {d : Nat} {H : AHeap} {c : Cell} {v : AV} {l : Sl Voice} {fq : List Nat} (h : Own (d + 1) H v (slm Voice.enc l) fq) : Own (d + 2) H (.agg [slm ClefChange.enc c.clefs, v]) (Cell.enc { c with voices := l }) fq := by
  have h : OwnL (Own (d + 1)) H [slm ClefChange.enc c.clefs, v] (Cell.enc { c with voices := l }).cells ([] ++ (fq ++ [])) := .cons (own_imm ClefChange.enc_closed) (.cons h .nil Apart.nil_right) Apart.nil_left
  rw [List.nil_append, List.append_nil] at h
  exact ⟨_, rfl, h⟩
theorem rsete_pv (hp : pol.pure 45 = true) (hp2 : pol.pure 30 = true) (hp3 : pol.pure 16 = true) (hp4 : pol.pure 71 = true) (hp5 : pol.pure 44 = true) (s : Score) (hT : Tame s) (p : Place) (i j k l : Nat) (y : Measure) (c : Cell) (v : Voice) (hy : s.measures.l[i]? = some y) (hc : y.cells.l[j]? = some c) (hv : c.voices.l[k]? = some v) (hl : l < v.events.l.length) (e : Event)
    (h1 : p.measure = i) (h2 : p.staff = j) (h3 : p.voice = k) (h4 : p.event = l) (hT2 : Tame (s.setMeasure i (y.setCell j (c.setVoice k (v.setEvent l e))))) : Pv prog pol 52 [s.enc, p.enc, e.enc] (Score.enc (s.setMeasure i (y.setCell j (c.setVoice k (v.setEvent l e)))).pruned) := by
  refine Pv_of' ok52 (by simp only [AV.closedBs, Score.enc_closed, Event.enc_closed, Place.enc_closed, AV.closedB, Bool.and_self]) ?_
  have hb := hT.measures
  have hb1 := hT.cells _ _ hy
  have hb2 := hT.voices _ _ _ _ hy hc
  have hb3 := hT.events _ _ _ _ _ _ hy hc hv
  have hj := (List.getElem?_eq_some_iff.1 hc).1
  have hk := (List.getElem?_eq_some_iff.1 hv).1
  have e2 : IntKind.i64.wrap ((l : Int) + 1) = ((l + 1 : Nat) : Int) := by rw [w64 (by omega) (by omega)]; omega
  have e3 : IntKind.i64.wrap ((k : Int) + 1) = ((k + 1 : Nat) : Int) := by rw [w64 (by omega) (by omega)]; omega
  have f1 : ∀ v, (Event.enc v).cells.length = 13 := Event.enc_len
  have f0 : ∀ v, (Voice.enc v).cells.length = 2 := Voice.enc_len
  have hi1 : l ≤ v.events.l.length := by omega
  have hi2 : l + 1 ≤ v.events.l.length := by omega
  have hi3 : k ≤ c.voices.l.length := by omega
  have hi4 : k + 1 ≤ c.voices.l.length := by omega
  simp -implicitDefEqProofs (maxDischargeDepth := 12) only [wpF, cf52, WW,List.replicate,e_splice,if_true,if_false,ite_true,ite_false,true_or,ne_eq,Nat.reduceAdd,Nat.reduceSub,Nat.reduceMul,Nat.reduceLeDiff,Nat.reduceEqDiff,Nat.reduceGT,Nat.reduceLT,Int.reduceLE,Int.reduceLT,Int.reduceToNat,Int.reduceAdd,reduceCtorEq,h_putc,beq_self_eq_true,eq_self,exists_eq_left,exists_eq_left', s.enc_eq, p.enc_eq, h1, h2, h3, h4, e.enc_eq, hy, hc, hv, y.enc_eq, c.enc_eq, v.enc_eq, e2, e_cutm f1, hi1, hi2]
  refine wA_app3 (f := Event.enc) (bytes := 152) row_Event (I := true) (d := 1) (l := []) (fp := [6]) (ys := v.events.l.take l) (.inr ⟨6, 0, [], [], [], [], rfl, rfl, Nat.le_refl _, ?_, rfl, by simp, .nil, by simp, rfl⟩) Keep.refl (Nat.le_refl _) (take_alen _ _) (take_src f1 _ _ _) (own_flat Event.enc_plain (fun v => ⟨_, rfl⟩) _) Apart.nil_right ?_ ?_
  · simp -implicitDefEqProofs (maxDischargeDepth := 12) only [WW,List.replicate,e_splice,if_true,if_false,ite_true,ite_false,true_or,ne_eq,Nat.reduceAdd,Nat.reduceSub,Nat.reduceMul,Nat.reduceLeDiff,Nat.reduceEqDiff,Nat.reduceGT,Nat.reduceLT,Int.reduceLE,Int.reduceLT,Int.reduceToNat,Int.reduceAdd,reduceCtorEq,h_putc,beq_self_eq_true,eq_self,exists_eq_left,exists_eq_left']
  · simp only [List.length_take, List.length_nil]; omega
  intro v1 H1 fp1 hA1 hn1 hk1 hfp1 ho1 hc1
  simp only [AHeap.next_alloc, AHeap.next_put, List.mem_singleton] at hn1 hk1 hfp1
  have g0 : H1.cells 0 = some s.enc.cells := by rw [hk1 0 (by decide) (by omega)]; simp -implicitDefEqProofs (maxDischargeDepth := 12) only [WW,List.replicate,e_splice,if_true,if_false,ite_true,ite_false,true_or,ne_eq,Nat.reduceAdd,Nat.reduceSub,Nat.reduceMul,Nat.reduceLeDiff,Nat.reduceEqDiff,Nat.reduceGT,Nat.reduceLT,Int.reduceLE,Int.reduceLT,Int.reduceToNat,Int.reduceAdd,reduceCtorEq,h_putc,beq_self_eq_true,eq_self,exists_eq_left,exists_eq_left']; rfl
  have g1 : H1.cells 1 = some [.sc (.int .i64 p.kind), .sc (.int .i64 p.part), .sc (.int .i64 j), .sc (.int .i64 i), .sc (.int .i64 k), .sc (.int .i64 l), .sc (.int .i64 p.spanner)] := by rw [hk1 1 (by decide) (by omega)]; simp -implicitDefEqProofs (maxDischargeDepth := 12) only [WW,List.replicate,e_splice,if_true,if_false,ite_true,ite_false,true_or,ne_eq,Nat.reduceAdd,Nat.reduceSub,Nat.reduceMul,Nat.reduceLeDiff,Nat.reduceEqDiff,Nat.reduceGT,Nat.reduceLT,Int.reduceLE,Int.reduceLT,Int.reduceToNat,Int.reduceAdd,reduceCtorEq,h_putc,beq_self_eq_true,eq_self,exists_eq_left,exists_eq_left']
  have g2 : H1.cells 2 = some e.enc.cells := by rw [hk1 2 (by decide) (by omega)]; simp -implicitDefEqProofs (maxDischargeDepth := 12) only [WW,List.replicate,e_splice,if_true,if_false,ite_true,ite_false,true_or,ne_eq,Nat.reduceAdd,Nat.reduceSub,Nat.reduceMul,Nat.reduceLeDiff,Nat.reduceEqDiff,Nat.reduceGT,Nat.reduceLT,Int.reduceLE,Int.reduceLT,Int.reduceToNat,Int.reduceAdd,reduceCtorEq,h_putc,beq_self_eq_true,eq_self,exists_eq_left,exists_eq_left']; rfl
  have g3 : H1.cells 3 = some (Score.enc default).cells := by rw [hk1 3 (by decide) (by omega)]; simp -implicitDefEqProofs (maxDischargeDepth := 12) only [WW,List.replicate,e_splice,if_true,if_false,ite_true,ite_false,true_or,ne_eq,Nat.reduceAdd,Nat.reduceSub,Nat.reduceMul,Nat.reduceLeDiff,Nat.reduceEqDiff,Nat.reduceGT,Nat.reduceLT,Int.reduceLE,Int.reduceLT,Int.reduceToNat,Int.reduceAdd,reduceCtorEq,h_putc,beq_self_eq_true,eq_self,exists_eq_left,exists_eq_left']; rfl
  have g4 : H1.cells 4 = some c.enc.cells := by rw [hk1 4 (by decide) (by omega)]; simp -implicitDefEqProofs (maxDischargeDepth := 12) only [WW,List.replicate,e_splice,if_true,if_false,ite_true,ite_false,true_or,ne_eq,Nat.reduceAdd,Nat.reduceSub,Nat.reduceMul,Nat.reduceLeDiff,Nat.reduceEqDiff,Nat.reduceGT,Nat.reduceLT,Int.reduceLE,Int.reduceLT,Int.reduceToNat,Int.reduceAdd,reduceCtorEq,h_putc,beq_self_eq_true,eq_self,exists_eq_left,exists_eq_left']; rfl
  have g5 : H1.cells 5 = some v.enc.cells := by rw [hk1 5 (by decide) (by omega)]; simp -implicitDefEqProofs (maxDischargeDepth := 12) only [WW,List.replicate,e_splice,if_true,if_false,ite_true,ite_false,true_or,ne_eq,Nat.reduceAdd,Nat.reduceSub,Nat.reduceMul,Nat.reduceLeDiff,Nat.reduceEqDiff,Nat.reduceGT,Nat.reduceLT,Int.reduceLE,Int.reduceLT,Int.reduceToNat,Int.reduceAdd,reduceCtorEq,h_putc,beq_self_eq_true,eq_self,exists_eq_left,exists_eq_left']; rfl
  have g7 : H1.cells 7 = some e.enc.cells := by rw [hk1 7 (by decide) (by omega)]; simp -implicitDefEqProofs (maxDischargeDepth := 12) only [WW,List.replicate,e_splice,if_true,if_false,ite_true,ite_false,true_or,ne_eq,Nat.reduceAdd,Nat.reduceSub,Nat.reduceMul,Nat.reduceLeDiff,Nat.reduceEqDiff,Nat.reduceGT,Nat.reduceLT,Int.reduceLE,Int.reduceLT,Int.reduceToNat,Int.reduceAdd,reduceCtorEq,h_putc,beq_self_eq_true,eq_self,exists_eq_left,exists_eq_left']; rfl
  have f2 : ∀ b ∈ fp1, 6 ≤ b := fun b hb => by rcases hfp1 b hb with h | h | h <;> first | omega | simp at h
  clear hk1
  simp only [s.enc_eq, e.enc_eq, c.enc_eq, v.enc_eq, c_agg] at g0 g2 g4 g5
  simp -implicitDefEqProofs (maxDischargeDepth := 12) only [WW,List.replicate,e_splice,if_true,if_false,ite_true,ite_false,true_or,ne_eq,Nat.reduceAdd,Nat.reduceSub,Nat.reduceMul,Nat.reduceLeDiff,Nat.reduceEqDiff,Nat.reduceGT,Nat.reduceLT,Int.reduceLE,Int.reduceLT,Int.reduceToNat,Int.reduceAdd,reduceCtorEq,h_putc,beq_self_eq_true,eq_self,exists_eq_left,exists_eq_left', e2, e_cutm f1, g0, g1, g2, g4, g5, hi1, hi2]
  refine wA_app3 (f := Event.enc) (bytes := 152) row_Event hA1 Keep.refl (Nat.le_refl _) (ys := [e]) (cs1 := e.enc.cells) rfl (by simp [asrc, g7, e.enc_eq, c_agg]) (own_one (f := Event.enc) (y := e) (Event.enc_plain e) e.enc_eq) Apart.nil_right (by simp only [List.nil_append, List.length_take, List.length_cons, List.length_nil]; omega) ?_
  intro v2 H2 fp2 hA2 hn2 hk2 hfp2 ho2 hc2
  have G1 := g1
  have G5 := g5
  replace g0 := (hk2 0 (fun h => by have := f2 0 h; omega) (h_lt g0)).trans g0
  replace g1 := (hk2 1 (fun h => by have := f2 1 h; omega) (h_lt g1)).trans g1
  replace g3 := (hk2 3 (fun h => by have := f2 3 h; omega) (h_lt g3)).trans g3
  replace g4 := (hk2 4 (fun h => by have := f2 4 h; omega) (h_lt g4)).trans g4
  replace g5 := (hk2 5 (fun h => by have := f2 5 h; omega) (h_lt g5)).trans g5
  have f3 : ∀ b ∈ fp2, 6 ≤ b := fun b hb => by rcases hfp2 b hb with h | h | h <;> first | exact f2 b h | (have := h_lt g7; omega) | simp at h
  clear hk2 g2 g7 hA1 f2 hfp1 hfp2
  simp -implicitDefEqProofs (maxDischargeDepth := 12) only [WW,List.replicate,e_splice,if_true,if_false,ite_true,ite_false,true_or,ne_eq,Nat.reduceAdd,Nat.reduceSub,Nat.reduceMul,Nat.reduceLeDiff,Nat.reduceEqDiff,Nat.reduceGT,Nat.reduceLT,Int.reduceLE,Int.reduceLT,Int.reduceToNat,Int.reduceAdd,reduceCtorEq,h_putc,beq_self_eq_true,eq_self,exists_eq_left,exists_eq_left', e2, e_cutm f1, g0, g1, G1, G5, g4, g5, hi1, hi2]
  refine wA_app3 (f := Event.enc) (bytes := 152) row_Event hA2 Keep.refl (Nat.le_refl _) (ys := v.events.l.drop (l + 1)) (drop_alen _ _) (drop_src f1 _ _ _) (own_flat Event.enc_plain (fun v => ⟨_, rfl⟩) _) Apart.nil_right (by simp only [List.nil_append, List.length_take, List.length_cons, List.length_nil, List.length_append, List.length_drop]; omega) ?_
  intro v3 H3 fp3 hA3 hn3 hk3 hfp3 ho3 hc3
  have hl5 := h_lt g5
  replace g0 := (hk3 0 (fun h => by have := f3 0 h; omega) (h_lt g0)).trans g0
  replace g1 := (hk3 1 (fun h => by have := f3 1 h; omega) (h_lt g1)).trans g1
  replace g3 := (hk3 3 (fun h => by have := f3 3 h; omega) (h_lt g3)).trans g3
  replace g4 := (hk3 4 (fun h => by have := f3 4 h; omega) (h_lt g4)).trans g4
  replace g5 := (hk3 5 (fun h => by have := f3 5 h; omega) (h_lt g5)).trans g5
  have f4 : ∀ b ∈ fp3, 6 ≤ b := fun b hb => by rcases hfp3 b hb with h | h | h <;> first | exact f3 b h | omega | simp at h
  have f5 := hA3.lts
  replace hl5 := h_lt g5
  clear hk3 hA2 hfp3 G1 G5
  have q0 : ¬ (0 = H3.next) := by omega
  have q1 : ¬ (1 = H3.next) := by omega
  have q3 : ¬ (3 = H3.next) := by omega
  have q4 : ¬ (4 = H3.next) := by omega
  have q5 : ¬ (5 = H3.next) := by omega
  have q6 : ¬ (0 = H3.next + 1) := by omega
  have q7 : ¬ (1 = H3.next + 1) := by omega
  have q8 : ¬ (3 = H3.next + 1) := by omega
  have q9 : ¬ (4 = H3.next + 1) := by omega
  have qa : ¬ (5 = H3.next + 1) := by omega
  simp -implicitDefEqProofs (maxDischargeDepth := 12) only [WW,List.replicate,e_splice,if_true,if_false,ite_true,ite_false,true_or,ne_eq,Nat.reduceAdd,Nat.reduceSub,Nat.reduceMul,Nat.reduceLeDiff,Nat.reduceEqDiff,Nat.reduceGT,Nat.reduceLT,Int.reduceLE,Int.reduceLT,Int.reduceToNat,Int.reduceAdd,reduceCtorEq,h_putc,beq_self_eq_true,eq_self,exists_eq_left,exists_eq_left', e3, e_cutm f0, g0, g1, g3, g4, g5, ho3, hc3, hi3, hi4, q0, q1, q3, q4, q5, q6, q7, q8, q9, qa]
  obtain ⟨fq, hO, hq⟩ := hA3.own row_Event
  have r1 : ∀ b ∈ fq, 6 ≤ b ∧ b < H3.next := fun b hb => ⟨f4 b (hq b hb), f5 b (hq b hb)⟩
  refine wA_app3 (f := Voice.enc) (bytes := 48) row_Voice (I := true) (d := 2) (l := []) (fp := [H3.next]) (ys := c.voices.l.take k) (.inr ⟨H3.next, 0, [], [], [], [], rfl, rfl, Nat.le_refl _, ?_, rfl, by simp, .nil, by simp, rfl⟩) Keep.refl (Nat.le_refl _) (take_alen _ _) (take_src f0 _ _ _) (own_flat Voice.enc_plain (fun v => ⟨_, rfl⟩) _) Apart.nil_right ?_ ?_
  · have qb : ¬ (H3.next = H3.next + 1) := by omega
    simp -implicitDefEqProofs (maxDischargeDepth := 12) only [WW,List.replicate,e_splice,if_true,if_false,ite_true,ite_false,true_or,ne_eq,Nat.reduceAdd,Nat.reduceSub,Nat.reduceMul,Nat.reduceLeDiff,Nat.reduceEqDiff,Nat.reduceGT,Nat.reduceLT,Int.reduceLE,Int.reduceLT,Int.reduceToNat,Int.reduceAdd,reduceCtorEq,h_putc,beq_self_eq_true,eq_self,exists_eq_left,exists_eq_left', qb]
  · simp only [List.length_take, List.length_nil]; omega
  intro v4 H4 fp4 hA4 hn4 hk4 hfp4 ho4 hc4
  simp only [AHeap.next_alloc, AHeap.next_put, List.mem_singleton] at hn4 hk4 hfp4
  have k0 : H4.cells 0 = some s.enc.cells := by rw [hk4 0 (by omega) (by omega)]; simp -implicitDefEqProofs (maxDischargeDepth := 12) only [WW,List.replicate,e_splice,if_true,if_false,ite_true,ite_false,true_or,ne_eq,Nat.reduceAdd,Nat.reduceSub,Nat.reduceMul,Nat.reduceLeDiff,Nat.reduceEqDiff,Nat.reduceGT,Nat.reduceLT,Int.reduceLE,Int.reduceLT,Int.reduceToNat,Int.reduceAdd,reduceCtorEq,h_putc,beq_self_eq_true,eq_self,exists_eq_left,exists_eq_left', q0, q6]; rw [h_put_ne (by decide)]; exact g0
  have k1 : H4.cells 1 = some [.sc (.int .i64 p.kind), .sc (.int .i64 p.part), .sc (.int .i64 j), .sc (.int .i64 i), .sc (.int .i64 k), .sc (.int .i64 l), .sc (.int .i64 p.spanner)] := by rw [hk4 1 (by omega) (by omega)]; simp -implicitDefEqProofs (maxDischargeDepth := 12) only [WW,List.replicate,e_splice,if_true,if_false,ite_true,ite_false,true_or,ne_eq,Nat.reduceAdd,Nat.reduceSub,Nat.reduceMul,Nat.reduceLeDiff,Nat.reduceEqDiff,Nat.reduceGT,Nat.reduceLT,Int.reduceLE,Int.reduceLT,Int.reduceToNat,Int.reduceAdd,reduceCtorEq,h_putc,beq_self_eq_true,eq_self,exists_eq_left,exists_eq_left', q1, q7]; rw [h_put_ne (by decide)]; exact g1
  have k3 : H4.cells 3 = some (Score.enc default).cells := by rw [hk4 3 (by omega) (by omega)]; simp -implicitDefEqProofs (maxDischargeDepth := 12) only [WW,List.replicate,e_splice,if_true,if_false,ite_true,ite_false,true_or,ne_eq,Nat.reduceAdd,Nat.reduceSub,Nat.reduceMul,Nat.reduceLeDiff,Nat.reduceEqDiff,Nat.reduceGT,Nat.reduceLT,Int.reduceLE,Int.reduceLT,Int.reduceToNat,Int.reduceAdd,reduceCtorEq,h_putc,beq_self_eq_true,eq_self,exists_eq_left,exists_eq_left', q3, q8]; rw [h_put_ne (by decide)]; exact g3
  have k4 : H4.cells 4 = some c.enc.cells := by rw [hk4 4 (by omega) (by omega)]; simp -implicitDefEqProofs (maxDischargeDepth := 12) only [WW,List.replicate,e_splice,if_true,if_false,ite_true,ite_false,true_or,ne_eq,Nat.reduceAdd,Nat.reduceSub,Nat.reduceMul,Nat.reduceLeDiff,Nat.reduceEqDiff,Nat.reduceGT,Nat.reduceLT,Int.reduceLE,Int.reduceLT,Int.reduceToNat,Int.reduceAdd,reduceCtorEq,h_putc,beq_self_eq_true,eq_self,exists_eq_left,exists_eq_left', q4, q9]; rw [h_put_ne (by decide)]; exact g4
  have k5 : H4.cells 5 = some [v3, slm Tuplet.enc v.tuplets] := by rw [hk4 5 (by omega) (by omega)]; simp -implicitDefEqProofs (maxDischargeDepth := 12) only [WW,List.replicate,e_splice,if_true,if_false,ite_true,ite_false,true_or,ne_eq,Nat.reduceAdd,Nat.reduceSub,Nat.reduceMul,Nat.reduceLeDiff,Nat.reduceEqDiff,Nat.reduceGT,Nat.reduceLT,Int.reduceLE,Int.reduceLT,Int.reduceToNat,Int.reduceAdd,reduceCtorEq,h_putc,beq_self_eq_true,eq_self,exists_eq_left,exists_eq_left', q5, qa, g5]
  have k7 : H4.cells (H3.next + 1) = some [v3, slm Tuplet.enc v.tuplets] := by
    have qb : ¬ (H3.next + 1 = H3.next) := by omega
    rw [hk4 _ (by omega) (by omega)]; simp -implicitDefEqProofs (maxDischargeDepth := 12) only [WW,List.replicate,e_splice,if_true,if_false,ite_true,ite_false,true_or,ne_eq,Nat.reduceAdd,Nat.reduceSub,Nat.reduceMul,Nat.reduceLeDiff,Nat.reduceEqDiff,Nat.reduceGT,Nat.reduceLT,Int.reduceLE,Int.reduceLT,Int.reduceToNat,Int.reduceAdd,reduceCtorEq,h_putc,beq_self_eq_true,eq_self,exists_eq_left,exists_eq_left', qb]
  have hO4 : Own 2 H4 v3 (slm Event.enc (v.events.set l e)) fq := hO.frame fun b hb => by
    have := r1 b hb
    rw [hk4 b (by omega) (by omega), AHeap.cells, AHeap.cells, AHeap.get_alloc_ne _ _ (by simp only [AHeap.next_alloc, AHeap.next_put]; omega), AHeap.get_alloc_ne _ _ (by simp only [AHeap.next_put]; omega), AHeap.get_put_ne _ _ (by omega)]
  have f6 : ∀ b ∈ fp4, H3.next ≤ b ∧ b ≠ H3.next + 1 := fun b hb => by rcases hfp4 b hb with h | h | h <;> first | omega | simp at h
  have u1 : ∀ x, (H3.put 5 (some (.cells x))).cells 1 = some [.sc (.int .i64 p.kind), .sc (.int .i64 p.part), .sc (.int .i64 j), .sc (.int .i64 i), .sc (.int .i64 k), .sc (.int .i64 l), .sc (.int .i64 p.spanner)] := fun x => by rw [h_put_ne (by decide)]; exact g1
  have u4 : ∀ x, (H3.put 5 (some (.cells x))).cells 4 = some [slm ClefChange.enc c.clefs, slm Voice.enc c.voices] := fun x => by rw [h_put_ne (by decide)]; exact g4
  have u5 : ∀ x, (H3.put 5 (some (.cells x))).cells 5 = some x := fun x => h_put_self g5
  have n0 : ¬ (H3.next = 0) := by omega
  have n3 : ¬ (H3.next = 3) := by omega
  have n4 : ¬ (H3.next = 4) := by omega
  have n5 : ¬ (H3.next = 5) := by omega
  clear hk4 g0 g1 g3 g4 g5 hO hA3 hfp4
  simp only [s.enc_eq, c.enc_eq, c_agg] at k0 k4
  simp -implicitDefEqProofs (maxDischargeDepth := 12) only [WW,List.replicate,e_splice,if_true,if_false,ite_true,ite_false,true_or,ne_eq,Nat.reduceAdd,Nat.reduceSub,Nat.reduceMul,Nat.reduceLeDiff,Nat.reduceEqDiff,Nat.reduceGT,Nat.reduceLT,Int.reduceLE,Int.reduceLT,Int.reduceToNat,Int.reduceAdd,reduceCtorEq,h_putc,beq_self_eq_true,eq_self,exists_eq_left,exists_eq_left', e3, e_cutm f0, k0, k1, k4, k5, hi3, hi4, u1, u4, u5, n0, n3, n4, n5, q0, q1, q3, q4, q5, q6, q7, q8, q9, qa]
  have hv' : OwnL (Own 2) H4 [v3, slm Tuplet.enc v.tuplets] (v.setEvent l e).enc.cells (fq ++ ([] ++ [])) := .cons hO4 (.cons (own_imm Tuplet.enc_closed) .nil Apart.nil_left) (by simpa using Apart.nil_right)
  refine wA_app3 (f := Voice.enc) (bytes := 48) row_Voice hA4 Keep.refl (Nat.le_refl _) (ys := [v.setEvent l e]) (cs1 := [v3, slm Tuplet.enc v.tuplets]) (fp1 := fq ++ ([] ++ [])) (x := .slice (H3.next + 1) 0 1 1 2) (H := H4) rfl (by simp [asrc, k7]) (by simpa using hv') (fun b hb h => by have := f6 b hb; have := r1 b (by simpa using h); omega) (by simp only [List.nil_append, List.length_take, List.length_cons, List.length_nil]; omega) ?_
  intro v5 H5 fp5 hA5 hn5 hk5 hfp5 ho5 hc5
  have m : ∀ b, b ≤ 5 → H5.cells b = H4.cells b := fun b hb => hk5 b (fun h => by have := f6 b h; omega) (by omega)
  have K1 := k1
  have K4 := k4
  replace k0 := (m 0 (by decide)).trans k0
  replace k1 := (m 1 (by decide)).trans k1
  replace k3 := (m 3 (by decide)).trans k3
  replace k4 := (m 4 (by decide)).trans k4
  have f7 : ∀ b ∈ fp5, 6 ≤ b := fun b hb => by
    rcases hfp5 b hb with h | h | h
    · have := f6 b h; omega
    · have := r1 b (by simpa using h); omega
    · omega
  clear hk5 m k5 k7 hA4 hO4 hv' hfp5 f6
  simp -implicitDefEqProofs (maxDischargeDepth := 12) only [WW,List.replicate,e_splice,if_true,if_false,ite_true,ite_false,true_or,ne_eq,Nat.reduceAdd,Nat.reduceSub,Nat.reduceMul,Nat.reduceLeDiff,Nat.reduceEqDiff,Nat.reduceGT,Nat.reduceLT,Int.reduceLE,Int.reduceLT,Int.reduceToNat,Int.reduceAdd,reduceCtorEq,h_putc,beq_self_eq_true,eq_self,exists_eq_left,exists_eq_left', e3, e_cutm f0, k0, k1, k4, K1, K4, hi3, hi4]
  refine wA_app3 (f := Voice.enc) (bytes := 48) row_Voice hA5 Keep.refl (Nat.le_refl _) (ys := c.voices.l.drop (k + 1)) (drop_alen _ _) (drop_src f0 _ _ _) (own_flat Voice.enc_plain (fun v => ⟨_, rfl⟩) _) Apart.nil_right (by simp only [List.nil_append, List.length_take, List.length_cons, List.length_nil, List.length_append, List.length_drop]; omega) ?_
  intro v6 H6 fp6 hA6 hn6 hk6 hfp6 ho6 hc6
  have m : ∀ b, b ≤ 5 → H6.cells b = H5.cells b := fun b hb => hk6 b (fun h => by have := f7 b h; omega) (by omega)
  replace k0 := (m 0 (by decide)).trans k0
  replace k1 := (m 1 (by decide)).trans k1
  replace k3 := (m 3 (by decide)).trans k3
  replace k4 := (m 4 (by decide)).trans k4
  have f8 : ∀ b ∈ fp6, 6 ≤ b := fun b hb => by
    rcases hfp6 b hb with h | h | h
    · exact f7 b h
    · simp at h
    · omega
  have hz : (Score.enc default).cells.length = 6 := Score.enc_len _
  simp -implicitDefEqProofs (maxDischargeDepth := 12) only [WW,List.replicate,e_splice,if_true,if_false,ite_true,ite_false,true_or,ne_eq,Nat.reduceAdd,Nat.reduceSub,Nat.reduceMul,Nat.reduceLeDiff,Nat.reduceEqDiff,Nat.reduceGT,Nat.reduceLT,Int.reduceLE,Int.reduceLT,Int.reduceToNat,Int.reduceAdd,reduceCtorEq,h_putc,beq_self_eq_true,eq_self,exists_eq_left,exists_eq_left', k0, k1, k3, k4, ho6, hc6, hz]
  obtain ⟨fr, hR, hr⟩ := hA6.own row_Voice
  have hR' : ∀ x, Own 3 (H6.put 4 x) v6 (slm Voice.enc (c.setVoice k (v.setEvent l e)).voices) fr := fun x => hR.frame fun b hb => by
    have := f8 b (hr b hb)
    rw [cells_of_get (AHeap.get_put_ne _ x (show b ≠ 4 by omega))]
  refine wA_pvf hp (pvf_ownA (fp := [] ++ ([] ++ ([] ++ (fr ++ [])))) ?_ (.cons (own_score s) (.cons .scal (.cons .scal (.cons (own_cell ((hR' _).mono (by decide))) .nil Apart.nil_right) Apart.nil_left) Apart.nil_left) Apart.nil_left) (rsetc_pv hp5 s hT i j y hy hj (c.setVoice k (v.setEvent l e))) ?_)
  · simp only [AV.closedBs, AV.closedB, hA6.open, Bool.and_false, Bool.false_and]
  intro H7 hless
  have g6 : H7.cells 3 = some (Score.enc default).cells := by
    rw [cells_of_get (hless 3 (by simp only [List.nil_append, List.append_nil]; exact fun h => by have := f8 _ (hr _ h); omega)), cells_of_get (AHeap.get_put_ne _ _ (by decide)), k3]
  simp -implicitDefEqProofs (maxDischargeDepth := 12) only [WW,List.replicate,e_splice,if_true,if_false,ite_true,ite_false,true_or,ne_eq,Nat.reduceAdd,Nat.reduceSub,Nat.reduceMul,Nat.reduceLeDiff,Nat.reduceEqDiff,Nat.reduceGT,Nat.reduceLT,Int.reduceLE,Int.reduceLT,Int.reduceToNat,Int.reduceAdd,reduceCtorEq,h_putc,beq_self_eq_true,eq_self,exists_eq_left,exists_eq_left']
  refine wA_pure hp2 (rprune_pv hp3 hp4 _ hT2) ?_
  simp -implicitDefEqProofs (maxDischargeDepth := 12) only [WW,List.replicate,e_splice,if_true,if_false,ite_true,ite_false,true_or,ne_eq,Nat.reduceAdd,Nat.reduceSub,Nat.reduceMul,Nat.reduceLeDiff,Nat.reduceEqDiff,Nat.reduceGT,Nat.reduceLT,Int.reduceLE,Int.reduceLT,Int.reduceToNat,Int.reduceAdd,reduceCtorEq,h_putc,beq_self_eq_true,eq_self,exists_eq_left,exists_eq_left', g6, hz, Score.enc_eq]
  exact (own_score (d := 1) (s.setMeasure i (y.setCell j (c.setVoice k (v.setEvent l e)))).pruned).frz (by decide)
end Go.Hem
/- A map of ids as a set. -/
set_option linter.unusedSimpArgs false
set_option linter.unusedVariables false
namespace Go.Hem
/-- The entries of a map of ids that holds true at each. -/
def idsOf (l : List ID) : List (AV × AV) := l.map fun x => (x.enc, .sc (.bool true))
theorem keyEq_id (a b : ID) : keyEq true [.int, .int] a.enc b.enc = some (decide (a = b)) := by
  have := @id_eq a b
  rw [← this]
  simp [keyEq, ID.enc, eqK]
theorem afind_ids (a : ID) : ∀ (l : List ID) (i : Nat), (a ∈ l → ∃ j, afind true [.int, .int] a.enc (idsOf l) i = some (some (i + j, .sc (.bool true))) ∧ l[j]? = some a) ∧ (a ∉ l → afind true [.int, .int] a.enc (idsOf l) i = some none)
  | [], i => ⟨fun h => by simp at h, fun _ => rfl⟩
  | b :: l, i => by
    have ih := afind_ids a l (i + 1)
    have e : afind true [.int, .int] a.enc (idsOf (b :: l)) i = if a = b then some (some (i, .sc (.bool true))) else afind true [.int, .int] a.enc (idsOf l) (i + 1) := by
      simp only [idsOf, List.map_cons, afind, keyEq_id]
      by_cases h : a = b <;> simp [h]
    by_cases h : a = b
    · subst h
      exact ⟨fun _ => ⟨0, by rw [e, if_pos rfl]; rfl, rfl⟩, fun h => absurd (List.mem_cons_self) h⟩
    · rw [e, if_neg h]
      refine ⟨fun hm => ?_, fun hm => ih.2 fun k => hm (List.mem_cons_of_mem _ k)⟩
      rcases List.mem_cons.1 hm with k | k
      · exact absurd k h
      · obtain ⟨j, j1, j2⟩ := ih.1 k
        exact ⟨j + 1, by rw [j1]; congr 3; omega, j2⟩
theorem look_ids {H : AHeap} {b : Nat} {l : List ID} (h : H.map b = some (idsOf l)) (a : ID) : lookIn H true [.int, .int] (.sc (.bool false)) false (.map b) a.enc = some (.sc (.bool (decide (a ∈ l)))) := by
  have k := afind_ids a l 0
  have e : keyEq true [.int, .int] a.enc a.enc = some true := by rw [keyEq_id]; simp
  simp only [lookIn, e, if_true, h, Option.bind_some]
  by_cases hm : a ∈ l
  · obtain ⟨j, j1, j2⟩ := k.1 hm
    rw [j1]; simp [lkres, hm]
  · rw [k.2 hm]; simp [lkres, hm]
theorem put_ids {H : AHeap} {b : Nat} {l : List ID} (h : H.map b = some (idsOf l)) (a : ID) : ∃ l', putIn H true [.int, .int] (.map b) a.enc (.sc (.bool true)) = some (.memM (.sc .undef) b (idsOf l')) ∧ ∀ x, x ∈ l' ↔ x ∈ l ∨ x = a := by
  have k := afind_ids a l 0
  have e : keyEq true [.int, .int] a.enc a.enc = some true := by rw [keyEq_id]; simp
  simp only [putIn, e, if_true, h, Option.bind_some]
  by_cases hm : a ∈ l
  · obtain ⟨j, j1, j2⟩ := k.1 hm
    refine ⟨l, ?_, fun x => ⟨.inl, fun h => h.elim id fun e => e ▸ hm⟩⟩
    rw [j1]
    have : (idsOf l)[j]? = some (a.enc, .sc (.bool true)) := by simp [idsOf, j2]
    simp only [Option.map_some, Nat.zero_add]
    congr 2
    apply List.ext_getElem?
    intro i
    rw [List.getElem?_set]
    have hl := (List.getElem?_eq_some_iff.1 this).1
    by_cases hij : j = i
    · subst hij; rw [if_pos rfl, if_pos hl, this]
    · rw [if_neg hij]
  · refine ⟨l ++ [a], ?_, fun x => by simp⟩
    rw [k.2 hm]; simp [idsOf]
end Go.Hem
/- Walks: the closure of Prune. -/
set_option maxRecDepth 10000
set_option maxHeartbeats 4000000
set_option linter.unusedSimpArgs false
set_option linter.unusedVariables false
namespace Go.Hem
variable {pol : Pol}
theorem prune1_ok {H : AHeap} {b m : Nat} {l : List ID} (hb : H.cells b = some [.map m]) (hm : H.map m = some (idsOf l)) (x : Spanner) :
    Ev prog pol (.call 70 [x.enc, .ptr b 0]) H fun o H' => o = .val (.sc (.bool (!decide (x.from_ ∈ l) || !decide (x.to ∈ l)))) ∧ Keep H.next H H' ∧ H'.map m = some (idsOf l) ∧ H.next ≤ H'.next := by
  refine (wpF_ok ok70 (Q := fun v H' => v = .sc (.bool (!decide (x.from_ ∈ l) || !decide (x.to ∈ l))) ∧ Keep H.next H H' ∧ H'.map m = some (idsOf l) ∧ H.next ≤ H'.next) ?_).mono ?_
  rotate_left
  · rintro o H' ⟨v, rfl, rfl, h⟩
    exact ⟨rfl, h⟩
  have hbl := h_lt hb
  have q : ¬ (b = H.next) := by omega
  have hml : m < H.next := by
    refine Nat.lt_of_not_le fun h => ?_
    have : H.get m = none := AHeap.get_ge h
    simp [AHeap.map, this] at hm
  have hmA : ∀ z, (H.alloc z).map m = some (idsOf l) := fun z => by
    rw [AHeap.map, AHeap.get_alloc_ne H z (show m ≠ H.next by omega)]; exact hm
  have L1 := fun z => look_ids (hmA z) x.from_
  have L2 := fun z => look_ids (hmA z) x.to
  simp only [ID.enc_eq] at L1 L2
  have hk : ∀ z, Keep H.next H (H.alloc z) := fun z => Keep.refl.alloc (Nat.le_refl _)
  have hn : ∀ z, H.next ≤ (H.alloc z).next := fun z => by rw [AHeap.next_alloc]; omega
  by_cases h1 : x.from_ ∈ l
  · by_cases h2 : x.to ∈ l
    · simp -implicitDefEqProofs (maxDischargeDepth := 12) only [wpF, cf70, WW,List.replicate,e_splice,if_true,if_false,ite_true,ite_false,true_or,ne_eq,Nat.reduceAdd,Nat.reduceSub,Nat.reduceMul,Nat.reduceLeDiff,Nat.reduceEqDiff,Nat.reduceGT,Nat.reduceLT,Int.reduceLE,Int.reduceLT,Int.reduceToNat,Int.reduceAdd,reduceCtorEq,h_putc,beq_self_eq_true,eq_self,exists_eq_left,exists_eq_left', x.enc_eq, s_lkup, hb, q, L1, L2, decide_eq_true h1, decide_eq_true h2]
      exact ⟨rfl, hk _, hmA _, by omega⟩
    · simp -implicitDefEqProofs (maxDischargeDepth := 12) only [wpF, cf70, WW,List.replicate,e_splice,if_true,if_false,ite_true,ite_false,true_or,ne_eq,Nat.reduceAdd,Nat.reduceSub,Nat.reduceMul,Nat.reduceLeDiff,Nat.reduceEqDiff,Nat.reduceGT,Nat.reduceLT,Int.reduceLE,Int.reduceLT,Int.reduceToNat,Int.reduceAdd,reduceCtorEq,h_putc,beq_self_eq_true,eq_self,exists_eq_left,exists_eq_left', x.enc_eq, s_lkup, hb, q, L1, L2, decide_eq_true h1, decide_eq_false h2]
      exact ⟨rfl, hk _, hmA _, by omega⟩
  · simp -implicitDefEqProofs (maxDischargeDepth := 12) only [wpF, cf70, WW,List.replicate,e_splice,if_true,if_false,ite_true,ite_false,true_or,ne_eq,Nat.reduceAdd,Nat.reduceSub,Nat.reduceMul,Nat.reduceLeDiff,Nat.reduceEqDiff,Nat.reduceGT,Nat.reduceLT,Int.reduceLE,Int.reduceLT,Int.reduceToNat,Int.reduceAdd,reduceCtorEq,h_putc,beq_self_eq_true,eq_self,exists_eq_left,exists_eq_left', x.enc_eq, s_lkup, hb, q, L1, L2, decide_eq_false h1]
    exact ⟨rfl, hk _, hmA _, by omega⟩
end Go.Hem
/- Walks: the reference's Same of events. -/
set_option maxRecDepth 10000
set_option maxHeartbeats 4000000
set_option linter.unusedSimpArgs false
set_option linter.unusedVariables false
namespace Go.Hem
variable {pol : Pol}
/-- What counts of an event: nil or empty is one. -/
def Event.cn (e : Event) : Event := { e with heads := Sl.of e.heads.l, graces := Sl.of e.graces.l, lyrics := Sl.of e.lyrics.l }
def Event.noid (e : Event) : Event := { e.cn with id := ⟨0, 0⟩ }
theorem of_inj {α : Type} {l m : List α} : Sl.of l = Sl.of m ↔ l = m := by
  constructor
  · intro h; have := congrArg Sl.l h; rwa [l_of, l_of] at this
  · rintro rfl; rfl
theorem toList_eq {a b : ByteArray} : (a.toList == b.toList) = decide (a = b) := by
  have e : a.toList = b.toList ↔ a = b := by
    constructor
    · intro h
      rw [ByteArray.toList_eq, ByteArray.toList_eq] at h
      obtain ⟨⟨x⟩⟩ := a
      obtain ⟨⟨y⟩⟩ := b
      simp at h; subst h; rfl
    · rintro rfl; rfl
  by_cases h : a = b
  · rw [decide_eq_true h, h, beq_self_eq_true]
  · rw [decide_eq_false h]
    simp only [beq_eq_false_iff_ne, ne_eq]
    exact fun k => h (e.1 k)
theorem val_eq {a b : Val} : (decide (a.log = b.log) && decide (a.dots = b.dots)) = decide (a = b) := by
  cases a; cases b; simp only [Val.mk.injEq, Bool.decide_and]
theorem head_eq {a b : Head} : (decide (a.pitch.step = b.pitch.step) && (decide (a.pitch.alter = b.pitch.alter) && (decide (a.pitch.octave = b.pitch.octave) && ((a.tied == b.tied) && decide (a.shown = b.shown))))) = decide (a = b) := by
  obtain ⟨⟨a1, a2, a3⟩, a4, a5⟩ := a
  obtain ⟨⟨b1, b2, b3⟩, b4, b5⟩ := b
  have e : (a4 == b4) = decide (a4 = b4) := by cases a4 <;> cases b4 <;> rfl
  simp only [Head.mk.injEq, Pitch.mk.injEq, Bool.decide_and, e, Bool.and_assoc]
theorem grace_eq {a b : Grace} : (decide (a.pitch.step = b.pitch.step) && (decide (a.pitch.alter = b.pitch.alter) && (decide (a.pitch.octave = b.pitch.octave) && (decide (a.log = b.log) && (a.slash == b.slash))))) = decide (a = b) := by
  obtain ⟨⟨a1, a2, a3⟩, a4, a5⟩ := a
  obtain ⟨⟨b1, b2, b3⟩, b4, b5⟩ := b
  have e : (a5 == b5) = decide (a5 = b5) := by cases a5 <;> cases b5 <;> rfl
  simp only [Grace.mk.injEq, Pitch.mk.injEq, Bool.decide_and, e, Bool.and_assoc]
theorem syl_eq {a b : Syllable} : ((a.text.toList == b.text.toList) && decide (a.link = b.link)) = decide (a = b) := by
  cases a; cases b; simp only [Syllable.mk.injEq, Bool.decide_and, toList_eq]
theorem map_ne {α β : Type} {f : α → β} {l m : List α} {i : Nat} {x y : α} (hx : l[i]? = some x) (hy : m[i]? = some y) (h : f x ≠ f y) : l.map f ≠ m.map f := fun e => by
  have := congrArg (·[i]?) e
  simp only [List.getElem?_map, hx, hy, Option.map_some, Option.some.injEq] at this
  exact h this
theorem list_ne {α : Type} {l m : List α} {i : Nat} {x y : α} (hx : l[i]? = some x) (hy : m[i]? = some y) (h : x ≠ y) : l ≠ m := fun e => by
  subst e; rw [hx] at hy; cases hy; exact h rfl
theorem take_step {α : Type} {l m : List α} {i : Nat} {x : α} (hx : l[i]? = some x) (hy : m[i]? = some x) (h : l.take i = m.take i) : l.take (i + 1) = m.take (i + 1) := by
  rw [List.take_add_one, List.take_add_one, hx, hy, h]
theorem noid_iff {a b : Event} : a.noid = b.noid ↔ a.kind = b.kind ∧ a.value = b.value ∧ a.articulations = b.articulations ∧ a.ornament = b.ornament ∧ a.dynamic = b.dynamic ∧ a.stem = b.stem ∧ a.beam = b.beam ∧ a.heads.l = b.heads.l ∧ a.graces.l = b.graces.l ∧ a.lyrics.l = b.lyrics.l := by
  unfold Event.noid Event.cn
  simp only [Event.mk.injEq, of_inj, true_and]
  constructor
  · rintro ⟨h1, h2, h3, h4, h5, h6, h7, h8, h9, h10⟩; exact ⟨h1, h2, h5, h6, h7, h9, h10, h3, h4, h8⟩
  · rintro ⟨h1, h2, h5, h6, h7, h9, h10, h3, h4, h8⟩; exact ⟨h1, h2, h3, h4, h5, h6, h7, h8, h9, h10⟩
theorem same11_pv (a b : Event) (ha : a.heads.l.length < 1000000) (hg : a.graces.l.length < 1000000) (hy : a.lyrics.l.length < 1000000) : Pv prog pol 99 [a.enc, b.enc] (.sc (.bool (decide (a.noid = b.noid)))) := by
  refine Pv_of' ok99 (by simp only [AV.closedBs, Event.enc_closed, Bool.and_self]) ?_
  rw [show decide (a.noid = b.noid) = decide (a.kind = b.kind ∧ a.value = b.value ∧ a.articulations = b.articulations ∧ a.ornament = b.ornament ∧ a.dynamic = b.dynamic ∧ a.stem = b.stem ∧ a.beam = b.beam ∧ a.heads.l = b.heads.l ∧ a.graces.l = b.graces.l ∧ a.lyrics.l = b.lyrics.l) from decide_eq_decide.2 noid_iff]
  by_cases h1 : a.kind = b.kind
  rotate_left
  · rw [decide_eq_false (fun k => h1 (k.1))]
    simp -implicitDefEqProofs (maxDischargeDepth := 12) only [wpF, cf99, WW,List.replicate,e_splice,if_true,if_false,ite_true,ite_false,true_or,ne_eq,Nat.reduceAdd,Nat.reduceSub,Nat.reduceMul,Nat.reduceLeDiff,Nat.reduceEqDiff,Nat.reduceGT,Nat.reduceLT,Int.reduceLE,Int.reduceLT,Int.reduceToNat,Int.reduceAdd,reduceCtorEq,h_putc,beq_self_eq_true,eq_self,exists_eq_left,exists_eq_left', a.enc_eq, b.enc_eq, val_eq, h1]
    exact frz_sc
  by_cases h2 : a.value = b.value
  rotate_left
  · rw [decide_eq_false (fun k => h2 (k.2.1))]
    simp -implicitDefEqProofs (maxDischargeDepth := 12) only [wpF, cf99, WW,List.replicate,e_splice,if_true,if_false,ite_true,ite_false,true_or,ne_eq,Nat.reduceAdd,Nat.reduceSub,Nat.reduceMul,Nat.reduceLeDiff,Nat.reduceEqDiff,Nat.reduceGT,Nat.reduceLT,Int.reduceLE,Int.reduceLT,Int.reduceToNat,Int.reduceAdd,reduceCtorEq,h_putc,beq_self_eq_true,eq_self,exists_eq_left,exists_eq_left', a.enc_eq, b.enc_eq, val_eq, h1, h2]
    exact frz_sc
  by_cases h3 : a.articulations = b.articulations
  rotate_left
  · rw [decide_eq_false (fun k => h3 (k.2.2.1))]
    simp -implicitDefEqProofs (maxDischargeDepth := 12) only [wpF, cf99, WW,List.replicate,e_splice,if_true,if_false,ite_true,ite_false,true_or,ne_eq,Nat.reduceAdd,Nat.reduceSub,Nat.reduceMul,Nat.reduceLeDiff,Nat.reduceEqDiff,Nat.reduceGT,Nat.reduceLT,Int.reduceLE,Int.reduceLT,Int.reduceToNat,Int.reduceAdd,reduceCtorEq,h_putc,beq_self_eq_true,eq_self,exists_eq_left,exists_eq_left', a.enc_eq, b.enc_eq, val_eq, h1, h2, h3]
    exact frz_sc
  by_cases h4 : a.ornament = b.ornament
  rotate_left
  · rw [decide_eq_false (fun k => h4 (k.2.2.2.1))]
    simp -implicitDefEqProofs (maxDischargeDepth := 12) only [wpF, cf99, WW,List.replicate,e_splice,if_true,if_false,ite_true,ite_false,true_or,ne_eq,Nat.reduceAdd,Nat.reduceSub,Nat.reduceMul,Nat.reduceLeDiff,Nat.reduceEqDiff,Nat.reduceGT,Nat.reduceLT,Int.reduceLE,Int.reduceLT,Int.reduceToNat,Int.reduceAdd,reduceCtorEq,h_putc,beq_self_eq_true,eq_self,exists_eq_left,exists_eq_left', a.enc_eq, b.enc_eq, val_eq, h1, h2, h3, h4]
    exact frz_sc
  by_cases h5 : a.dynamic = b.dynamic
  rotate_left
  · rw [decide_eq_false (fun k => h5 (k.2.2.2.2.1))]
    simp -implicitDefEqProofs (maxDischargeDepth := 12) only [wpF, cf99, WW,List.replicate,e_splice,if_true,if_false,ite_true,ite_false,true_or,ne_eq,Nat.reduceAdd,Nat.reduceSub,Nat.reduceMul,Nat.reduceLeDiff,Nat.reduceEqDiff,Nat.reduceGT,Nat.reduceLT,Int.reduceLE,Int.reduceLT,Int.reduceToNat,Int.reduceAdd,reduceCtorEq,h_putc,beq_self_eq_true,eq_self,exists_eq_left,exists_eq_left', a.enc_eq, b.enc_eq, val_eq, h1, h2, h3, h4, h5]
    exact frz_sc
  by_cases h6 : a.stem = b.stem
  rotate_left
  · rw [decide_eq_false (fun k => h6 (k.2.2.2.2.2.1))]
    simp -implicitDefEqProofs (maxDischargeDepth := 12) only [wpF, cf99, WW,List.replicate,e_splice,if_true,if_false,ite_true,ite_false,true_or,ne_eq,Nat.reduceAdd,Nat.reduceSub,Nat.reduceMul,Nat.reduceLeDiff,Nat.reduceEqDiff,Nat.reduceGT,Nat.reduceLT,Int.reduceLE,Int.reduceLT,Int.reduceToNat,Int.reduceAdd,reduceCtorEq,h_putc,beq_self_eq_true,eq_self,exists_eq_left,exists_eq_left', a.enc_eq, b.enc_eq, val_eq, h1, h2, h3, h4, h5, h6]
    exact frz_sc
  by_cases h7 : a.beam = b.beam
  rotate_left
  · rw [decide_eq_false (fun k => h7 (k.2.2.2.2.2.2.1))]
    simp -implicitDefEqProofs (maxDischargeDepth := 12) only [wpF, cf99, WW,List.replicate,e_splice,if_true,if_false,ite_true,ite_false,true_or,ne_eq,Nat.reduceAdd,Nat.reduceSub,Nat.reduceMul,Nat.reduceLeDiff,Nat.reduceEqDiff,Nat.reduceGT,Nat.reduceLT,Int.reduceLE,Int.reduceLT,Int.reduceToNat,Int.reduceAdd,reduceCtorEq,h_putc,beq_self_eq_true,eq_self,exists_eq_left,exists_eq_left', a.enc_eq, b.enc_eq, val_eq, h1, h2, h3, h4, h5, h6, h7]
    exact frz_sc
  by_cases h8 : (a.heads.l.length : Int) = (b.heads.l.length : Int)
  rotate_left
  · rw [decide_eq_false (fun k => h8 (by rw [k.2.2.2.2.2.2.2.1]))]
    simp -implicitDefEqProofs (maxDischargeDepth := 12) only [wpF, cf99, WW,List.replicate,e_splice,if_true,if_false,ite_true,ite_false,true_or,ne_eq,Nat.reduceAdd,Nat.reduceSub,Nat.reduceMul,Nat.reduceLeDiff,Nat.reduceEqDiff,Nat.reduceGT,Nat.reduceLT,Int.reduceLE,Int.reduceLT,Int.reduceToNat,Int.reduceAdd,reduceCtorEq,h_putc,beq_self_eq_true,eq_self,exists_eq_left,exists_eq_left', a.enc_eq, b.enc_eq, val_eq, h1, h2, h3, h4, h5, h6, h7, h8]
    exact frz_sc
  by_cases h9 : (a.graces.l.length : Int) = (b.graces.l.length : Int)
  rotate_left
  · rw [decide_eq_false (fun k => h9 (by rw [k.2.2.2.2.2.2.2.2.1]))]
    simp -implicitDefEqProofs (maxDischargeDepth := 12) only [wpF, cf99, WW,List.replicate,e_splice,if_true,if_false,ite_true,ite_false,true_or,ne_eq,Nat.reduceAdd,Nat.reduceSub,Nat.reduceMul,Nat.reduceLeDiff,Nat.reduceEqDiff,Nat.reduceGT,Nat.reduceLT,Int.reduceLE,Int.reduceLT,Int.reduceToNat,Int.reduceAdd,reduceCtorEq,h_putc,beq_self_eq_true,eq_self,exists_eq_left,exists_eq_left', a.enc_eq, b.enc_eq, val_eq, h1, h2, h3, h4, h5, h6, h7, h8, h9]
    exact frz_sc
  by_cases h10 : (a.lyrics.l.length : Int) = (b.lyrics.l.length : Int)
  rotate_left
  · rw [decide_eq_false (fun k => h10 (by rw [k.2.2.2.2.2.2.2.2.2]))]
    simp -implicitDefEqProofs (maxDischargeDepth := 12) only [wpF, cf99, WW,List.replicate,e_splice,if_true,if_false,ite_true,ite_false,true_or,ne_eq,Nat.reduceAdd,Nat.reduceSub,Nat.reduceMul,Nat.reduceLeDiff,Nat.reduceEqDiff,Nat.reduceGT,Nat.reduceLT,Int.reduceLE,Int.reduceLT,Int.reduceToNat,Int.reduceAdd,reduceCtorEq,h_putc,beq_self_eq_true,eq_self,exists_eq_left,exists_eq_left', a.enc_eq, b.enc_eq, val_eq, h1, h2, h3, h4, h5, h6, h7, h8, h9, h10]
    exact frz_sc
  simp -implicitDefEqProofs (maxDischargeDepth := 12) only [wpF, cf99, WW,List.replicate,e_splice,if_true,if_false,ite_true,ite_false,true_or,ne_eq,Nat.reduceAdd,Nat.reduceSub,Nat.reduceMul,Nat.reduceLeDiff,Nat.reduceEqDiff,Nat.reduceGT,Nat.reduceLT,Int.reduceLE,Int.reduceLT,Int.reduceToNat,Int.reduceAdd,reduceCtorEq,h_putc,beq_self_eq_true,eq_self,exists_eq_left,exists_eq_left', a.enc_eq, b.enc_eq, val_eq, eq_true h1, eq_true h2, eq_true h3, eq_true h4, eq_true h5, eq_true h6, eq_true h7, eq_true h8, eq_true h9, eq_true h10]
  refine wp_loop (Inv := fun k t H => ∃ (i : Nat), i + k = a.heads.l.length ∧ H.cells 0 = some a.enc.cells ∧ H.cells 1 = some b.enc.cells ∧ a.heads.l.take i = b.heads.l.take i ∧
    ∃ x : Nat → AV, t = [a.enc, b.enc, .ptr 0 0, .ptr 1 0, .sc (.bool false), .sc (.int .i64 i), x 6, x 7, x 8, x 9, x 10, x 11, x 12, x 13, x 14, x 15, x 16, x 17, x 18, x 19, x 20, x 21, x 22, x 23, x 24, x 25, x 26, x 27, x 28, x 29, x 30, x 31, x 32, x 33, x 34, x 35, x 36, x 37, x 38, x 39, x 40, x 41, x 42, x 43, x 44, x 45, x 46, x 47, x 48, x 49, x 50, x 51, x 52, x 53, x 54, x 55, x 56, x 57, x 58, x 59, x 60, x 61, x 62, x 63, x 64, x 65, x 66, x 67, x 68, x 69, x 70, x 71, x 72, x 73, x 74, x 75, x 76, x 77, x 78, x 79, x 80, x 81, x 82, x 83, x 84, x 85, x 86, x 87, x 88, x 89, x 90, x 91, x 92, x 93, x 94, x 95, x 96, x 97, x 98, x 99, x 100, x 101, x 102, x 103, x 104, x 105, x 106, x 107, x 108, x 109, x 110, x 111, x 112, x 113, x 114, x 115, x 116, x 117, x 118, x 119, x 120, x 121, x 122, x 123, x 124, x 125, x 126, x 127, x 128, x 129, x 130, x 131, x 132, x 133, x 134, x 135]) (k := a.heads.l.length) ?_
    ⟨0, by omega, ?_, ?_, rfl, ex_x rfl⟩
  rotate_left
  · simp -implicitDefEqProofs (maxDischargeDepth := 12) only [WW,List.replicate,e_splice,if_true,if_false,ite_true,ite_false,true_or,ne_eq,Nat.reduceAdd,Nat.reduceSub,Nat.reduceMul,Nat.reduceLeDiff,Nat.reduceEqDiff,Nat.reduceGT,Nat.reduceLT,Int.reduceLE,Int.reduceLT,Int.reduceToNat,Int.reduceAdd,reduceCtorEq,h_putc,beq_self_eq_true,eq_self,exists_eq_left,exists_eq_left']; rfl
  · simp -implicitDefEqProofs (maxDischargeDepth := 12) only [WW,List.replicate,e_splice,if_true,if_false,ite_true,ite_false,true_or,ne_eq,Nat.reduceAdd,Nat.reduceSub,Nat.reduceMul,Nat.reduceLeDiff,Nat.reduceEqDiff,Nat.reduceGT,Nat.reduceLT,Int.reduceLE,Int.reduceLT,Int.reduceToNat,Int.reduceAdd,reduceCtorEq,h_putc,beq_self_eq_true,eq_self,exists_eq_left,exists_eq_left']; rfl
  rintro k t H ⟨i, hk, hA, hB, ht, x, rfl⟩
  simp only [a.enc_eq, b.enc_eq, c_agg] at hA hB
  by_cases c1 : (i : Int) < (a.heads.l.length : Int)
  · obtain ⟨y, hy1⟩ : ∃ y, a.heads.l[i]? = some y := ⟨_, List.getElem?_eq_getElem (by omega)⟩
    obtain ⟨z, hz1⟩ : ∃ y, b.heads.l[i]? = some y := ⟨_, List.getElem?_eq_getElem (by omega)⟩
    have e2 : IntKind.i64.wrap ((i : Int) + 1) = ((i + 1 : Nat) : Int) := by rw [w64 (by omega) (by omega)]; omega
    by_cases c2 : y = z
    · subst c2
      simp -implicitDefEqProofs (maxDischargeDepth := 12) only [WW,List.replicate,e_splice,if_true,if_false,ite_true,ite_false,true_or,ne_eq,Nat.reduceAdd,Nat.reduceSub,Nat.reduceMul,Nat.reduceLeDiff,Nat.reduceEqDiff,Nat.reduceGT,Nat.reduceLT,Int.reduceLE,Int.reduceLT,Int.reduceToNat,Int.reduceAdd,reduceCtorEq,h_putc,beq_self_eq_true,eq_self,exists_eq_left,exists_eq_left', hA, hB, c1, hy1, hz1, y.enc_eq, head_eq, e2]
      exact ⟨k - 1, by omega, i + 1, by omega, rfl, rfl, take_step hy1 hz1 ht, ex_x rfl⟩
    · rw [decide_eq_false (fun k => list_ne hy1 hz1 c2 k.1)]
      simp -implicitDefEqProofs (maxDischargeDepth := 12) only [WW,List.replicate,e_splice,if_true,if_false,ite_true,ite_false,true_or,ne_eq,Nat.reduceAdd,Nat.reduceSub,Nat.reduceMul,Nat.reduceLeDiff,Nat.reduceEqDiff,Nat.reduceGT,Nat.reduceLT,Int.reduceLE,Int.reduceLT,Int.reduceToNat,Int.reduceAdd,reduceCtorEq,h_putc,beq_self_eq_true,eq_self,exists_eq_left,exists_eq_left', hA, hB, c1, hy1, hz1, y.enc_eq, z.enc_eq, head_eq, c2]
      exact frz_sc
  have headsE : a.heads.l = b.heads.l := by rw [List.take_of_length_le (by omega), List.take_of_length_le (by omega)] at ht; exact ht
  simp -implicitDefEqProofs (maxDischargeDepth := 12) only [WW,List.replicate,e_splice,if_true,if_false,ite_true,ite_false,true_or,ne_eq,Nat.reduceAdd,Nat.reduceSub,Nat.reduceMul,Nat.reduceLeDiff,Nat.reduceEqDiff,Nat.reduceGT,Nat.reduceLT,Int.reduceLE,Int.reduceLT,Int.reduceToNat,Int.reduceAdd,reduceCtorEq,h_putc,beq_self_eq_true,eq_self,exists_eq_left,exists_eq_left', hA, hB, c1]
  refine wp_loop (Inv := fun k t H => ∃ (i : Nat), i + k = a.graces.l.length ∧ H.cells 0 = some a.enc.cells ∧ H.cells 1 = some b.enc.cells ∧ a.graces.l.take i = b.graces.l.take i ∧
    ∃ x : Nat → AV, t = [a.enc, b.enc, .ptr 0 0, .ptr 1 0, .sc (.bool false), x 5, .sc (.int .i64 i), x 7, x 8, x 9, x 10, x 11, x 12, x 13, x 14, x 15, x 16, x 17, x 18, x 19, x 20, x 21, x 22, x 23, x 24, x 25, x 26, x 27, x 28, x 29, x 30, x 31, x 32, x 33, x 34, x 35, x 36, x 37, x 38, x 39, x 40, x 41, x 42, x 43, x 44, x 45, x 46, x 47, x 48, x 49, x 50, x 51, x 52, x 53, x 54, x 55, x 56, x 57, x 58, x 59, x 60, x 61, x 62, x 63, x 64, x 65, x 66, x 67, x 68, x 69, x 70, x 71, x 72, x 73, x 74, x 75, x 76, x 77, x 78, x 79, x 80, x 81, x 82, x 83, x 84, x 85, x 86, x 87, x 88, x 89, x 90, x 91, x 92, x 93, x 94, x 95, x 96, x 97, x 98, x 99, x 100, x 101, x 102, x 103, x 104, x 105, x 106, x 107, x 108, x 109, x 110, x 111, x 112, x 113, x 114, x 115, x 116, x 117, x 118, x 119, x 120, x 121, x 122, x 123, x 124, x 125, x 126, x 127, x 128, x 129, x 130, x 131, x 132, x 133, x 134, x 135]) (k := a.graces.l.length) ?_
    ⟨0, by omega, hA, hB, rfl, ex_x rfl⟩
  clear hA hB ht x c1 hk
  rintro k t H ⟨i, hk, hA, hB, ht, x, rfl⟩
  simp only [a.enc_eq, b.enc_eq, c_agg] at hA hB
  by_cases c1 : (i : Int) < (a.graces.l.length : Int)
  · obtain ⟨y, hy1⟩ : ∃ y, a.graces.l[i]? = some y := ⟨_, List.getElem?_eq_getElem (by omega)⟩
    obtain ⟨z, hz1⟩ : ∃ y, b.graces.l[i]? = some y := ⟨_, List.getElem?_eq_getElem (by omega)⟩
    have e2 : IntKind.i64.wrap ((i : Int) + 1) = ((i + 1 : Nat) : Int) := by rw [w64 (by omega) (by omega)]; omega
    by_cases c2 : y = z
    · subst c2
      simp -implicitDefEqProofs (maxDischargeDepth := 12) only [WW,List.replicate,e_splice,if_true,if_false,ite_true,ite_false,true_or,ne_eq,Nat.reduceAdd,Nat.reduceSub,Nat.reduceMul,Nat.reduceLeDiff,Nat.reduceEqDiff,Nat.reduceGT,Nat.reduceLT,Int.reduceLE,Int.reduceLT,Int.reduceToNat,Int.reduceAdd,reduceCtorEq,h_putc,beq_self_eq_true,eq_self,exists_eq_left,exists_eq_left', hA, hB, c1, hy1, hz1, y.enc_eq, grace_eq, e2]
      exact ⟨k - 1, by omega, i + 1, by omega, rfl, rfl, take_step hy1 hz1 ht, ex_x rfl⟩
    · rw [decide_eq_false (fun k => list_ne hy1 hz1 c2 k.2.1)]
      simp -implicitDefEqProofs (maxDischargeDepth := 12) only [WW,List.replicate,e_splice,if_true,if_false,ite_true,ite_false,true_or,ne_eq,Nat.reduceAdd,Nat.reduceSub,Nat.reduceMul,Nat.reduceLeDiff,Nat.reduceEqDiff,Nat.reduceGT,Nat.reduceLT,Int.reduceLE,Int.reduceLT,Int.reduceToNat,Int.reduceAdd,reduceCtorEq,h_putc,beq_self_eq_true,eq_self,exists_eq_left,exists_eq_left', hA, hB, c1, hy1, hz1, y.enc_eq, z.enc_eq, grace_eq, c2]
      exact frz_sc
  have gracesE : a.graces.l = b.graces.l := by rw [List.take_of_length_le (by omega), List.take_of_length_le (by omega)] at ht; exact ht
  simp -implicitDefEqProofs (maxDischargeDepth := 12) only [WW,List.replicate,e_splice,if_true,if_false,ite_true,ite_false,true_or,ne_eq,Nat.reduceAdd,Nat.reduceSub,Nat.reduceMul,Nat.reduceLeDiff,Nat.reduceEqDiff,Nat.reduceGT,Nat.reduceLT,Int.reduceLE,Int.reduceLT,Int.reduceToNat,Int.reduceAdd,reduceCtorEq,h_putc,beq_self_eq_true,eq_self,exists_eq_left,exists_eq_left', hA, hB, c1]
  refine wp_loop (Inv := fun k t H => ∃ (i : Nat), i + k = a.lyrics.l.length ∧ H.cells 0 = some a.enc.cells ∧ H.cells 1 = some b.enc.cells ∧ a.lyrics.l.take i = b.lyrics.l.take i ∧
    ∃ x : Nat → AV, t = [a.enc, b.enc, .ptr 0 0, .ptr 1 0, .sc (.bool false), x 5, x 6, .sc (.int .i64 i), x 8, x 9, x 10, x 11, x 12, x 13, x 14, x 15, x 16, x 17, x 18, x 19, x 20, x 21, x 22, x 23, x 24, x 25, x 26, x 27, x 28, x 29, x 30, x 31, x 32, x 33, x 34, x 35, x 36, x 37, x 38, x 39, x 40, x 41, x 42, x 43, x 44, x 45, x 46, x 47, x 48, x 49, x 50, x 51, x 52, x 53, x 54, x 55, x 56, x 57, x 58, x 59, x 60, x 61, x 62, x 63, x 64, x 65, x 66, x 67, x 68, x 69, x 70, x 71, x 72, x 73, x 74, x 75, x 76, x 77, x 78, x 79, x 80, x 81, x 82, x 83, x 84, x 85, x 86, x 87, x 88, x 89, x 90, x 91, x 92, x 93, x 94, x 95, x 96, x 97, x 98, x 99, x 100, x 101, x 102, x 103, x 104, x 105, x 106, x 107, x 108, x 109, x 110, x 111, x 112, x 113, x 114, x 115, x 116, x 117, x 118, x 119, x 120, x 121, x 122, x 123, x 124, x 125, x 126, x 127, x 128, x 129, x 130, x 131, x 132, x 133, x 134, x 135]) (k := a.lyrics.l.length) ?_
    ⟨0, by omega, hA, hB, rfl, ex_x rfl⟩
  clear hA hB ht x c1 hk
  rintro k t H ⟨i, hk, hA, hB, ht, x, rfl⟩
  simp only [a.enc_eq, b.enc_eq, c_agg] at hA hB
  by_cases c1 : (i : Int) < (a.lyrics.l.length : Int)
  · obtain ⟨y, hy1⟩ : ∃ y, a.lyrics.l[i]? = some y := ⟨_, List.getElem?_eq_getElem (by omega)⟩
    obtain ⟨z, hz1⟩ : ∃ y, b.lyrics.l[i]? = some y := ⟨_, List.getElem?_eq_getElem (by omega)⟩
    have e2 : IntKind.i64.wrap ((i : Int) + 1) = ((i + 1 : Nat) : Int) := by rw [w64 (by omega) (by omega)]; omega
    by_cases c2 : y = z
    · subst c2
      simp -implicitDefEqProofs (maxDischargeDepth := 12) only [WW,List.replicate,e_splice,if_true,if_false,ite_true,ite_false,true_or,ne_eq,Nat.reduceAdd,Nat.reduceSub,Nat.reduceMul,Nat.reduceLeDiff,Nat.reduceEqDiff,Nat.reduceGT,Nat.reduceLT,Int.reduceLE,Int.reduceLT,Int.reduceToNat,Int.reduceAdd,reduceCtorEq,h_putc,beq_self_eq_true,eq_self,exists_eq_left,exists_eq_left', hA, hB, c1, hy1, hz1, y.enc_eq, syl_eq, e2]
      exact ⟨k - 1, by omega, i + 1, by omega, rfl, rfl, take_step hy1 hz1 ht, ex_x rfl⟩
    · rw [decide_eq_false (fun k => list_ne hy1 hz1 c2 k.2.2)]
      simp -implicitDefEqProofs (maxDischargeDepth := 12) only [WW,List.replicate,e_splice,if_true,if_false,ite_true,ite_false,true_or,ne_eq,Nat.reduceAdd,Nat.reduceSub,Nat.reduceMul,Nat.reduceLeDiff,Nat.reduceEqDiff,Nat.reduceGT,Nat.reduceLT,Int.reduceLE,Int.reduceLT,Int.reduceToNat,Int.reduceAdd,reduceCtorEq,h_putc,beq_self_eq_true,eq_self,exists_eq_left,exists_eq_left', hA, hB, c1, hy1, hz1, y.enc_eq, z.enc_eq, syl_eq, c2]
      exact frz_sc
  have lyricsE : a.lyrics.l = b.lyrics.l := by rw [List.take_of_length_le (by omega), List.take_of_length_le (by omega)] at ht; exact ht
  simp -implicitDefEqProofs (maxDischargeDepth := 12) only [WW,List.replicate,e_splice,if_true,if_false,ite_true,ite_false,true_or,ne_eq,Nat.reduceAdd,Nat.reduceSub,Nat.reduceMul,Nat.reduceLeDiff,Nat.reduceEqDiff,Nat.reduceGT,Nat.reduceLT,Int.reduceLE,Int.reduceLT,Int.reduceToNat,Int.reduceAdd,reduceCtorEq,h_putc,beq_self_eq_true,eq_self,exists_eq_left,exists_eq_left', hA, hB, c1]
  rw [decide_eq_true ⟨headsE, gracesE, lyricsE⟩]
  exact frz_sc
end Go.Hem
/- Walks: the reference's Same of voices, cells. -/
set_option maxRecDepth 10000
set_option maxHeartbeats 4000000
set_option linter.unusedSimpArgs false
set_option linter.unusedVariables false
namespace Go.Hem
variable {pol : Pol}
def Voice.cn (v : Voice) : Voice := { events := Sl.of (v.events.l.map Event.cn), tuplets := Sl.of v.tuplets.l }
theorem tup_eq {a b : Tuplet} : (decide (a.first = b.first) && (decide (a.count = b.count) && (decide (a.actual = b.actual) && decide (a.normal = b.normal)))) = decide (a = b) := by
  cases a; cases b; simp only [Tuplet.mk.injEq, Bool.decide_and]
theorem Voice.cn_iff {a b : Voice} : a.cn = b.cn ↔ a.events.l.map Event.cn = b.events.l.map Event.cn ∧ a.tuplets.l = b.tuplets.l := by
  unfold Voice.cn; simp only [Voice.mk.injEq, of_inj]
theorem cn_noid {a b : Event} : a.cn = b.cn ↔ a.id = b.id ∧ a.noid = b.noid := by
  unfold Event.noid Event.cn
  simp only [Event.mk.injEq, of_inj, true_and]
theorem map_step {α β : Type} {f : α → β} {l m : List α} {i : Nat} {x y : α} (hx : l[i]? = some x) (hy : m[i]? = some y) (e : f x = f y) (h : (l.take i).map f = (m.take i).map f) : (l.take (i + 1)).map f = (m.take (i + 1)).map f := by
  rw [List.take_add_one, List.take_add_one, hx, hy, List.map_append, List.map_append, h]; simp [e]
def Event.tame (e : Event) : Prop := e.heads.l.length < 1000000 ∧ e.graces.l.length < 1000000 ∧ e.lyrics.l.length < 1000000
def Voice.tame (v : Voice) : Prop := v.events.l.length < 1000000 ∧ v.tuplets.l.length < 1000000 ∧ ∀ e ∈ v.events.l, e.tame
theorem sameVoice_pv (hp : pol.pure 99 = true) (a b : Voice) (ha : a.tame) : Pv prog pol 50 [a.enc, b.enc] (.sc (.bool (decide (a.cn = b.cn)))) := by
  refine Pv_of' ok50 (by simp only [AV.closedBs, Voice.enc_closed, Bool.and_self]) ?_
  rw [show decide (a.cn = b.cn) = decide (a.events.l.map Event.cn = b.events.l.map Event.cn ∧ a.tuplets.l = b.tuplets.l) from decide_eq_decide.2 Voice.cn_iff]
  generalize hr : decide (a.events.l.map Event.cn = b.events.l.map Event.cn ∧ a.tuplets.l = b.tuplets.l) = r
  obtain ⟨b1, b2, b3⟩ := ha
  simp -implicitDefEqProofs (maxDischargeDepth := 12) only [wpF, cf50, WW,List.replicate,e_splice,if_true,if_false,ite_true,ite_false,true_or,ne_eq,Nat.reduceAdd,Nat.reduceSub,Nat.reduceMul,Nat.reduceLeDiff,Nat.reduceEqDiff,Nat.reduceGT,Nat.reduceLT,Int.reduceLE,Int.reduceLT,Int.reduceToNat,Int.reduceAdd,reduceCtorEq,h_putc,beq_self_eq_true,eq_self,exists_eq_left,exists_eq_left', a.enc_eq, b.enc_eq]
  by_cases h1 : (a.events.l.length : Int) = (b.events.l.length : Int)
  rotate_left
  · rw [decide_eq_false (fun k => h1 (by have := congrArg List.length k.1; simp only [List.length_map] at this; omega))] at hr; subst hr
    simp -implicitDefEqProofs (maxDischargeDepth := 12) only [WW,List.replicate,e_splice,if_true,if_false,ite_true,ite_false,true_or,ne_eq,Nat.reduceAdd,Nat.reduceSub,Nat.reduceMul,Nat.reduceLeDiff,Nat.reduceEqDiff,Nat.reduceGT,Nat.reduceLT,Int.reduceLE,Int.reduceLT,Int.reduceToNat,Int.reduceAdd,reduceCtorEq,h_putc,beq_self_eq_true,eq_self,exists_eq_left,exists_eq_left', h1]
    exact frz_sc
  simp -implicitDefEqProofs (maxDischargeDepth := 12) only [WW,List.replicate,e_splice,if_true,if_false,ite_true,ite_false,true_or,ne_eq,Nat.reduceAdd,Nat.reduceSub,Nat.reduceMul,Nat.reduceLeDiff,Nat.reduceEqDiff,Nat.reduceGT,Nat.reduceLT,Int.reduceLE,Int.reduceLT,Int.reduceToNat,Int.reduceAdd,reduceCtorEq,h_putc,beq_self_eq_true,eq_self,exists_eq_left,exists_eq_left', eq_true h1]
  by_cases h2 : (a.tuplets.l.length : Int) = (b.tuplets.l.length : Int)
  rotate_left
  · rw [decide_eq_false (fun k => h2 (by rw [k.2]))] at hr; subst hr
    simp -implicitDefEqProofs (maxDischargeDepth := 12) only [WW,List.replicate,e_splice,if_true,if_false,ite_true,ite_false,true_or,ne_eq,Nat.reduceAdd,Nat.reduceSub,Nat.reduceMul,Nat.reduceLeDiff,Nat.reduceEqDiff,Nat.reduceGT,Nat.reduceLT,Int.reduceLE,Int.reduceLT,Int.reduceToNat,Int.reduceAdd,reduceCtorEq,h_putc,beq_self_eq_true,eq_self,exists_eq_left,exists_eq_left', h2]
    exact frz_sc
  simp -implicitDefEqProofs (maxDischargeDepth := 12) only [WW,List.replicate,e_splice,if_true,if_false,ite_true,ite_false,true_or,ne_eq,Nat.reduceAdd,Nat.reduceSub,Nat.reduceMul,Nat.reduceLeDiff,Nat.reduceEqDiff,Nat.reduceGT,Nat.reduceLT,Int.reduceLE,Int.reduceLT,Int.reduceToNat,Int.reduceAdd,reduceCtorEq,h_putc,beq_self_eq_true,eq_self,exists_eq_left,exists_eq_left', eq_true h2]
  refine wp_loop (Inv := fun k t H => ∃ (i : Nat), i + k = a.events.l.length ∧ H.cells 0 = some a.enc.cells ∧ H.cells 1 = some b.enc.cells ∧ (a.events.l.take i).map Event.cn = (b.events.l.take i).map Event.cn ∧
    ∃ x : Nat → AV, t = [a.enc, b.enc, .ptr 0 0, .ptr 1 0, .sc (.bool false), .sc (.int .i64 i), x 6, x 7, x 8, x 9, x 10, x 11, x 12, x 13, x 14, x 15, x 16, x 17, x 18, x 19, x 20, x 21, x 22, x 23, x 24, x 25, x 26, x 27, x 28, x 29, x 30, x 31, x 32, x 33, x 34, x 35, x 36, x 37, x 38, x 39, x 40, x 41, x 42, x 43, x 44, x 45, x 46, x 47, x 48, x 49, x 50, x 51, x 52, x 53, x 54, x 55, x 56, x 57, x 58, x 59, x 60, x 61, x 62, x 63, x 64, x 65, x 66, x 67, x 68, x 69, x 70, x 71, x 72, x 73, x 74]) (k := a.events.l.length) ?_
    ⟨0, by omega, ?_, ?_, rfl, ex_x rfl⟩
  rotate_left
  · simp -implicitDefEqProofs (maxDischargeDepth := 12) only [WW,List.replicate,e_splice,if_true,if_false,ite_true,ite_false,true_or,ne_eq,Nat.reduceAdd,Nat.reduceSub,Nat.reduceMul,Nat.reduceLeDiff,Nat.reduceEqDiff,Nat.reduceGT,Nat.reduceLT,Int.reduceLE,Int.reduceLT,Int.reduceToNat,Int.reduceAdd,reduceCtorEq,h_putc,beq_self_eq_true,eq_self,exists_eq_left,exists_eq_left']; rfl
  · simp -implicitDefEqProofs (maxDischargeDepth := 12) only [WW,List.replicate,e_splice,if_true,if_false,ite_true,ite_false,true_or,ne_eq,Nat.reduceAdd,Nat.reduceSub,Nat.reduceMul,Nat.reduceLeDiff,Nat.reduceEqDiff,Nat.reduceGT,Nat.reduceLT,Int.reduceLE,Int.reduceLT,Int.reduceToNat,Int.reduceAdd,reduceCtorEq,h_putc,beq_self_eq_true,eq_self,exists_eq_left,exists_eq_left']; rfl
  rintro k t H ⟨i, hk, hA, hB, ht, x, rfl⟩
  simp only [a.enc_eq, b.enc_eq, c_agg] at hA hB
  by_cases c1 : (i : Int) < (a.events.l.length : Int)
  · obtain ⟨y, hy1⟩ : ∃ y, a.events.l[i]? = some y := ⟨_, List.getElem?_eq_getElem (by omega)⟩
    obtain ⟨z, hz1⟩ : ∃ y, b.events.l[i]? = some y := ⟨_, List.getElem?_eq_getElem (by omega)⟩
    have e2 : IntKind.i64.wrap ((i : Int) + 1) = ((i + 1 : Nat) : Int) := by rw [w64 (by omega) (by omega)]; omega
    obtain ⟨t1, t2, t3⟩ := b3 y (List.mem_of_getElem? hy1)
    by_cases c2 : y.id = z.id
    · simp -implicitDefEqProofs (maxDischargeDepth := 12) only [WW,List.replicate,e_splice,if_true,if_false,ite_true,ite_false,true_or,ne_eq,Nat.reduceAdd,Nat.reduceSub,Nat.reduceMul,Nat.reduceLeDiff,Nat.reduceEqDiff,Nat.reduceGT,Nat.reduceLT,Int.reduceLE,Int.reduceLT,Int.reduceToNat,Int.reduceAdd,reduceCtorEq,h_putc,beq_self_eq_true,eq_self,exists_eq_left,exists_eq_left', hA, hB, c1, hy1, hz1, y.enc_eq, z.enc_eq, id_eq, eq_true c2]
      rw [← y.enc_eq, ← z.enc_eq]
      refine wA_pure hp (same11_pv y z t1 t2 t3) ?_
      by_cases c3 : y.noid = z.noid
      · simp -implicitDefEqProofs (maxDischargeDepth := 12) only [WW,List.replicate,e_splice,if_true,if_false,ite_true,ite_false,true_or,ne_eq,Nat.reduceAdd,Nat.reduceSub,Nat.reduceMul,Nat.reduceLeDiff,Nat.reduceEqDiff,Nat.reduceGT,Nat.reduceLT,Int.reduceLE,Int.reduceLT,Int.reduceToNat,Int.reduceAdd,reduceCtorEq,h_putc,beq_self_eq_true,eq_self,exists_eq_left,exists_eq_left', eq_true c3, e2]
        exact ⟨k - 1, by omega, i + 1, by omega, hA, hB, map_step hy1 hz1 (cn_noid.2 ⟨c2, c3⟩) ht, ex_x rfl⟩
      · rw [decide_eq_false (fun k => map_ne hy1 hz1 (fun e => c3 (cn_noid.1 e).2) k.1)] at hr; subst hr
        simp -implicitDefEqProofs (maxDischargeDepth := 12) only [WW,List.replicate,e_splice,if_true,if_false,ite_true,ite_false,true_or,ne_eq,Nat.reduceAdd,Nat.reduceSub,Nat.reduceMul,Nat.reduceLeDiff,Nat.reduceEqDiff,Nat.reduceGT,Nat.reduceLT,Int.reduceLE,Int.reduceLT,Int.reduceToNat,Int.reduceAdd,reduceCtorEq,h_putc,beq_self_eq_true,eq_self,exists_eq_left,exists_eq_left', c3]
        exact frz_sc
    · rw [decide_eq_false (fun k => map_ne hy1 hz1 (fun e => c2 (cn_noid.1 e).1) k.1)] at hr; subst hr
      simp -implicitDefEqProofs (maxDischargeDepth := 12) only [WW,List.replicate,e_splice,if_true,if_false,ite_true,ite_false,true_or,ne_eq,Nat.reduceAdd,Nat.reduceSub,Nat.reduceMul,Nat.reduceLeDiff,Nat.reduceEqDiff,Nat.reduceGT,Nat.reduceLT,Int.reduceLE,Int.reduceLT,Int.reduceToNat,Int.reduceAdd,reduceCtorEq,h_putc,beq_self_eq_true,eq_self,exists_eq_left,exists_eq_left', hA, hB, c1, hy1, hz1, y.enc_eq, z.enc_eq, id_eq, c2]
      exact frz_sc
  have evE : a.events.l.map Event.cn = b.events.l.map Event.cn := by rw [List.take_of_length_le (by omega), List.take_of_length_le (by omega)] at ht; exact ht
  simp -implicitDefEqProofs (maxDischargeDepth := 12) only [WW,List.replicate,e_splice,if_true,if_false,ite_true,ite_false,true_or,ne_eq,Nat.reduceAdd,Nat.reduceSub,Nat.reduceMul,Nat.reduceLeDiff,Nat.reduceEqDiff,Nat.reduceGT,Nat.reduceLT,Int.reduceLE,Int.reduceLT,Int.reduceToNat,Int.reduceAdd,reduceCtorEq,h_putc,beq_self_eq_true,eq_self,exists_eq_left,exists_eq_left', hA, hB, c1]
  refine wp_loop (Inv := fun k t H => ∃ (i : Nat), i + k = a.tuplets.l.length ∧ H.cells 0 = some a.enc.cells ∧ H.cells 1 = some b.enc.cells ∧ a.tuplets.l.take i = b.tuplets.l.take i ∧
    ∃ x : Nat → AV, t = [a.enc, b.enc, .ptr 0 0, .ptr 1 0, .sc (.bool false), x 5, .sc (.int .i64 i), x 7, x 8, x 9, x 10, x 11, x 12, x 13, x 14, x 15, x 16, x 17, x 18, x 19, x 20, x 21, x 22, x 23, x 24, x 25, x 26, x 27, x 28, x 29, x 30, x 31, x 32, x 33, x 34, x 35, x 36, x 37, x 38, x 39, x 40, x 41, x 42, x 43, x 44, x 45, x 46, x 47, x 48, x 49, x 50, x 51, x 52, x 53, x 54, x 55, x 56, x 57, x 58, x 59, x 60, x 61, x 62, x 63, x 64, x 65, x 66, x 67, x 68, x 69, x 70, x 71, x 72, x 73, x 74]) (k := a.tuplets.l.length) ?_
    ⟨0, by omega, hA, hB, rfl, ex_x rfl⟩
  clear hA hB ht x c1 hk
  rintro k t H ⟨i, hk, hA, hB, ht, x, rfl⟩
  simp only [a.enc_eq, b.enc_eq, c_agg] at hA hB
  by_cases c1 : (i : Int) < (a.tuplets.l.length : Int)
  · obtain ⟨y, hy1⟩ : ∃ y, a.tuplets.l[i]? = some y := ⟨_, List.getElem?_eq_getElem (by omega)⟩
    obtain ⟨z, hz1⟩ : ∃ y, b.tuplets.l[i]? = some y := ⟨_, List.getElem?_eq_getElem (by omega)⟩
    have e2 : IntKind.i64.wrap ((i : Int) + 1) = ((i + 1 : Nat) : Int) := by rw [w64 (by omega) (by omega)]; omega
    by_cases c2 : y = z
    · subst c2
      simp -implicitDefEqProofs (maxDischargeDepth := 12) only [WW,List.replicate,e_splice,if_true,if_false,ite_true,ite_false,true_or,ne_eq,Nat.reduceAdd,Nat.reduceSub,Nat.reduceMul,Nat.reduceLeDiff,Nat.reduceEqDiff,Nat.reduceGT,Nat.reduceLT,Int.reduceLE,Int.reduceLT,Int.reduceToNat,Int.reduceAdd,reduceCtorEq,h_putc,beq_self_eq_true,eq_self,exists_eq_left,exists_eq_left', hA, hB, c1, hy1, hz1, y.enc_eq, tup_eq, e2]
      exact ⟨k - 1, by omega, i + 1, by omega, rfl, rfl, take_step hy1 hz1 ht, ex_x rfl⟩
    · rw [decide_eq_false (fun k => list_ne hy1 hz1 c2 k.2)] at hr; subst hr
      simp -implicitDefEqProofs (maxDischargeDepth := 12) only [WW,List.replicate,e_splice,if_true,if_false,ite_true,ite_false,true_or,ne_eq,Nat.reduceAdd,Nat.reduceSub,Nat.reduceMul,Nat.reduceLeDiff,Nat.reduceEqDiff,Nat.reduceGT,Nat.reduceLT,Int.reduceLE,Int.reduceLT,Int.reduceToNat,Int.reduceAdd,reduceCtorEq,h_putc,beq_self_eq_true,eq_self,exists_eq_left,exists_eq_left', hA, hB, c1, hy1, hz1, y.enc_eq, z.enc_eq, tup_eq, c2]
      exact frz_sc
  have tuE : a.tuplets.l = b.tuplets.l := by rw [List.take_of_length_le (by omega), List.take_of_length_le (by omega)] at ht; exact ht
  simp -implicitDefEqProofs (maxDischargeDepth := 12) only [WW,List.replicate,e_splice,if_true,if_false,ite_true,ite_false,true_or,ne_eq,Nat.reduceAdd,Nat.reduceSub,Nat.reduceMul,Nat.reduceLeDiff,Nat.reduceEqDiff,Nat.reduceGT,Nat.reduceLT,Int.reduceLE,Int.reduceLT,Int.reduceToNat,Int.reduceAdd,reduceCtorEq,h_putc,beq_self_eq_true,eq_self,exists_eq_left,exists_eq_left', hA, hB, c1]
  rw [decide_eq_true ⟨evE, tuE⟩] at hr; subst hr
  exact frz_sc
end Go.Hem
