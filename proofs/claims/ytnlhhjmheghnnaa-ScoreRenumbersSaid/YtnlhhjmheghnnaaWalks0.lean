/- Walks. -/
import Derived.Test.YtnlhhjmheghnnaaHemCode
import Derived.Test.YtnlhhjmheghnnaaHemData
import Derived.Test.YtnlhhjmheghnnaaHemBun
import Derived.Test.YtnlhhjmheghnnaaHemRange
import Derived.Test.YtnlhhjmheghnnaaHemCode2
/- Walks: counting staves. -/
set_option maxRecDepth 10000
set_option linter.unusedSimpArgs false
set_option linter.unusedVariables false
namespace Go.Hem
noncomputable abbrev prog := Go.Proofs.Try.prog
variable {pol : Pol}

def stavesOf (l : List Part) : Nat := (l.map fun p => p.staves.l.length).sum

theorem stavesOf_take {l : List Part} {i : Nat} {p : Part} (h : l[i]? = some p) : stavesOf (l.take (i + 1)) = stavesOf (l.take i) + p.staves.l.length := by
  simp [stavesOf, List.take_add_one, h]
theorem stavesOf_le {l : List Part} {i : Nat} : stavesOf (l.take i) ≤ stavesOf l := by
  have h : stavesOf (l.take i ++ l.drop i) = stavesOf (l.take i) + stavesOf (l.drop i) := by simp [stavesOf, -List.take_append_drop]
  rw [List.take_append_drop] at h
  omega

end Go.Hem
/- Walks: the first staff of a part. -/
set_option maxRecDepth 10000
set_option linter.unusedSimpArgs false
set_option linter.unusedVariables false
namespace Go.Hem
variable {pol : Pol}

end Go.Hem
/- The objects of a score, and the reference's list of them. -/
set_option maxRecDepth 10000
set_option maxHeartbeats 4000000
set_option linter.unusedSimpArgs false
set_option linter.unusedVariables false
namespace Go.Hem
variable {pol : Pol}
theorem row_O : RowOf 9 O.enc := ⟨by decide, fun _ => ⟨rfl, rfl⟩⟩
theorem of_snoc' {α : Type} {l : List α} {y : α} : (some (Sl.l (Sl.of l) ++ [y]) : Sl α) = Sl.of (l ++ [y]) := by
  rw [l_of]; unfold Sl.of; cases l <;> rfl

def oPart (i : Nat) (p : Part) : O := ⟨p.id, ⟨1, i, 0, 0, 0, 0, 0⟩⟩
def oStaff (st : Nat) (p : Staff) : O := ⟨p.id, ⟨2, 0, st, 0, 0, 0, 0⟩⟩
def oMeasure (m : Nat) (x : Measure) : O := ⟨x.id, ⟨3, 0, 0, m, 0, 0, 0⟩⟩
def oEvent (m c v e : Nat) (x : Event) : O := ⟨x.id, ⟨4, 0, c, m, v, e, 0⟩⟩
def oSpanner (i : Nat) (x : Spanner) : O := ⟨x.id, ⟨5, 0, 0, 0, 0, 0, i⟩⟩
def objStaves (st : Nat) : List Staff → List O
  | [] => []
  | s :: r => oStaff st s :: objStaves (st + 1) r
def objParts (i st : Nat) : List Part → List O
  | [] => []
  | p :: r => oPart i p :: (objStaves st p.staves.l ++ objParts (i + 1) (st + p.staves.l.length) r)
def objEvents (m c v e : Nat) : List Event → List O
  | [] => []
  | x :: r => oEvent m c v e x :: objEvents m c v (e + 1) r
def objVoices (m c v : Nat) : List Voice → List O
  | [] => []
  | x :: r => objEvents m c v 0 x.events.l ++ objVoices m c (v + 1) r
def objCells (m c : Nat) : List Cell → List O
  | [] => []
  | x :: r => objVoices m c 0 x.voices.l ++ objCells m (c + 1) r
def objMeasures (m : Nat) : List Measure → List O
  | [] => []
  | x :: r => oMeasure m x :: (objCells m 0 x.cells.l ++ objMeasures (m + 1) r)
def objSpanners (i : Nat) : List Spanner → List O
  | [] => []
  | x :: r => oSpanner i x :: objSpanners (i + 1) r
def objs (s : Score) : List O := objParts 0 0 s.parts.l ++ (objMeasures 0 s.measures.l ++ objSpanners 0 s.spanners.l)

section
variable {m c v e i st : Nat}
theorem drop_cons {α : Type} {l : List α} {i : Nat} {y : α} (h : l[i]? = some y) : l.drop i = y :: l.drop (i + 1) := by
  obtain ⟨hi, rfl⟩ := List.getElem?_eq_some_iff.1 h
  exact List.drop_eq_getElem_cons hi
theorem drop_end {α : Type} {l : List α} {i : Nat} (h : ¬ ((i : Int) < (l.length : Int))) : l.drop i = [] := List.drop_of_length_le (by omega)
theorem len_pre {a b : List O} {s : Score} (h : a ++ b = objs s) : a.length ≤ (objs s).length := by rw [← h]; simp
theorem stavesOf_at {l : List Part} {i : Nat} {p : Part} (h : l[i]? = some p) : stavesOf (l.take i) + p.staves.l.length ≤ stavesOf l := by
  rw [← stavesOf_take h]; exact stavesOf_le
end

/-- No list is long. -/
structure Tame (s : Score) : Prop where
  objs : (objs s).length < 1000000
  staves : stavesOf s.parts.l < 1000000
  parts : s.parts.l.length < 1000000
  measures : s.measures.l.length < 1000000
  spanners : s.spanners.l.length < 1000000
  cells : ∀ (m : Nat) y, s.measures.l[m]? = some y → y.cells.l.length < 1000000
  voices : ∀ (m : Nat) y (c : Nat) q, s.measures.l[m]? = some y → y.cells.l[c]? = some q → q.voices.l.length < 1000000
  events : ∀ (m : Nat) y (c : Nat) q (v : Nat) z, s.measures.l[m]? = some y → y.cells.l[c]? = some q → q.voices.l[v]? = some z → z.events.l.length < 1000000
theorem robjects_pv (s : Score) (hT : Tame s) : Pv prog pol 16 [s.enc] (slm O.enc (Sl.of (objs s))) := by
  obtain ⟨hs, hst, hl1, hl2, hl3, hT1, hT2, hT3⟩ := hT
  refine Pv_of' ok16 (by simp only [AV.closedBs, Score.enc_closed, Bool.and_self]) ?_
  simp -implicitDefEqProofs (maxDischargeDepth := 12) only [wpF, cf16, WW,List.replicate,e_splice,if_true,if_false,ite_true,ite_false,true_or,ne_eq,seval,h_putc,beq_self_eq_true,eq_self,exists_eq_left,exists_eq_left', s.enc_eq]
  -- the parts
  refine wp_loop (Inv := fun k t H => ∃ (i : Nat) (fp : List Nat) (done : List O) (a : AV), i + k = s.parts.l.length ∧ H.cells 0 = some s.enc.cells ∧ done ++ (objParts i (stavesOf (s.parts.l.take i)) (s.parts.l.drop i) ++ (objMeasures 0 s.measures.l ++ objSpanners 0 s.spanners.l)) = objs s ∧
    Acc 1 9 O.enc H a (Sl.of done) fp ∧ (∀ b ∈ fp, 1 ≤ b) ∧
    ∃ x : Nat → AV, t = [s.enc, .ptr 0 0, .sc .nils, a, .sc (.int .i64 (stavesOf (s.parts.l.take i))), .sc (.int .i64 i), x 6, x 7, x 8, x 9, x 10, x 11, x 12, x 13, x 14, x 15, x 16, x 17, x 18, x 19, x 20, x 21, x 22, x 23, x 24, x 25, x 26, x 27, x 28, x 29, x 30, x 31, x 32, x 33, x 34, x 35, x 36, x 37, x 38, x 39, x 40, x 41, x 42, x 43, x 44, x 45, x 46, x 47, x 48, x 49, x 50, x 51, x 52, x 53, x 54, x 55, x 56, x 57, x 58, x 59, x 60, x 61, x 62, x 63, x 64, x 65, x 66, x 67, x 68, x 69, x 70, x 71, x 72, x 73, x 74, x 75, x 76, x 77, x 78, x 79, x 80, x 81, x 82, x 83, x 84, x 85, x 86, x 87, x 88, x 89, x 90, x 91, x 92, x 93, x 94, x 95, x 96, x 97, x 98, x 99, x 100, x 101, x 102, x 103, x 104, x 105, x 106, x 107, x 108, x 109, x 110, x 111, x 112, x 113, x 114, x 115, x 116, x 117, x 118, x 119, x 120, x 121, x 122, x 123, x 124, x 125, x 126, x 127, x 128, x 129, x 130, x 131, x 132, x 133, x 134, x 135, x 136, x 137, x 138, x 139, x 140, x 141, x 142, x 143, x 144, x 145, x 146, x 147, x 148, x 149, x 150, x 151, x 152, x 153, x 154]) (k := s.parts.l.length) ?_
    ⟨0, [], [], _, by omega, ?_, rfl, acc_none, by simp, ex_x rfl⟩
  rotate_left
  · simp -implicitDefEqProofs (maxDischargeDepth := 12) only [WW,List.replicate,e_splice,if_true,if_false,ite_true,ite_false,true_or,ne_eq,seval,h_putc,beq_self_eq_true,eq_self,exists_eq_left,exists_eq_left']; rfl
  rintro k t H ⟨i, fp, done, a, hk, hH0, hd, hA, hfp, x, rfl⟩
  simp only [s.enc_eq, c_agg] at hH0
  by_cases h1 : (i : Int) < (s.parts.l.length : Int)
  · obtain ⟨p, hp⟩ : ∃ y, s.parts.l[i]? = some y := ⟨_, List.getElem?_eq_getElem (by omega)⟩
    have e2 : IntKind.i64.wrap ((i : Int) + 1) = ((i + 1 : Nat) : Int) := by rw [w64 (by omega) (by omega)]; omega
    have hst2 := stavesOf_at hp
    simp -implicitDefEqProofs (maxDischargeDepth := 12) only [WW,List.replicate,e_splice,if_true,if_false,ite_true,ite_false,true_or,ne_eq,seval,h_putc,beq_self_eq_true,eq_self,exists_eq_left,exists_eq_left', hH0, h1, hp, p.enc_eq]
    -- oPart i p: the list's fact, drop_cons hp, objParts: what is added, $3: the element's fact
    refine wA_app2 row_O hA (by repeat (first | exact Keep.refl | refine Keep.put (by (try simp only [AHeap.next_alloc, AHeap.next_put]); omega) ?_ | refine Keep.alloc (by (try simp only [AHeap.next_alloc, AHeap.next_put]); omega) ?_)) (by simp) (ys := [oPart i p]) (by simp) rfl (asrc_new (by simp) rfl) (own_one (O.enc_plain _) rfl) Apart.nil_right ?_ ?_
    · rw [l_of]; have := len_pre hd; simp only [List.length_cons, List.length_nil]; omega
    intro v' H2 fp' hA' hn2 hk2 hfp2 ho2 hc2
    rw [of_snoc'] at hA'
    have g0 := (hk2 0 (fun h => by have := hfp 0 h; omega) (h_lt hH0)).trans hH0
    have hfp3 : ∀ b ∈ fp', 1 ≤ b := fun b hb => by
      rcases hfp2 b hb with h | h | h
      · exact hfp b h
      · simp at h
      · have := h_lt hH0; omega
    have hd' := hd
    rw [drop_cons hp, objParts] at hd'
    try simp only [List.cons_append] at hd'
    rw [List.append_cons] at hd'
    simp -implicitDefEqProofs (maxDischargeDepth := 12) only [WW,List.replicate,e_splice,if_true,if_false,ite_true,ite_false,true_or,ne_eq,seval,h_putc,beq_self_eq_true,eq_self,exists_eq_left,exists_eq_left']
    -- its staves
    refine wp_loop (Inv := fun k t H => ∃ (j : Nat) (fp : List Nat) (done : List O) (a : AV), j + k = p.staves.l.length ∧ H.cells 0 = some s.enc.cells ∧ done ++ (objStaves (stavesOf (s.parts.l.take i) + j) (p.staves.l.drop j) ++ objParts (i + 1) (stavesOf (s.parts.l.take i) + p.staves.l.length) (s.parts.l.drop (i + 1)) ++ (objMeasures 0 s.measures.l ++ objSpanners 0 s.spanners.l)) = objs s ∧
      Acc 1 9 O.enc H a (Sl.of done) fp ∧ (∀ b ∈ fp, 1 ≤ b) ∧
      ∃ x : Nat → AV, t = [s.enc, .ptr 0 0, .sc .nils, a, .sc (.int .i64 ((stavesOf (s.parts.l.take i) + j : Nat) : Int)), .sc (.int .i64 i), .sc (.int .i64 j), x 7, x 8, x 9, x 10, x 11, x 12, x 13, x 14, x 15, x 16, x 17, x 18, x 19, x 20, x 21, x 22, x 23, x 24, x 25, x 26, x 27, x 28, x 29, x 30, x 31, x 32, x 33, x 34, x 35, x 36, x 37, x 38, x 39, x 40, x 41, x 42, x 43, x 44, x 45, x 46, x 47, x 48, x 49, x 50, x 51, x 52, x 53, x 54, x 55, x 56, x 57, x 58, x 59, x 60, x 61, x 62, x 63, x 64, x 65, x 66, x 67, x 68, x 69, x 70, x 71, x 72, x 73, x 74, x 75, x 76, x 77, x 78, x 79, x 80, x 81, x 82, x 83, x 84, x 85, x 86, x 87, x 88, x 89, x 90, x 91, x 92, x 93, x 94, x 95, x 96, x 97, x 98, x 99, x 100, x 101, x 102, x 103, x 104, x 105, x 106, x 107, x 108, x 109, x 110, x 111, x 112, x 113, x 114, x 115, x 116, x 117, x 118, x 119, x 120, x 121, x 122, x 123, x 124, x 125, x 126, x 127, x 128, x 129, x 130, x 131, x 132, x 133, x 134, x 135, x 136, x 137, x 138, x 139, x 140, x 141, x 142, x 143, x 144, x 145, x 146, x 147, x 148, x 149, x 150, x 151, x 152, x 153, x 154]) (k := p.staves.l.length) ?_
      ⟨0, fp', done ++ [oPart i p], _, by omega, g0, by simpa using hd', hA', hfp3, ex_x rfl⟩
    clear hA' hA hH0 g0 hd hd' hfp hfp2 hfp3 hk2 hn2 x hc2 ho2
    rintro k' t H ⟨j, fp, done, a, hk', hH0, hd, hA, hfp, x, rfl⟩
    simp only [s.enc_eq, c_agg] at hH0
    by_cases h3 : (j : Int) < (p.staves.l.length : Int)
    · obtain ⟨q, hq⟩ : ∃ y, p.staves.l[j]? = some y := ⟨_, List.getElem?_eq_getElem (by omega)⟩
      have e3 : IntKind.i64.wrap ((j : Int) + 1) = ((j + 1 : Nat) : Int) := by rw [w64 (by omega) (by omega)]; omega
      have e4 : IntKind.i64.wrap (((stavesOf (s.parts.l.take i) + j : Nat) : Int) + 1) = ((stavesOf (s.parts.l.take i) + (j + 1) : Nat) : Int) := by rw [w64 (by omega) (by omega)]; omega
      simp -implicitDefEqProofs (maxDischargeDepth := 12) only [WW,List.replicate,e_splice,if_true,if_false,ite_true,ite_false,true_or,ne_eq,seval,h_putc,beq_self_eq_true,eq_self,exists_eq_left,exists_eq_left', hH0, h3, hp, hq, p.enc_eq, q.enc_eq]
      -- oStaff (stavesOf (s.parts.l.take i) + j) q: the list's fact, drop_cons hq, objStaves: what is added, $3: the element's fact
      refine wA_app2 row_O hA (by repeat (first | exact Keep.refl | refine Keep.put (by (try simp only [AHeap.next_alloc, AHeap.next_put]); omega) ?_ | refine Keep.alloc (by (try simp only [AHeap.next_alloc, AHeap.next_put]); omega) ?_)) (by simp) (ys := [oStaff (stavesOf (s.parts.l.take i) + j) q]) (by simp) rfl (asrc_new (by simp) rfl) (own_one (O.enc_plain _) rfl) Apart.nil_right ?_ ?_
      · rw [l_of]; have := len_pre hd; simp only [List.length_cons, List.length_nil]; omega
      intro v' H2 fp' hA' hn2 hk2 hfp2 ho2 hc2
      rw [of_snoc'] at hA'
      have g0 := (hk2 0 (fun h => by have := hfp 0 h; omega) (h_lt hH0)).trans hH0
      have hfp3 : ∀ b ∈ fp', 1 ≤ b := fun b hb => by
        rcases hfp2 b hb with h | h | h
        · exact hfp b h
        · simp at h
        · have := h_lt hH0; omega
      have hd' := hd
      rw [drop_cons hq, objStaves] at hd'
      try simp only [List.cons_append] at hd'
      rw [List.append_cons] at hd'
      simp -implicitDefEqProofs (maxDischargeDepth := 12) only [WW,List.replicate,e_splice,if_true,if_false,ite_true,ite_false,true_or,ne_eq,seval,h_putc,beq_self_eq_true,eq_self,exists_eq_left,exists_eq_left', e3, e4]
      exact ⟨k' - 1, by omega, j + 1, fp', _, v', by omega, g0, by simpa [Nat.add_assoc] using hd', hA', hfp3, ex_x rfl⟩
    · have hj : j = p.staves.l.length := by omega
      simp -implicitDefEqProofs (maxDischargeDepth := 12) only [WW,List.replicate,e_splice,if_true,if_false,ite_true,ite_false,true_or,ne_eq,seval,h_putc,beq_self_eq_true,eq_self,exists_eq_left,exists_eq_left', hH0, h3, hp, p.enc_eq, e2]
      rw [drop_end h3] at hd
      simp only [objStaves, List.nil_append] at hd
      rw [hj, ← stavesOf_take hp]
      rw [← stavesOf_take hp] at hd
      exact ⟨k - 1, by omega, i + 1, fp, done, a, by omega, rfl, hd, hA, hfp, ex_x rfl⟩
  · simp -implicitDefEqProofs (maxDischargeDepth := 12) only [WW,List.replicate,e_splice,if_true,if_false,ite_true,ite_false,true_or,ne_eq,seval,h_putc,beq_self_eq_true,eq_self,exists_eq_left,exists_eq_left', hH0, h1]
    rw [drop_end h1] at hd
    simp only [objParts, List.nil_append] at hd
    -- the measures
    refine wp_loop (Inv := fun k t H => ∃ (m : Nat) (fp : List Nat) (done : List O) (a : AV), m + k = s.measures.l.length ∧ H.cells 0 = some s.enc.cells ∧ done ++ (objMeasures m (s.measures.l.drop m) ++ objSpanners 0 s.spanners.l) = objs s ∧
      Acc 1 9 O.enc H a (Sl.of done) fp ∧ (∀ b ∈ fp, 1 ≤ b) ∧
      ∃ x : Nat → AV, t = [s.enc, .ptr 0 0, .sc .nils, a, x 4, x 5, x 6, .sc (.int .i64 m), x 8, x 9, x 10, x 11, x 12, x 13, x 14, x 15, x 16, x 17, x 18, x 19, x 20, x 21, x 22, x 23, x 24, x 25, x 26, x 27, x 28, x 29, x 30, x 31, x 32, x 33, x 34, x 35, x 36, x 37, x 38, x 39, x 40, x 41, x 42, x 43, x 44, x 45, x 46, x 47, x 48, x 49, x 50, x 51, x 52, x 53, x 54, x 55, x 56, x 57, x 58, x 59, x 60, x 61, x 62, x 63, x 64, x 65, x 66, x 67, x 68, x 69, x 70, x 71, x 72, x 73, x 74, x 75, x 76, x 77, x 78, x 79, x 80, x 81, x 82, x 83, x 84, x 85, x 86, x 87, x 88, x 89, x 90, x 91, x 92, x 93, x 94, x 95, x 96, x 97, x 98, x 99, x 100, x 101, x 102, x 103, x 104, x 105, x 106, x 107, x 108, x 109, x 110, x 111, x 112, x 113, x 114, x 115, x 116, x 117, x 118, x 119, x 120, x 121, x 122, x 123, x 124, x 125, x 126, x 127, x 128, x 129, x 130, x 131, x 132, x 133, x 134, x 135, x 136, x 137, x 138, x 139, x 140, x 141, x 142, x 143, x 144, x 145, x 146, x 147, x 148, x 149, x 150, x 151, x 152, x 153, x 154]) (k := s.measures.l.length) ?_
      ⟨0, fp, done, _, by omega, hH0, by simpa using hd, hA, hfp, ex_x rfl⟩
    clear hA hH0 hd hfp x h1 hk
    rintro k t H ⟨m, fp, done, a, hk, hH0, hd, hA, hfp, x, rfl⟩
    simp only [s.enc_eq, c_agg] at hH0
    by_cases h1 : (m : Int) < (s.measures.l.length : Int)
    · obtain ⟨y, hy⟩ : ∃ y, s.measures.l[m]? = some y := ⟨_, List.getElem?_eq_getElem (by omega)⟩
      have e2 : IntKind.i64.wrap ((m : Int) + 1) = ((m + 1 : Nat) : Int) := by rw [w64 (by omega) (by omega)]; omega
      simp -implicitDefEqProofs (maxDischargeDepth := 12) only [WW,List.replicate,e_splice,if_true,if_false,ite_true,ite_false,true_or,ne_eq,seval,h_putc,beq_self_eq_true,eq_self,exists_eq_left,exists_eq_left', hH0, h1, hy, y.enc_eq]
      -- oMeasure m y: the list's fact, drop_cons hy, objMeasures: what is added, $3: the element's fact
      refine wA_app2 row_O hA (by repeat (first | exact Keep.refl | refine Keep.put (by (try simp only [AHeap.next_alloc, AHeap.next_put]); omega) ?_ | refine Keep.alloc (by (try simp only [AHeap.next_alloc, AHeap.next_put]); omega) ?_)) (by simp) (ys := [oMeasure m y]) (by simp) rfl (asrc_new (by simp) rfl) (own_one (O.enc_plain _) rfl) Apart.nil_right ?_ ?_
      · rw [l_of]; have := len_pre hd; simp only [List.length_cons, List.length_nil]; omega
      intro v' H2 fp' hA' hn2 hk2 hfp2 ho2 hc2
      rw [of_snoc'] at hA'
      have g0 := (hk2 0 (fun h => by have := hfp 0 h; omega) (h_lt hH0)).trans hH0
      have hfp3 : ∀ b ∈ fp', 1 ≤ b := fun b hb => by
        rcases hfp2 b hb with h | h | h
        · exact hfp b h
        · simp at h
        · have := h_lt hH0; omega
      have hd' := hd
      rw [drop_cons hy, objMeasures] at hd'
      try simp only [List.cons_append] at hd'
      rw [List.append_cons] at hd'
      simp -implicitDefEqProofs (maxDischargeDepth := 12) only [WW,List.replicate,e_splice,if_true,if_false,ite_true,ite_false,true_or,ne_eq,seval,h_putc,beq_self_eq_true,eq_self,exists_eq_left,exists_eq_left']
      -- its cells
      refine wp_loop (Inv := fun k t H => ∃ (c : Nat) (fp : List Nat) (done : List O) (a : AV), c + k = y.cells.l.length ∧ H.cells 0 = some s.enc.cells ∧ done ++ (objCells m c (y.cells.l.drop c) ++ objMeasures (m + 1) (s.measures.l.drop (m + 1)) ++ objSpanners 0 s.spanners.l) = objs s ∧
        Acc 1 9 O.enc H a (Sl.of done) fp ∧ (∀ b ∈ fp, 1 ≤ b) ∧
        ∃ x : Nat → AV, t = [s.enc, .ptr 0 0, .sc .nils, a, x 4, x 5, x 6, .sc (.int .i64 m), .sc (.int .i64 c), x 9, x 10, x 11, x 12, x 13, x 14, x 15, x 16, x 17, x 18, x 19, x 20, x 21, x 22, x 23, x 24, x 25, x 26, x 27, x 28, x 29, x 30, x 31, x 32, x 33, x 34, x 35, x 36, x 37, x 38, x 39, x 40, x 41, x 42, x 43, x 44, x 45, x 46, x 47, x 48, x 49, x 50, x 51, x 52, x 53, x 54, x 55, x 56, x 57, x 58, x 59, x 60, x 61, x 62, x 63, x 64, x 65, x 66, x 67, x 68, x 69, x 70, x 71, x 72, x 73, x 74, x 75, x 76, x 77, x 78, x 79, x 80, x 81, x 82, x 83, x 84, x 85, x 86, x 87, x 88, x 89, x 90, x 91, x 92, x 93, x 94, x 95, x 96, x 97, x 98, x 99, x 100, x 101, x 102, x 103, x 104, x 105, x 106, x 107, x 108, x 109, x 110, x 111, x 112, x 113, x 114, x 115, x 116, x 117, x 118, x 119, x 120, x 121, x 122, x 123, x 124, x 125, x 126, x 127, x 128, x 129, x 130, x 131, x 132, x 133, x 134, x 135, x 136, x 137, x 138, x 139, x 140, x 141, x 142, x 143, x 144, x 145, x 146, x 147, x 148, x 149, x 150, x 151, x 152, x 153, x 154]) (k := y.cells.l.length) ?_
        ⟨0, fp', done ++ [oMeasure m y], _, by omega, g0, by simpa using hd', hA', hfp3, ex_x rfl⟩
      clear hA' hA hH0 g0 hd hd' hfp hfp2 hfp3 hk2 hn2 x hc2 ho2
      rintro k' t H ⟨c, fp, done, a, hk', hH0, hd, hA, hfp, x, rfl⟩
      simp only [s.enc_eq, c_agg] at hH0
      by_cases h3 : (c : Int) < (y.cells.l.length : Int)
      · obtain ⟨q, hq⟩ : ∃ q, y.cells.l[c]? = some q := ⟨_, List.getElem?_eq_getElem (by omega)⟩
        simp -implicitDefEqProofs (maxDischargeDepth := 12) only [WW,List.replicate,e_splice,if_true,if_false,ite_true,ite_false,true_or,ne_eq,seval,h_putc,beq_self_eq_true,eq_self,exists_eq_left,exists_eq_left', hH0, h3, hy, hq, y.enc_eq, q.enc_eq]
        rw [drop_cons hq] at hd
        simp only [objCells] at hd
        -- its voices
        refine wp_loop (Inv := fun k t H => ∃ (v : Nat) (fp : List Nat) (done : List O) (a : AV), v + k = q.voices.l.length ∧ H.cells 0 = some s.enc.cells ∧ done ++ (objVoices m c v (q.voices.l.drop v) ++ objCells m (c + 1) (y.cells.l.drop (c + 1)) ++ objMeasures (m + 1) (s.measures.l.drop (m + 1)) ++ objSpanners 0 s.spanners.l) = objs s ∧
          Acc 1 9 O.enc H a (Sl.of done) fp ∧ (∀ b ∈ fp, 1 ≤ b) ∧
          ∃ x : Nat → AV, t = [s.enc, .ptr 0 0, .sc .nils, a, x 4, x 5, x 6, .sc (.int .i64 m), .sc (.int .i64 c), slm Voice.enc q.voices, .sc (.int .i64 v), x 11, x 12, x 13, x 14, x 15, x 16, x 17, x 18, x 19, x 20, x 21, x 22, x 23, x 24, x 25, x 26, x 27, x 28, x 29, x 30, x 31, x 32, x 33, x 34, x 35, x 36, x 37, x 38, x 39, x 40, x 41, x 42, x 43, x 44, x 45, x 46, x 47, x 48, x 49, x 50, x 51, x 52, x 53, x 54, x 55, x 56, x 57, x 58, x 59, x 60, x 61, x 62, x 63, x 64, x 65, x 66, x 67, x 68, x 69, x 70, x 71, x 72, x 73, x 74, x 75, x 76, x 77, x 78, x 79, x 80, x 81, x 82, x 83, x 84, x 85, x 86, x 87, x 88, x 89, x 90, x 91, x 92, x 93, x 94, x 95, x 96, x 97, x 98, x 99, x 100, x 101, x 102, x 103, x 104, x 105, x 106, x 107, x 108, x 109, x 110, x 111, x 112, x 113, x 114, x 115, x 116, x 117, x 118, x 119, x 120, x 121, x 122, x 123, x 124, x 125, x 126, x 127, x 128, x 129, x 130, x 131, x 132, x 133, x 134, x 135, x 136, x 137, x 138, x 139, x 140, x 141, x 142, x 143, x 144, x 145, x 146, x 147, x 148, x 149, x 150, x 151, x 152, x 153, x 154]) (k := q.voices.l.length) ?_
          ⟨0, fp, done, _, by omega, hH0, by simpa using hd, hA, hfp, ex_x rfl⟩
        clear hA hH0 hd hfp x
        rintro k2 t H ⟨v, fp, done, a, hk2', hH0, hd, hA, hfp, x, rfl⟩
        simp only [s.enc_eq, c_agg] at hH0
        by_cases h5 : (v : Int) < (q.voices.l.length : Int)
        · obtain ⟨z, hz⟩ : ∃ z, q.voices.l[v]? = some z := ⟨_, List.getElem?_eq_getElem (by omega)⟩
          simp -implicitDefEqProofs (maxDischargeDepth := 12) only [WW,List.replicate,e_splice,if_true,if_false,ite_true,ite_false,true_or,ne_eq,seval,h_putc,beq_self_eq_true,eq_self,exists_eq_left,exists_eq_left', hH0, h5, hz, z.enc_eq]
          rw [drop_cons hz] at hd
          simp only [objVoices] at hd
          -- its events
          refine wp_loop (Inv := fun k t H => ∃ (e : Nat) (fp : List Nat) (done : List O) (a : AV), e + k = z.events.l.length ∧ H.cells 0 = some s.enc.cells ∧ done ++ (objEvents m c v e (z.events.l.drop e) ++ objVoices m c (v + 1) (q.voices.l.drop (v + 1)) ++ objCells m (c + 1) (y.cells.l.drop (c + 1)) ++ objMeasures (m + 1) (s.measures.l.drop (m + 1)) ++ objSpanners 0 s.spanners.l) = objs s ∧
            Acc 1 9 O.enc H a (Sl.of done) fp ∧ (∀ b ∈ fp, 1 ≤ b) ∧
            ∃ x : Nat → AV, t = [s.enc, .ptr 0 0, .sc .nils, a, x 4, x 5, x 6, .sc (.int .i64 m), .sc (.int .i64 c), slm Voice.enc q.voices, .sc (.int .i64 v), .sc (.int .i64 e), x 12, x 13, x 14, x 15, x 16, x 17, x 18, x 19, x 20, x 21, x 22, x 23, x 24, x 25, x 26, x 27, x 28, x 29, x 30, x 31, x 32, x 33, x 34, x 35, x 36, x 37, x 38, x 39, x 40, x 41, x 42, x 43, x 44, x 45, x 46, x 47, x 48, x 49, x 50, x 51, x 52, x 53, x 54, x 55, x 56, x 57, x 58, x 59, x 60, x 61, x 62, x 63, x 64, x 65, x 66, x 67, x 68, x 69, x 70, x 71, x 72, x 73, x 74, x 75, x 76, x 77, x 78, x 79, x 80, x 81, x 82, x 83, x 84, x 85, x 86, x 87, x 88, x 89, x 90, x 91, x 92, x 93, x 94, x 95, x 96, x 97, x 98, x 99, x 100, x 101, x 102, x 103, x 104, x 105, x 106, x 107, x 108, x 109, x 110, x 111, x 112, x 113, x 114, x 115, x 116, x 117, x 118, x 119, x 120, x 121, x 122, x 123, x 124, x 125, x 126, x 127, x 128, x 129, x 130, x 131, x 132, x 133, x 134, x 135, x 136, x 137, x 138, x 139, x 140, x 141, x 142, x 143, x 144, x 145, x 146, x 147, x 148, x 149, x 150, x 151, x 152, x 153, x 154]) (k := z.events.l.length) ?_
            ⟨0, fp, done, _, by omega, hH0, by simpa using hd, hA, hfp, ex_x rfl⟩
          clear hA hH0 hd hfp x
          rintro k3 t H ⟨e, fp, done, a, hk3, hH0, hd, hA, hfp, x, rfl⟩
          simp only [s.enc_eq, c_agg] at hH0
          by_cases h7 : (e : Int) < (z.events.l.length : Int)
          · obtain ⟨w, hw⟩ : ∃ w, z.events.l[e]? = some w := ⟨_, List.getElem?_eq_getElem (by omega)⟩
            simp -implicitDefEqProofs (maxDischargeDepth := 12) only [WW,List.replicate,e_splice,if_true,if_false,ite_true,ite_false,true_or,ne_eq,seval,h_putc,beq_self_eq_true,eq_self,exists_eq_left,exists_eq_left', hH0, h7, hz, hw, z.enc_eq, w.enc_eq]
            -- oEvent m c v e w: the list's fact, drop_cons hw, objEvents: what is added, $3: the element's fact
            refine wA_app2 row_O hA (by repeat (first | exact Keep.refl | refine Keep.put (by (try simp only [AHeap.next_alloc, AHeap.next_put]); omega) ?_ | refine Keep.alloc (by (try simp only [AHeap.next_alloc, AHeap.next_put]); omega) ?_)) (by simp) (ys := [oEvent m c v e w]) (by simp) rfl (asrc_new (by simp) rfl) (own_one (O.enc_plain _) rfl) Apart.nil_right ?_ ?_
            · rw [l_of]; have := len_pre hd; simp only [List.length_cons, List.length_nil]; omega
            intro v' H2 fp' hA' hn2 hk2 hfp2 ho2 hc2
            rw [of_snoc'] at hA'
            have g0 := (hk2 0 (fun h => by have := hfp 0 h; omega) (h_lt hH0)).trans hH0
            have hfp3 : ∀ b ∈ fp', 1 ≤ b := fun b hb => by
              rcases hfp2 b hb with h | h | h
              · exact hfp b h
              · simp at h
              · have := h_lt hH0; omega
            have hd' := hd
            rw [drop_cons hw, objEvents] at hd'
            try simp only [List.cons_append] at hd'
            rw [List.append_cons] at hd'
            have hb1 := hT3 _ _ _ _ _ _ hy hq hz
            have e5 : IntKind.i64.wrap ((e : Int) + 1) = ((e + 1 : Nat) : Int) := by rw [w64 (by omega) (by omega)]; omega
            simp -implicitDefEqProofs (maxDischargeDepth := 12) only [WW,List.replicate,e_splice,if_true,if_false,ite_true,ite_false,true_or,ne_eq,seval,h_putc,beq_self_eq_true,eq_self,exists_eq_left,exists_eq_left', e5]
            exact ⟨k3 - 1, by omega, e + 1, fp', _, v', by omega, g0, by simpa using hd', hA', hfp3, ex_x rfl⟩
          · have hb1 := hT2 _ _ _ _ hy hq
            have e5 : IntKind.i64.wrap ((v : Int) + 1) = ((v + 1 : Nat) : Int) := by rw [w64 (by omega) (by omega)]; omega
            simp -implicitDefEqProofs (maxDischargeDepth := 12) only [WW,List.replicate,e_splice,if_true,if_false,ite_true,ite_false,true_or,ne_eq,seval,h_putc,beq_self_eq_true,eq_self,exists_eq_left,exists_eq_left', h7, hz, z.enc_eq, e5]
            rw [drop_end h7] at hd
            simp only [objEvents, List.nil_append] at hd
            exact ⟨k2 - 1, by omega, v + 1, fp, done, a, by omega, hH0, hd, hA, hfp, ex_x rfl⟩
        · have hb1 := hT1 _ _ hy
          have e5 : IntKind.i64.wrap ((c : Int) + 1) = ((c + 1 : Nat) : Int) := by rw [w64 (by omega) (by omega)]; omega
          simp -implicitDefEqProofs (maxDischargeDepth := 12) only [WW,List.replicate,e_splice,if_true,if_false,ite_true,ite_false,true_or,ne_eq,seval,h_putc,beq_self_eq_true,eq_self,exists_eq_left,exists_eq_left', h5, e5]
          rw [drop_end h5] at hd
          simp only [objVoices, List.nil_append] at hd
          exact ⟨k' - 1, by omega, c + 1, fp, done, a, by omega, hH0, hd, hA, hfp, ex_x rfl⟩
      · simp -implicitDefEqProofs (maxDischargeDepth := 12) only [WW,List.replicate,e_splice,if_true,if_false,ite_true,ite_false,true_or,ne_eq,seval,h_putc,beq_self_eq_true,eq_self,exists_eq_left,exists_eq_left', hH0, h3, hy, y.enc_eq, e2]
        rw [drop_end h3] at hd
        simp only [objCells, List.nil_append] at hd
        exact ⟨k - 1, by omega, m + 1, fp, done, a, by omega, rfl, hd, hA, hfp, ex_x rfl⟩
    · simp -implicitDefEqProofs (maxDischargeDepth := 12) only [WW,List.replicate,e_splice,if_true,if_false,ite_true,ite_false,true_or,ne_eq,seval,h_putc,beq_self_eq_true,eq_self,exists_eq_left,exists_eq_left', hH0, h1]
      rw [drop_end h1] at hd
      simp only [objMeasures, List.nil_append] at hd
      -- the spanners
      refine wp_loop (Inv := fun k t H => ∃ (i : Nat) (fp : List Nat) (done : List O) (a : AV), i + k = s.spanners.l.length ∧ H.cells 0 = some s.enc.cells ∧ done ++ objSpanners i (s.spanners.l.drop i) = objs s ∧
        Acc 1 9 O.enc H a (Sl.of done) fp ∧ (∀ b ∈ fp, 1 ≤ b) ∧
        ∃ x : Nat → AV, t = [s.enc, .ptr 0 0, .sc .nils, a, x 4, x 5, x 6, x 7, x 8, x 9, x 10, x 11, .sc (.int .i64 i), x 13, x 14, x 15, x 16, x 17, x 18, x 19, x 20, x 21, x 22, x 23, x 24, x 25, x 26, x 27, x 28, x 29, x 30, x 31, x 32, x 33, x 34, x 35, x 36, x 37, x 38, x 39, x 40, x 41, x 42, x 43, x 44, x 45, x 46, x 47, x 48, x 49, x 50, x 51, x 52, x 53, x 54, x 55, x 56, x 57, x 58, x 59, x 60, x 61, x 62, x 63, x 64, x 65, x 66, x 67, x 68, x 69, x 70, x 71, x 72, x 73, x 74, x 75, x 76, x 77, x 78, x 79, x 80, x 81, x 82, x 83, x 84, x 85, x 86, x 87, x 88, x 89, x 90, x 91, x 92, x 93, x 94, x 95, x 96, x 97, x 98, x 99, x 100, x 101, x 102, x 103, x 104, x 105, x 106, x 107, x 108, x 109, x 110, x 111, x 112, x 113, x 114, x 115, x 116, x 117, x 118, x 119, x 120, x 121, x 122, x 123, x 124, x 125, x 126, x 127, x 128, x 129, x 130, x 131, x 132, x 133, x 134, x 135, x 136, x 137, x 138, x 139, x 140, x 141, x 142, x 143, x 144, x 145, x 146, x 147, x 148, x 149, x 150, x 151, x 152, x 153, x 154]) (k := s.spanners.l.length) ?_
        ⟨0, fp, done, _, by omega, hH0, by simpa using hd, hA, hfp, ex_x rfl⟩
      clear hA hH0 hd hfp x
      rintro k t H ⟨i, fp, done, a, hk, hH0, hd, hA, hfp, x, rfl⟩
      simp only [s.enc_eq, c_agg] at hH0
      by_cases h1 : (i : Int) < (s.spanners.l.length : Int)
      · obtain ⟨y, hy⟩ : ∃ y, s.spanners.l[i]? = some y := ⟨_, List.getElem?_eq_getElem (by omega)⟩
        have e2 : IntKind.i64.wrap ((i : Int) + 1) = ((i + 1 : Nat) : Int) := by rw [w64 (by omega) (by omega)]; omega
        simp -implicitDefEqProofs (maxDischargeDepth := 12) only [WW,List.replicate,e_splice,if_true,if_false,ite_true,ite_false,true_or,ne_eq,seval,h_putc,beq_self_eq_true,eq_self,exists_eq_left,exists_eq_left', hH0, h1, hy, y.enc_eq]
        -- oSpanner i y: the list's fact, drop_cons hy, objSpanners: what is added, $3: the element's fact
        refine wA_app2 row_O hA (by repeat (first | exact Keep.refl | refine Keep.put (by (try simp only [AHeap.next_alloc, AHeap.next_put]); omega) ?_ | refine Keep.alloc (by (try simp only [AHeap.next_alloc, AHeap.next_put]); omega) ?_)) (by simp) (ys := [oSpanner i y]) (by simp) rfl (asrc_new (by simp) rfl) (own_one (O.enc_plain _) rfl) Apart.nil_right ?_ ?_
        · rw [l_of]; have := len_pre hd; simp only [List.length_cons, List.length_nil]; omega
        intro v' H2 fp' hA' hn2 hk2 hfp2 ho2 hc2
        rw [of_snoc'] at hA'
        have g0 := (hk2 0 (fun h => by have := hfp 0 h; omega) (h_lt hH0)).trans hH0
        have hfp3 : ∀ b ∈ fp', 1 ≤ b := fun b hb => by
          rcases hfp2 b hb with h | h | h
          · exact hfp b h
          · simp at h
          · have := h_lt hH0; omega
        have hd' := hd
        rw [drop_cons hy, objSpanners] at hd'
        try simp only [List.cons_append] at hd'
        rw [List.append_cons] at hd'
        simp -implicitDefEqProofs (maxDischargeDepth := 12) only [WW,List.replicate,e_splice,if_true,if_false,ite_true,ite_false,true_or,ne_eq,seval,h_putc,beq_self_eq_true,eq_self,exists_eq_left,exists_eq_left', e2]
        exact ⟨k - 1, by omega, i + 1, fp', _, v', by omega, g0, by simpa using hd', hA', hfp3, ex_x rfl⟩
      · simp -implicitDefEqProofs (maxDischargeDepth := 12) only [WW,List.replicate,e_splice,if_true,if_false,ite_true,ite_false,true_or,ne_eq,seval,h_putc,beq_self_eq_true,eq_self,exists_eq_left,exists_eq_left', hH0, h1]
        rw [drop_end h1] at hd
        simp only [objSpanners, List.append_nil] at hd
        rw [hd] at hA
        exact hA.frz row_O (by omega)
end Go.Hem
/- Walks: the reference's Find. -/
set_option maxRecDepth 10000
set_option maxHeartbeats 4000000
set_option linter.unusedSimpArgs false
set_option linter.unusedVariables false
namespace Go.Hem
variable {pol : Pol}
def ID.zero : ID := ⟨0, 0⟩
def Place.zero : Place := ⟨0, 0, 0, 0, 0, 0, 0⟩
theorem id_eq {a b : ID} : (decide (a.site = b.site) && decide (a.number = b.number)) = decide (a = b) := by
  cases a; cases b; simp only [ID.mk.injEq, Bool.decide_and]
theorem id_zero {a : ID} : (decide (a.site = 0) && decide (a.number = 0)) = decide (a = ID.zero) := id_eq (b := ID.zero)
end Go.Hem
/- Walks: the reference's isEvent and Prune. -/
set_option maxRecDepth 10000
set_option maxHeartbeats 4000000
set_option linter.unusedSimpArgs false
set_option linter.unusedVariables false
namespace Go.Hem
variable {pol : Pol}
theorem row_Spanner : RowOf 7 Spanner.enc := ⟨by decide, fun _ => ⟨rfl, rfl⟩⟩
end Go.Hem
/- Walks: the reference's counts of staves. -/
set_option maxRecDepth 10000
set_option linter.unusedSimpArgs false
set_option linter.unusedVariables false
namespace Go.Hem
variable {pol : Pol}

end Go.Hem
/- Walks: the part of a staff. -/
set_option maxRecDepth 10000
set_option linter.unusedSimpArgs false
set_option linter.unusedVariables false
namespace Go.Hem
variable {pol : Pol}

end Go.Hem
/- Walks: score.PartOf. -/
set_option maxRecDepth 10000
set_option linter.unusedSimpArgs false
set_option linter.unusedVariables false
namespace Go.Hem
variable {pol : Pol}
end Go.Hem
/- Walks: shortPart. -/
set_option maxRecDepth 10000
set_option linter.unusedSimpArgs false
set_option linter.unusedVariables false
namespace Go.Hem
variable {pol : Pol}
theorem min_cast (n m : Nat) : (if (m : Int) < (n : Int) then (m : Int) else (n : Int)) = ((min n m : Nat) : Int) := by split <;> omega
theorem min20 (n : Nat) : (if (20 : Int) < (n : Int) then (20 : Int) else (n : Int)) = ((min n 20 : Nat) : Int) := min_cast n 20
theorem min3 (n : Nat) : (if (3 : Int) < (n : Int) then (3 : Int) else (n : Int)) = ((min n 3 : Nat) : Int) := min_cast n 3
theorem slm_take {α : Type} {f : α → AV} {s : Sl α} {n : Nat} : slm f (s.map fun x => x.take (min s.l.length n)) = slm f (s.map (·.take n)) := by
  cases s with
  | none => rfl
  | some l =>
    have e : l.take (min l.length n) = l.take n := by rw [List.take_eq_take_iff]; omega
    simp only [Option.map_some, l_some, e]
def Part.short (p : Part) : Part := { p with name := p.name.extract 0 (min p.name.size 20), staves := p.staves.map (·.take 3) }
theorem shortPart_pv (p : Part) : Pv prog pol 58 [p.enc] p.short.enc := by
  refine Pv_of' ok58 (by simp [AV.closedBs, Part.enc_closed]) ?_
  simp -implicitDefEqProofs (maxDischargeDepth := 12) only [wpF, cf58, WW,List.replicate,e_splice,if_true,if_false,ite_true,ite_false,true_or,ne_eq,seval,h_putc,beq_self_eq_true,eq_self,exists_eq_left,exists_eq_left', p.enc_eq, min20, min3, e_cutm Staff.enc_len, Nat.min_le_left, slm_take]
  exact frz_plain rfl (Part.enc_plain _)
end Go.Hem
/- Walks: shortLyrics. -/
set_option maxRecDepth 10000
set_option linter.unusedSimpArgs false
set_option linter.unusedVariables false
namespace Go.Hem
variable {pol : Pol}
theorem of_snoc {α : Type} {l : List α} {y : α} : (some (Sl.l (Sl.of l) ++ [y]) : Sl α) = Sl.of (l ++ [y]) := by
  rw [l_of]; unfold Sl.of; cases l <;> rfl
theorem take_snoc {α : Type} {l : List α} {i : Nat} {y : α} (h : l[i]? = some y) : l.take (i + 1) = l.take i ++ [y] := by
  simp [List.take_add_one, h]
def Syllable.short (x : Syllable) : Syllable := { x with text := x.text.extract 0 (min x.text.size 260) }
def shortLyrics (s : Sl Syllable) : Sl Syllable := Sl.of ((s.l.take 6).map Syllable.short)
theorem row_Syllable : RowOf 2 Syllable.enc := ⟨by decide, fun _ => ⟨rfl, rfl⟩⟩
theorem min260 (n : Nat) : (if (260 : Int) < (n : Int) then (260 : Int) else (n : Int)) = ((min n 260 : Nat) : Int) := min_cast n 260
theorem shortLyrics_pv (s : Sl Syllable) : Pv prog pol 96 [slm Syllable.enc s] (slm Syllable.enc (shortLyrics s)) := by
  refine Pv_of' ok96 (by simp only [AV.closedBs, closedB_slm Syllable.enc_closed, Bool.and_self]) ?_
  simp -implicitDefEqProofs (maxDischargeDepth := 12) only [wpF, cf96, WW,List.replicate,e_splice,if_true,if_false,ite_true,ite_false,true_or,ne_eq,seval,h_putc,beq_self_eq_true,eq_self,exists_eq_left,exists_eq_left']
  refine wp_loop (Inv := fun k t H => ∃ (i : Nat) (fp : List Nat) (a : AV), i + k = 6 ∧ i ≤ s.l.length ∧
    Acc 1 2 Syllable.enc H a (Sl.of ((s.l.take i).map Syllable.short)) fp ∧ ∃ x : Nat → AV, t = [slm Syllable.enc s, .sc .undef, .sc .nils, a, .sc (.int .i64 i), x 5, x 6, x 7, x 8, x 9, x 10, x 11, x 12, x 13, x 14, x 15, x 16, x 17, x 18, x 19, x 20, x 21, x 22, x 23, x 24, x 25, x 26, x 27, x 28, x 29, x 30, x 31, .sc .undef]) (k := 6) ?_
    ⟨0, [], _, rfl, Nat.zero_le _, acc_none, ex_x rfl⟩
  rintro k t H ⟨i, fp, a, hk, hi, hA, x, rfl⟩
  by_cases h1 : (i : Int) < (s.l.length : Int)
  · by_cases h2 : (i : Int) < 6
    · obtain ⟨y, hy⟩ : ∃ y, s.l[i]? = some y := ⟨_, List.getElem?_eq_getElem (by omega)⟩
      have e2 : IntKind.i64.wrap ((i : Int) + 1) = ((i + 1 : Nat) : Int) := by rw [w64 (by omega) (by omega)]; omega
      simp -implicitDefEqProofs (maxDischargeDepth := 12) only [WW,List.replicate,e_splice,if_true,if_false,ite_true,ite_false,true_or,ne_eq,seval,h_putc,beq_self_eq_true,eq_self,exists_eq_left,exists_eq_left', h1, h2, hy, y.enc_eq, min260, Nat.min_le_left]
      refine wA_app row_Syllable (hA.keep (by repeat (first | exact Keep.refl | refine Keep.put (by (try simp only [AHeap.next_alloc, AHeap.next_put]); omega) ?_ | refine Keep.alloc (by (try simp only [AHeap.next_alloc, AHeap.next_put]); omega) ?_))) (ys := [y.short]) (by simp) rfl (asrc_new (by simp) rfl) (own_one (Syllable.enc_plain y.short) y.short.enc_eq) Apart.nil_right ?_ ?_
      · rw [l_of]; simp only [List.length_map, List.length_take, List.length_cons, List.length_nil]; omega
      intro v' H' fp' hA' hn hk hfp
      rw [of_snoc, ← List.map_singleton, ← List.map_append, ← take_snoc hy] at hA'
      simp -implicitDefEqProofs (maxDischargeDepth := 12) only [WW,List.replicate,e_splice,if_true,if_false,ite_true,ite_false,true_or,ne_eq,seval,h_putc,beq_self_eq_true,eq_self,exists_eq_left,exists_eq_left', e2]
      exact ⟨k - 1, by omega, i + 1, _, _, by omega, by omega, hA', ex_x rfl⟩
    · simp -implicitDefEqProofs (maxDischargeDepth := 12) only [WW,List.replicate,e_splice,if_true,if_false,ite_true,ite_false,true_or,ne_eq,seval,h_putc,beq_self_eq_true,eq_self,exists_eq_left,exists_eq_left', h1, h2]
      have e : (s.l.take i) = s.l.take 6 := by rw [show i = 6 by omega]
      rw [e] at hA
      exact hA.frz row_Syllable (by omega)
  · simp -implicitDefEqProofs (maxDischargeDepth := 12) only [WW,List.replicate,e_splice,if_true,if_false,ite_true,ite_false,true_or,ne_eq,seval,h_putc,beq_self_eq_true,eq_self,exists_eq_left,exists_eq_left', h1]
    have e : (s.l.take i) = s.l.take 6 := by rw [List.take_of_length_le (by omega), List.take_of_length_le (by omega)]
    rw [e] at hA
    exact hA.frz row_Syllable (by omega)
end Go.Hem
/- Walks: L11.Short. -/
set_option maxRecDepth 10000
set_option linter.unusedSimpArgs false
set_option linter.unusedVariables false
namespace Go.Hem
variable {pol : Pol}
theorem min12 (n : Nat) : (if (12 : Int) < (n : Int) then (12 : Int) else (n : Int)) = ((min n 12 : Nat) : Int) := min_cast n 12
theorem min6 (n : Nat) : (if (6 : Int) < (n : Int) then (6 : Int) else (n : Int)) = ((min n 6 : Nat) : Int) := min_cast n 6
theorem min4 (n : Nat) : (if (4 : Int) < (n : Int) then (4 : Int) else (n : Int)) = ((min n 4 : Nat) : Int) := min_cast n 4
def Event.short (e : Event) : Event := { e with heads := e.heads.map (·.take 12), graces := e.graces.map (·.take 12), lyrics := shortLyrics e.lyrics }
theorem shortEvent_pv (hp : pol.pure 96 = true) (e : Event) : Pv prog pol 46 [e.enc] e.short.enc := by
  refine Pv_of' ok46 (by simp only [AV.closedBs, Event.enc_closed, Bool.and_self]) ?_
  simp -implicitDefEqProofs (maxDischargeDepth := 12) only [wpF, cf46, WW,List.replicate,e_splice,if_true,if_false,ite_true,ite_false,true_or,ne_eq,seval,h_putc,beq_self_eq_true,eq_self,exists_eq_left,exists_eq_left', e.enc_eq, min12, e_cutm Head.enc_len, e_cutm Grace.enc_len, Nat.min_le_left, slm_take]
  refine wA_pure hp (shortLyrics_pv e.lyrics) ?_
  simp -implicitDefEqProofs (maxDischargeDepth := 12) only [WW,List.replicate,e_splice,if_true,if_false,ite_true,ite_false,true_or,ne_eq,seval,h_putc,beq_self_eq_true,eq_self,exists_eq_left,exists_eq_left']
  exact frz_plain rfl (Event.enc_plain _)
end Go.Hem
/- Walks: shortCell. -/
set_option maxRecDepth 10000
set_option linter.unusedSimpArgs false
set_option linter.unusedVariables false
namespace Go.Hem
variable {pol : Pol}
def Voice.short (v : Voice) : Voice := { events := Sl.of ((v.events.l.take 5).map Event.short), tuplets := v.tuplets.map (·.take 3) }
def Cell.short (c : Cell) : Cell := { clefs := c.clefs.map (·.take 3), voices := Sl.of ((c.voices.l.take 3).map Voice.short) }
theorem row_Event : RowOf 13 Event.enc := ⟨by decide, fun _ => ⟨rfl, rfl⟩⟩
theorem row_Voice : RowOf 2 Voice.enc := ⟨by decide, fun _ => ⟨rfl, rfl⟩⟩
theorem row_Cell : RowOf 2 Cell.enc := ⟨by decide, fun _ => ⟨rfl, rfl⟩⟩
theorem row_Measure : RowOf 22 Measure.enc := ⟨by decide, fun _ => ⟨rfl, rfl⟩⟩
theorem row_Part : RowOf 6 Part.enc := ⟨by decide, fun _ => ⟨rfl, rfl⟩⟩
theorem shortCell_pv (hp : pol.pure 46 = true) (hp2 : pol.pure 96 = true) (c : Cell) : Pv prog pol 59 [c.enc] c.short.enc := by
  refine Pv_of' ok59 (by simp only [AV.closedBs, Cell.enc_closed, Bool.and_self]) ?_
  simp -implicitDefEqProofs (maxDischargeDepth := 12) only [wpF, cf59, WW,List.replicate,e_splice,if_true,if_false,ite_true,ite_false,true_or,ne_eq,seval,h_putc,beq_self_eq_true,eq_self,exists_eq_left,exists_eq_left', c.enc_eq, min3, e_cutm ClefChange.enc_len, Nat.min_le_left, slm_take]
  refine wp_loop (Inv := fun k t H => ∃ (i : Nat) (fp : List Nat) (a : AV), i + k = 3 ∧ i ≤ c.voices.l.length ∧ H.cells 0 = some [slm ClefChange.enc c.clefs, slm Voice.enc c.voices] ∧ H.cells 1 = some [.sc .nils, .sc .nils] ∧
    H.cells 2 = some [slm ClefChange.enc c.short.clefs, a] ∧ Acc 3 2 Voice.enc H a (Sl.of ((c.voices.l.take i).map Voice.short)) fp ∧ (∀ b ∈ fp, 3 ≤ b) ∧
    ∃ x : Nat → AV, t = [.agg [slm ClefChange.enc c.clefs, slm Voice.enc c.voices], .ptr 0 0, .ptr 1 0, .ptr 2 0, .sc (.int .i64 i), x 5, x 6, x 7, x 8, x 9, x 10, x 11, x 12, x 13, x 14, x 15, x 16, x 17, x 18, x 19, x 20, x 21, x 22, x 23, x 24, x 25, x 26, x 27, x 28, x 29, x 30, x 31, x 32, x 33, x 34, x 35, x 36, x 37, x 38, x 39, x 40, x 41, x 42, x 43, x 44, x 45, x 46, x 47, x 48, x 49, x 50, x 51, x 52, x 53, x 54, x 55, x 56, x 57, x 58, x 59, x 60, x 61, x 62, x 63, x 64, x 65, x 66, x 67, x 68, x 69, x 70, x 71, x 72, x 73, x 74, x 75, x 76, x 77, .sc .undef]) (k := 3) ?_
    ⟨0, [], _, rfl, Nat.zero_le _, ?_, ?_, ?_, acc_none, by simp, ex_x rfl⟩
  rotate_left
  · simp -implicitDefEqProofs (maxDischargeDepth := 12) only [WW,List.replicate,e_splice,if_true,if_false,ite_true,ite_false,true_or,ne_eq,seval,h_putc,beq_self_eq_true,eq_self,exists_eq_left,exists_eq_left']
  · simp -implicitDefEqProofs (maxDischargeDepth := 12) only [WW,List.replicate,e_splice,if_true,if_false,ite_true,ite_false,true_or,ne_eq,seval,h_putc,beq_self_eq_true,eq_self,exists_eq_left,exists_eq_left']
  · simp -implicitDefEqProofs (maxDischargeDepth := 12) only [WW,List.replicate,e_splice,if_true,if_false,ite_true,ite_false,true_or,ne_eq,seval,h_putc,beq_self_eq_true,eq_self,exists_eq_left,exists_eq_left']; rfl
  rintro k t H ⟨i, fp, a, hk, hi, hH0, hH1, hH2, hA, hfp, x, rfl⟩
  by_cases h1 : (i : Int) < (c.voices.l.length : Int)
  · by_cases h2 : (i : Int) < 3
    · obtain ⟨y, hy⟩ : ∃ y, c.voices.l[i]? = some y := ⟨_, List.getElem?_eq_getElem (by omega)⟩
      have e2 : IntKind.i64.wrap ((i : Int) + 1) = ((i + 1 : Nat) : Int) := by rw [w64 (by omega) (by omega)]; omega
      simp -implicitDefEqProofs (maxDischargeDepth := 12) only [WW,List.replicate,e_splice,if_true,if_false,ite_true,ite_false,true_or,ne_eq,seval,h_putc,beq_self_eq_true,eq_self,exists_eq_left,exists_eq_left', hH0, h1, h2, hy, y.enc_eq, min3, e_cutm Tuplet.enc_len, Nat.min_le_left, slm_take]
      have e0 := hA.lts
      refine wp_loop (Inv := fun k' t H' => ∃ (j : Nat) (fq : List Nat) (ev : AV), j + k' = 5 ∧ j ≤ y.events.l.length ∧ H'.cells 0 = some [slm ClefChange.enc c.clefs, slm Voice.enc c.voices] ∧ H'.cells 1 = some [.sc .nils, .sc .nils] ∧
        H'.cells 2 = some [slm ClefChange.enc c.short.clefs, a] ∧ Acc 3 2 Voice.enc H' a (Sl.of ((c.voices.l.take i).map Voice.short)) fp ∧ H.next < H'.next ∧ H'.cells H.next = some [ev, slm Tuplet.enc y.short.tuplets] ∧
        Acc 2 13 Event.enc H' ev (Sl.of ((y.events.l.take j).map Event.short)) fq ∧ (∀ b ∈ fq, H.next < b) ∧
        ∃ x : Nat → AV, t = [.agg [slm ClefChange.enc c.clefs, slm Voice.enc c.voices], .ptr 0 0, .ptr 1 0, .ptr 2 0, .sc (.int .i64 i), .ptr H.next 0, .sc (.int .i64 j), x 7, x 8, x 9, x 10, x 11, x 12, x 13, x 14, x 15, x 16, x 17, x 18, x 19, x 20, x 21, x 22, x 23, x 24, x 25, x 26, x 27, x 28, x 29, x 30, x 31, x 32, x 33, x 34, x 35, x 36, x 37, x 38, x 39, x 40, x 41, x 42, x 43, x 44, x 45, x 46, x 47, x 48, x 49, x 50, x 51, x 52, x 53, x 54, x 55, x 56, x 57, x 58, x 59, x 60, x 61, x 62, x 63, x 64, x 65, x 66, x 67, x 68, x 69, x 70, x 71, x 72, x 73, x 74, x 75, x 76, x 77, .sc .undef]) (k := 5) ?_
        ⟨0, [], _, rfl, Nat.zero_le _, ?_, ?_, ?_, hA.keep (by repeat (first | exact Keep.refl | refine Keep.put (by (try simp only [AHeap.next_alloc, AHeap.next_put]); omega) ?_ | refine Keep.alloc (by (try simp only [AHeap.next_alloc, AHeap.next_put]); omega) ?_)), ?_, ?_, acc_none, by simp, ex_x rfl⟩
      rotate_left
      · have := h_lt hH0
        simp -implicitDefEqProofs (maxDischargeDepth := 12) only [WW,List.replicate,e_splice,if_true,if_false,ite_true,ite_false,true_or,ne_eq,seval,h_putc,beq_self_eq_true,eq_self,exists_eq_left,exists_eq_left', hH0, show ¬ 0 = H.next by omega]
      · have := h_lt hH1
        simp -implicitDefEqProofs (maxDischargeDepth := 12) only [WW,List.replicate,e_splice,if_true,if_false,ite_true,ite_false,true_or,ne_eq,seval,h_putc,beq_self_eq_true,eq_self,exists_eq_left,exists_eq_left', hH1, show ¬ 1 = H.next by omega]
      · have := h_lt hH2
        simp -implicitDefEqProofs (maxDischargeDepth := 12) only [WW,List.replicate,e_splice,if_true,if_false,ite_true,ite_false,true_or,ne_eq,seval,h_putc,beq_self_eq_true,eq_self,exists_eq_left,exists_eq_left', hH2, show ¬ 2 = H.next by omega]
      · simp
      · simp -implicitDefEqProofs (maxDischargeDepth := 12) only [WW,List.replicate,e_splice,if_true,if_false,ite_true,ite_false,true_or,ne_eq,seval,h_putc,beq_self_eq_true,eq_self,exists_eq_left,exists_eq_left']; rfl
      have l2 := h_lt hH2
      clear hH0 hH1 hH2 hA x
      rintro k' t H' ⟨j, fq, ev, hk', hj, hH0, hH1, hH2, hA, hn, hbv, hE, hfq, x, rfl⟩
      by_cases h3 : (j : Int) < (y.events.l.length : Int)
      · by_cases h4 : (j : Int) < 5
        · obtain ⟨z, hz⟩ : ∃ z, y.events.l[j]? = some z := ⟨_, List.getElem?_eq_getElem (by omega)⟩
          have e3 : IntKind.i64.wrap ((j : Int) + 1) = ((j + 1 : Nat) : Int) := by rw [w64 (by omega) (by omega)]; omega
          simp -implicitDefEqProofs (maxDischargeDepth := 12) only [WW,List.replicate,e_splice,if_true,if_false,ite_true,ite_false,true_or,ne_eq,seval,h_putc,beq_self_eq_true,eq_self,exists_eq_left,exists_eq_left', hH0, hH1, hH2, hbv, h3, h4, hy, hz, y.enc_eq, z.enc_eq]
          refine wA_pure hp (shortEvent_pv hp2 z) ?_
          simp -implicitDefEqProofs (maxDischargeDepth := 12) only [WW,List.replicate,e_splice,if_true,if_false,ite_true,ite_false,true_or,ne_eq,seval,h_putc,beq_self_eq_true,eq_self,exists_eq_left,exists_eq_left', z.short.enc_eq]
          refine wA_app2 row_Event hE (by repeat (first | exact Keep.refl | refine Keep.put (by (try simp only [AHeap.next_alloc, AHeap.next_put]); omega) ?_ | refine Keep.alloc (by (try simp only [AHeap.next_alloc, AHeap.next_put]); omega) ?_)) (by simp) (ys := [z.short]) (by simp) rfl (asrc_new (by simp) rfl) (own_one (Event.enc_plain z.short) z.short.enc_eq) Apart.nil_right ?_ ?_
          · rw [l_of]; simp only [List.length_map, List.length_take, List.length_cons, List.length_nil]; omega
          intro v' H2 fp' hA' hn2 hk2 hfp2 ho2 hc2
          rw [of_snoc, ← List.map_singleton, ← List.map_append, ← take_snoc hz] at hA'
          have g0 := (hk2 0 (fun h => by have := hfq 0 h; omega) (by omega)).trans hH0
          have g1 := (hk2 1 (fun h => by have := hfq 1 h; omega) (by omega)).trans hH1
          have g2 := (hk2 2 (fun h => by have := hfq 2 h; omega) (by omega)).trans hH2
          have gb := (hk2 H.next (fun h => by have := hfq _ h; omega) (by omega)).trans hbv
          have hfp3 : ∀ b ∈ fp', H.next < b := fun b hb => by
            rcases hfp2 b hb with h | h | h
            · exact hfq b h
            · simp at h
            · omega
          simp -implicitDefEqProofs (maxDischargeDepth := 12) only [WW,List.replicate,e_splice,if_true,if_false,ite_true,ite_false,true_or,ne_eq,seval,h_putc,beq_self_eq_true,eq_self,exists_eq_left,exists_eq_left', e3, g0, g1, g2, gb, ho2, hc2, show ¬ 0 = H.next by omega, show ¬ 1 = H.next by omega, show ¬ 2 = H.next by omega]
          refine ⟨k' - 1, by omega, j + 1, fp', v', by omega, by omega, ?_, by omega, rfl, hA'.fr fun b hb => h_put_ne (by have := hfp3 b hb; omega), hfp3, ex_x rfl⟩
          exact hA.fr fun b hb => by
              have := e0 b hb
              rw [h_put_ne (by omega), hk2 b (fun h => by have := hfq b h; omega) (by omega)]
        · simp -implicitDefEqProofs (maxDischargeDepth := 12) only [WW,List.replicate,e_splice,if_true,if_false,ite_true,ite_false,true_or,ne_eq,seval,h_putc,beq_self_eq_true,eq_self,exists_eq_left,exists_eq_left', hH0, hH1, hH2, hbv, h3, h4, hy, y.enc_eq, hE.one]
          have hj5 : y.events.l.take j = y.events.l.take 5 := by rw [List.take_eq_take_iff]; omega
          rw [hj5] at hE
          obtain ⟨fq', hOE, hq'⟩ := hE.own row_Event
          refine wA_app2 row_Voice hA (by repeat (first | exact Keep.refl | refine Keep.put (by (try simp only [AHeap.next_alloc, AHeap.next_put]); omega) ?_ | refine Keep.alloc (by (try simp only [AHeap.next_alloc, AHeap.next_put]); omega) ?_)) (by simp) (ys := [y.short]) (by simp) rfl (asrc_new (by simp) rfl) (.cons (hOE.keep (by repeat (first | exact Keep.refl | refine Keep.put (by (try simp only [AHeap.next_alloc, AHeap.next_put]); omega) ?_ | refine Keep.alloc (by (try simp only [AHeap.next_alloc, AHeap.next_put]); omega) ?_))) (OwnL.single (Own.plain (plain1_slm Tuplet.enc_closed))) Apart.nil_right) ?_ ?_ ?_
          · intro b hb hb2
            have := e0 b hb
            rcases List.mem_append.1 hb2 with h | h
            · have := hfq b (hq' b h); omega
            · simp at h
          · rw [l_of]; simp only [List.length_map, List.length_take, List.length_cons, List.length_nil]; omega
          intro v' H2 fp' hA' hn2 hk2 hfp2 ho2 hc2
          rw [of_snoc, ← List.map_singleton, ← List.map_append, ← take_snoc hy] at hA'
          have g0 := (hk2 0 (fun h => by have := hfp 0 h; omega) (by omega)).trans hH0
          have g1 := (hk2 1 (fun h => by have := hfp 1 h; omega) (by omega)).trans hH1
          have g2 := (hk2 2 (fun h => by have := hfp 2 h; omega) (by omega)).trans hH2
          have hfp3 : ∀ b ∈ fp', 3 ≤ b := fun b hb => by
            rcases hfp2 b hb with h | h | h
            · exact hfp b h
            · rcases List.mem_append.1 h with h | h
              · have := hfq b (hq' b h); omega
              · simp at h
            · omega
          simp -implicitDefEqProofs (maxDischargeDepth := 12) only [WW,List.replicate,e_splice,if_true,if_false,ite_true,ite_false,true_or,ne_eq,seval,h_putc,beq_self_eq_true,eq_self,exists_eq_left,exists_eq_left', e2, g0, g1, g2, ho2, hc2]
          exact ⟨k - 1, by omega, i + 1, fp', v', by omega, by omega, rfl, hA'.fr fun b hb => h_put_ne (by have := hfp3 b hb; omega), hfp3, ex_x rfl⟩
      · simp -implicitDefEqProofs (maxDischargeDepth := 12) only [WW,List.replicate,e_splice,if_true,if_false,ite_true,ite_false,true_or,ne_eq,seval,h_putc,beq_self_eq_true,eq_self,exists_eq_left,exists_eq_left', hH0, hH1, hH2, hbv, h3, hy, y.enc_eq, hE.one]
        have hj5 : y.events.l.take j = y.events.l.take 5 := by rw [List.take_eq_take_iff]; omega
        rw [hj5] at hE
        obtain ⟨fq', hOE, hq'⟩ := hE.own row_Event
        refine wA_app2 row_Voice hA (by repeat (first | exact Keep.refl | refine Keep.put (by (try simp only [AHeap.next_alloc, AHeap.next_put]); omega) ?_ | refine Keep.alloc (by (try simp only [AHeap.next_alloc, AHeap.next_put]); omega) ?_)) (by simp) (ys := [y.short]) (by simp) rfl (asrc_new (by simp) rfl) (.cons (hOE.keep (by repeat (first | exact Keep.refl | refine Keep.put (by (try simp only [AHeap.next_alloc, AHeap.next_put]); omega) ?_ | refine Keep.alloc (by (try simp only [AHeap.next_alloc, AHeap.next_put]); omega) ?_))) (OwnL.single (Own.plain (plain1_slm Tuplet.enc_closed))) Apart.nil_right) ?_ ?_ ?_
        · intro b hb hb2
          have := e0 b hb
          rcases List.mem_append.1 hb2 with h | h
          · have := hfq b (hq' b h); omega
          · simp at h
        · rw [l_of]; simp only [List.length_map, List.length_take, List.length_cons, List.length_nil]; omega
        intro v' H2 fp' hA' hn2 hk2 hfp2 ho2 hc2
        rw [of_snoc, ← List.map_singleton, ← List.map_append, ← take_snoc hy] at hA'
        have g0 := (hk2 0 (fun h => by have := hfp 0 h; omega) (by omega)).trans hH0
        have g1 := (hk2 1 (fun h => by have := hfp 1 h; omega) (by omega)).trans hH1
        have g2 := (hk2 2 (fun h => by have := hfp 2 h; omega) (by omega)).trans hH2
        have hfp3 : ∀ b ∈ fp', 3 ≤ b := fun b hb => by
          rcases hfp2 b hb with h | h | h
          · exact hfp b h
          · rcases List.mem_append.1 h with h | h
            · have := hfq b (hq' b h); omega
            · simp at h
          · omega
        simp -implicitDefEqProofs (maxDischargeDepth := 12) only [WW,List.replicate,e_splice,if_true,if_false,ite_true,ite_false,true_or,ne_eq,seval,h_putc,beq_self_eq_true,eq_self,exists_eq_left,exists_eq_left', e2, g0, g1, g2, ho2, hc2]
        exact ⟨k - 1, by omega, i + 1, fp', v', by omega, by omega, rfl, hA'.fr fun b hb => h_put_ne (by have := hfp3 b hb; omega), hfp3, ex_x rfl⟩
    · simp -implicitDefEqProofs (maxDischargeDepth := 12) only [WW,List.replicate,e_splice,if_true,if_false,ite_true,ite_false,true_or,ne_eq,seval,h_putc,beq_self_eq_true,eq_self,exists_eq_left,exists_eq_left', hH0, hH1, hH2, h1, h2, hA.one]
      have hi3 : c.voices.l.take i = c.voices.l.take 3 := by rw [List.take_eq_take_iff]; omega
      rw [hi3] at hA
      obtain ⟨fq2, hO, hq2⟩ := hA.own row_Voice
      exact Own.frz (d := 5) ⟨_, rfl, .cons (Own.plain (plain1_slm ClefChange.enc_closed)) (OwnL.single (hO.frame fun b hb => h_put_ne (by have := hfp b (hq2 b hb); omega))) Apart.nil_left⟩ (by omega)
  · simp -implicitDefEqProofs (maxDischargeDepth := 12) only [WW,List.replicate,e_splice,if_true,if_false,ite_true,ite_false,true_or,ne_eq,seval,h_putc,beq_self_eq_true,eq_self,exists_eq_left,exists_eq_left', hH0, hH1, hH2, h1, hA.one]
    have hi3 : c.voices.l.take i = c.voices.l.take 3 := by rw [List.take_eq_take_iff]; omega
    rw [hi3] at hA
    obtain ⟨fq2, hO, hq2⟩ := hA.own row_Voice
    exact Own.frz (d := 5) ⟨_, rfl, .cons (Own.plain (plain1_slm ClefChange.enc_closed)) (OwnL.single (hO.frame fun b hb => h_put_ne (by have := hfp b (hq2 b hb); omega))) Apart.nil_left⟩ (by omega)
end Go.Hem
/- Walks: shortMeasure. -/
set_option maxRecDepth 10000
set_option linter.unusedSimpArgs false
set_option linter.unusedVariables false
namespace Go.Hem
variable {pol : Pol}
def Measure.short (m : Measure) : Measure := { m with rehearsal := m.rehearsal.extract 0 (min m.rehearsal.size 20), tempi := m.tempi.map (·.take 3), cells := Sl.of ((m.cells.l.take 6).map Cell.short) }
def Measure.cells0 (m : Measure) (a : AV) : List AV := [.sc (.int .i64 m.id.site), .sc (.int .i64 m.id.number), .sc (.int .i64 m.metre.count), .sc (.int .i64 m.metre.unit), .sc (.int .i64 m.metre.g0), .sc (.int .i64 m.metre.g1), .sc (.int .i64 m.metre.g2), .sc (.int .i64 m.metre.g3), .sc (.int .i64 m.metre.g4), .sc (.int .i64 m.metre.g5), .sc (.int .i64 m.length), .sc (.int .i64 m.fifths), .sc (.bool m.rstart), .sc (.int .i64 m.rend), .sc (.int .i64 m.endings), .sc (.int .i64 m.jump), .sc (.int .i64 m.labels), .sc (.int .i64 m.swing), .sc (.int .i64 m.brk), .sc (.str m.rehearsal), slm Tempo.enc m.tempi, a]
theorem Measure.cells0_eq {m : Measure} {a : AV} : m.cells0 a = [.sc (.int .i64 m.id.site), .sc (.int .i64 m.id.number), .sc (.int .i64 m.metre.count), .sc (.int .i64 m.metre.unit), .sc (.int .i64 m.metre.g0), .sc (.int .i64 m.metre.g1), .sc (.int .i64 m.metre.g2), .sc (.int .i64 m.metre.g3), .sc (.int .i64 m.metre.g4), .sc (.int .i64 m.metre.g5), .sc (.int .i64 m.length), .sc (.int .i64 m.fifths), .sc (.bool m.rstart), .sc (.int .i64 m.rend), .sc (.int .i64 m.endings), .sc (.int .i64 m.jump), .sc (.int .i64 m.labels), .sc (.int .i64 m.swing), .sc (.int .i64 m.brk), .sc (.str m.rehearsal), slm Tempo.enc m.tempi, a] := rfl
theorem shortMeasure_pv (hp : pol.pure 46 = true) (hp2 : pol.pure 96 = true) (hp3 : pol.pure 59 = true) (m : Measure) : Pv prog pol 41 [m.enc] m.short.enc := by
  refine Pv_of' ok41 (by simp only [AV.closedBs, Measure.enc_closed, Bool.and_self]) ?_
  simp -implicitDefEqProofs (maxDischargeDepth := 12) only [wpF, cf41, WW,List.replicate,e_splice,if_true,if_false,ite_true,ite_false,true_or,ne_eq,seval,h_putc,beq_self_eq_true,eq_self,exists_eq_left,exists_eq_left', m.enc_eq, min20, min3, e_cutm Tempo.enc_len, Nat.min_le_left, slm_take]
  refine wp_loop (Inv := fun k t H => ∃ (i : Nat) (fp : List Nat) (a : AV), i + k = 6 ∧ i ≤ m.cells.l.length ∧ H.cells 0 = some (m.short.cells0 a) ∧ (∃ z, H.cells 1 = some z ∧ z.length = 22) ∧
    Acc 4 2 Cell.enc H a (Sl.of ((m.cells.l.take i).map Cell.short)) fp ∧ (∀ b ∈ fp, 2 ≤ b) ∧
    ∃ x : Nat → AV, t = [m.enc, .ptr 0 0, .ptr 1 0, slm Cell.enc m.cells, .sc (.int .i64 i), x 5, x 6, x 7, x 8, x 9, x 10, x 11, x 12, x 13, x 14, x 15, x 16, x 17, x 18, x 19, x 20, x 21, x 22, x 23, x 24, x 25, x 26, x 27, x 28, x 29, x 30, x 31, x 32, x 33, x 34, x 35, x 36, x 37, x 38, x 39, x 40, x 41, x 42, x 43, .sc .undef]) (k := 6) ?_
    ⟨0, [], _, rfl, Nat.zero_le _, ?_, ?_, acc_none, by simp, ex_x rfl⟩
  rotate_left
  · simp -implicitDefEqProofs (maxDischargeDepth := 12) only [WW,List.replicate,e_splice,if_true,if_false,ite_true,ite_false,true_or,ne_eq,seval,h_putc,beq_self_eq_true,eq_self,exists_eq_left,exists_eq_left']; rfl
  · refine Exists.intro [.sc (.int .i64 0), .sc (.int .i64 0), .sc (.int .i64 0), .sc (.int .i64 0), .sc (.int .i64 0), .sc (.int .i64 0), .sc (.int .i64 0), .sc (.int .i64 0), .sc (.int .i64 0), .sc (.int .i64 0), .sc (.int .i64 0), .sc (.int .i64 0), .sc (.bool false), .sc (.int .i64 0), .sc (.int .i64 0), .sc (.int .i64 0), .sc (.int .i64 0), .sc (.int .i64 0), .sc (.int .i64 0), .sc (.str ⟨#[]⟩), .sc .nils, .sc .nils] ⟨?_, rfl⟩
    simp -implicitDefEqProofs (maxDischargeDepth := 12) only [WW,List.replicate,e_splice,if_true,if_false,ite_true,ite_false,true_or,ne_eq,seval,h_putc,beq_self_eq_true,eq_self,exists_eq_left,exists_eq_left']
  rintro k t H ⟨i, fp, a, hk, hi, hH0, ⟨z, hH1, hz⟩, hA, hfp, x, rfl⟩
  rw [Measure.cells0_eq] at hH0
  by_cases h1 : (i : Int) < (m.cells.l.length : Int)
  · by_cases h2 : (i : Int) < 6
    · obtain ⟨y, hy⟩ : ∃ y, m.cells.l[i]? = some y := ⟨_, List.getElem?_eq_getElem (by omega)⟩
      have e2 : IntKind.i64.wrap ((i : Int) + 1) = ((i + 1 : Nat) : Int) := by rw [w64 (by omega) (by omega)]; omega
      simp -implicitDefEqProofs (maxDischargeDepth := 12) only [WW,List.replicate,e_splice,if_true,if_false,ite_true,ite_false,true_or,ne_eq,seval,h_putc,beq_self_eq_true,eq_self,exists_eq_left,exists_eq_left', hH0, h1, h2, hy, y.enc_eq, m.enc_eq]
      rw [← y.enc_eq]
      refine wA_pure hp3 (shortCell_pv hp hp2 y) ?_
      simp -implicitDefEqProofs (maxDischargeDepth := 12) only [WW,List.replicate,e_splice,if_true,if_false,ite_true,ite_false,true_or,ne_eq,seval,h_putc,beq_self_eq_true,eq_self,exists_eq_left,exists_eq_left', y.short.enc_eq]
      refine wA_app2 row_Cell hA (by repeat (first | exact Keep.refl | refine Keep.put (by (try simp only [AHeap.next_alloc, AHeap.next_put]); omega) ?_ | refine Keep.alloc (by (try simp only [AHeap.next_alloc, AHeap.next_put]); omega) ?_)) (by simp) (ys := [y.short]) (by simp) rfl (asrc_new (by simp) rfl) (own_one (Cell.enc_plain y.short) y.short.enc_eq) Apart.nil_right ?_ ?_
      · rw [l_of]; simp only [List.length_map, List.length_take, List.length_cons, List.length_nil]; omega
      intro v' H2 fp' hA' hn2 hk2 hfp2 ho2 hc2
      rw [of_snoc, ← List.map_singleton, ← List.map_append, ← take_snoc hy] at hA'
      have l1 := h_lt hH1
      have g0 := (hk2 0 (fun h => by have := hfp 0 h; omega) (by omega)).trans hH0
      have g1 := (hk2 1 (fun h => by have := hfp 1 h; omega) (by omega)).trans hH1
      have hfp3 : ∀ b ∈ fp', 2 ≤ b := fun b hb => by
        rcases hfp2 b hb with h | h | h
        · exact hfp b h
        · simp at h
        · omega
      simp -implicitDefEqProofs (maxDischargeDepth := 12) only [WW,List.replicate,e_splice,if_true,if_false,ite_true,ite_false,true_or,ne_eq,seval,h_putc,beq_self_eq_true,eq_self,exists_eq_left,exists_eq_left', e2, g0, g1, ho2, hc2]
      refine ⟨k - 1, by omega, i + 1, fp', v', by omega, by omega, rfl, hz, hA'.fr fun b hb => h_put_ne (by have := hfp3 b hb; omega), hfp3, ex_x rfl⟩
    · simp -implicitDefEqProofs (maxDischargeDepth := 12) only [WW,List.replicate,e_splice,if_true,if_false,ite_true,ite_false,true_or,ne_eq,seval,h_putc,beq_self_eq_true,eq_self,exists_eq_left,exists_eq_left', hH0, hH1, hz, h1, h2, hA.one, m.enc_eq]

      have hi3 : m.cells.l.take i = m.cells.l.take 6 := by rw [List.take_eq_take_iff]; omega
      rw [hi3] at hA
      obtain ⟨fq2, hO, hq2⟩ := hA.own row_Cell
      refine Own.frz (d := 6) (fp := [] ++ fq2) (u := m.short.enc) ⟨_, rfl, ?_⟩ (by omega)
      exact OwnL.append (fp := []) (OwnL.plain (d := 4) (cs := (m.short.cells0 a).take 21) (by simp [Measure.cells0, pl_sc, plain1_slm Tempo.enc_closed])) (OwnL.single (hO.frame fun b hb => h_put_ne (by have := hfp b (hq2 b hb); omega))) Apart.nil_left
  · simp -implicitDefEqProofs (maxDischargeDepth := 12) only [WW,List.replicate,e_splice,if_true,if_false,ite_true,ite_false,true_or,ne_eq,seval,h_putc,beq_self_eq_true,eq_self,exists_eq_left,exists_eq_left', hH0, hH1, hz, h1, hA.one, m.enc_eq]
    have hi3 : m.cells.l.take i = m.cells.l.take 6 := by rw [List.take_eq_take_iff]; omega
    rw [hi3] at hA
    obtain ⟨fq2, hO, hq2⟩ := hA.own row_Cell
    refine Own.frz (d := 6) (fp := [] ++ fq2) (u := m.short.enc) ⟨_, rfl, ?_⟩ (by omega)
    exact OwnL.append (fp := []) (OwnL.plain (d := 4) (cs := (m.short.cells0 a).take 21) (by simp [Measure.cells0, pl_sc, plain1_slm Tempo.enc_closed])) (OwnL.single (hO.frame fun b hb => h_put_ne (by have := hfp b (hq2 b hb); omega))) Apart.nil_left
end Go.Hem
/- Walks: Short. -/
set_option maxRecDepth 10000
set_option linter.unusedSimpArgs false
set_option linter.unusedVariables false
namespace Go.Hem
variable {pol : Pol}
def Score.short (s : Score) : Score := { title := s.title.extract 0 (min s.title.size 20), written := s.written, parts := Sl.of ((s.parts.l.take 4).map Part.short), measures := Sl.of ((s.measures.l.take 5).map Measure.short), spanners := s.spanners.map (·.take 6), last := s.last.map (·.take 4) }
theorem short_pv (hp : pol.pure 46 = true) (hp2 : pol.pure 96 = true) (hp3 : pol.pure 59 = true) (hp4 : pol.pure 41 = true) (hp5 : pol.pure 58 = true) (s : Score) : Pv prog pol 14 [s.enc] s.short.enc := by
  refine Pv_of' ok14 (by simp only [AV.closedBs, Score.enc_closed, Bool.and_self]) ?_
  simp -implicitDefEqProofs (maxDischargeDepth := 12) only [wpF, cf14, WW,List.replicate,e_splice,if_true,if_false,ite_true,ite_false,true_or,ne_eq,seval,h_putc,beq_self_eq_true,eq_self,exists_eq_left,exists_eq_left', s.enc_eq, min20, min6, min4, e_cutm Spanner.enc_len, e_cutm ID.enc_len, Nat.min_le_left, slm_take]
  refine wp_loop (Inv := fun k t H => ∃ (i : Nat) (fp : List Nat) (a : AV), i + k = 4 ∧ i ≤ s.parts.l.length ∧ H.cells 0 = some [.sc (.str s.title), .sc (.bool s.written), slm Part.enc s.parts, slm Measure.enc s.measures, slm Spanner.enc s.spanners, slm ID.enc s.last] ∧
    H.cells 1 = some [.sc (.str ⟨#[]⟩), .sc (.bool false), .sc .nils, .sc .nils, .sc .nils, .sc .nils] ∧
    H.cells 2 = some [.sc (.str s.short.title), .sc (.bool s.written), a, .sc .nils, slm Spanner.enc s.short.spanners, slm ID.enc s.short.last] ∧
    Acc 5 6 Part.enc H a (Sl.of ((s.parts.l.take i).map Part.short)) fp ∧ (∀ b ∈ fp, 3 ≤ b) ∧
    ∃ x : Nat → AV, t = [s.enc, .ptr 0 0, .ptr 1 0, .ptr 2 0, .sc (.int .i64 i), x 5, x 6, x 7, x 8, x 9, x 10, x 11, x 12, x 13, x 14, x 15, x 16, x 17, x 18, x 19, x 20, x 21, x 22, x 23, x 24, x 25, x 26, x 27, x 28, x 29, x 30, x 31, x 32, x 33, x 34, x 35, x 36, x 37, x 38, x 39, x 40, x 41, x 42, x 43, x 44, x 45, x 46, x 47, x 48, x 49, x 50, x 51, x 52, x 53, x 54, x 55, x 56, x 57, x 58, x 59, x 60, x 61, x 62, x 63, x 64, x 65, x 66, x 67, x 68, x 69, x 70, x 71, x 72, x 73, .sc .undef]) (k := 4) ?_
    ⟨0, [], _, rfl, Nat.zero_le _, ?_, ?_, ?_, acc_none, by simp, ex_x rfl⟩
  rotate_left
  · simp -implicitDefEqProofs (maxDischargeDepth := 12) only [WW,List.replicate,e_splice,if_true,if_false,ite_true,ite_false,true_or,ne_eq,seval,h_putc,beq_self_eq_true,eq_self,exists_eq_left,exists_eq_left']
  · simp -implicitDefEqProofs (maxDischargeDepth := 12) only [WW,List.replicate,e_splice,if_true,if_false,ite_true,ite_false,true_or,ne_eq,seval,h_putc,beq_self_eq_true,eq_self,exists_eq_left,exists_eq_left']
  · simp -implicitDefEqProofs (maxDischargeDepth := 12) only [WW,List.replicate,e_splice,if_true,if_false,ite_true,ite_false,true_or,ne_eq,seval,h_putc,beq_self_eq_true,eq_self,exists_eq_left,exists_eq_left']; rfl
  rintro k t H ⟨i, fp, a, hk, hi, hH0, hH1, hH2, hA, hfp, x, rfl⟩
  by_cases h1 : (i : Int) < (s.parts.l.length : Int)
  · by_cases h2 : (i : Int) < 4
    · obtain ⟨y, hy⟩ : ∃ y, s.parts.l[i]? = some y := ⟨_, List.getElem?_eq_getElem (by omega)⟩
      have e2 : IntKind.i64.wrap ((i : Int) + 1) = ((i + 1 : Nat) : Int) := by rw [w64 (by omega) (by omega)]; omega
      simp -implicitDefEqProofs (maxDischargeDepth := 12) only [WW,List.replicate,e_splice,if_true,if_false,ite_true,ite_false,true_or,ne_eq,seval,h_putc,beq_self_eq_true,eq_self,exists_eq_left,exists_eq_left', hH0, hH2, h1, h2, hy, y.enc_eq]
      rw [← y.enc_eq]
      refine wA_pure hp5 (shortPart_pv y) ?_
      simp -implicitDefEqProofs (maxDischargeDepth := 12) only [WW,List.replicate,e_splice,if_true,if_false,ite_true,ite_false,true_or,ne_eq,seval,h_putc,beq_self_eq_true,eq_self,exists_eq_left,exists_eq_left', y.short.enc_eq]
      refine wA_app2 row_Part hA (by repeat (first | exact Keep.refl | refine Keep.put (by (try simp only [AHeap.next_alloc, AHeap.next_put]); omega) ?_ | refine Keep.alloc (by (try simp only [AHeap.next_alloc, AHeap.next_put]); omega) ?_)) (by simp) (ys := [y.short]) (by simp) rfl (asrc_new (by simp) rfl) (own_one (Part.enc_plain y.short) y.short.enc_eq) Apart.nil_right ?_ ?_
      · rw [l_of]; simp only [List.length_map, List.length_take, List.length_cons, List.length_nil]; omega
      intro v' H2 fp' hA' hn2 hk2 hfp2 ho2 hc2
      rw [of_snoc, ← List.map_singleton, ← List.map_append, ← take_snoc hy] at hA'
      have l1 := h_lt hH2
      have g0 := (hk2 0 (fun h => by have := hfp 0 h; omega) (by omega)).trans hH0
      have g1 := (hk2 1 (fun h => by have := hfp 1 h; omega) (by omega)).trans hH1
      have g2 := (hk2 2 (fun h => by have := hfp 2 h; omega) (by omega)).trans hH2
      have hfp3 : ∀ b ∈ fp', 3 ≤ b := fun b hb => by
        rcases hfp2 b hb with h | h | h
        · exact hfp b h
        · simp at h
        · omega
      simp -implicitDefEqProofs (maxDischargeDepth := 12) only [WW,List.replicate,e_splice,if_true,if_false,ite_true,ite_false,true_or,ne_eq,seval,h_putc,beq_self_eq_true,eq_self,exists_eq_left,exists_eq_left', e2, g0, g1, g2, ho2, hc2]
      exact ⟨k - 1, by omega, i + 1, fp', v', by omega, by omega, rfl, hA'.fr fun b hb => h_put_ne (by have := hfp3 b hb; omega), hfp3, ex_x rfl⟩
    · simp -implicitDefEqProofs (maxDischargeDepth := 12) only [WW,List.replicate,e_splice,if_true,if_false,ite_true,ite_false,true_or,ne_eq,seval,h_putc,beq_self_eq_true,eq_self,exists_eq_left,exists_eq_left', hH0, hH1, hH2, h1, h2, hA.one]
      have hi3 : s.parts.l.take i = s.parts.l.take 4 := by rw [List.take_eq_take_iff]; omega
      rw [hi3] at hA
      have hP := hA
      have hfpP := hfp
      clear hA hfp
      refine wp_loop (Inv := fun k t H => ∃ (i : Nat) (fq : List Nat) (b : AV), i + k = 5 ∧ i ≤ s.measures.l.length ∧ H.cells 0 = some [.sc (.str s.title), .sc (.bool s.written), slm Part.enc s.parts, slm Measure.enc s.measures, slm Spanner.enc s.spanners, slm ID.enc s.last] ∧
        H.cells 1 = some [.sc (.str ⟨#[]⟩), .sc (.bool false), .sc .nils, .sc .nils, .sc .nils, .sc .nils] ∧
        H.cells 2 = some [.sc (.str s.short.title), .sc (.bool s.written), a, b, slm Spanner.enc s.short.spanners, slm ID.enc s.short.last] ∧
        Acc 5 6 Part.enc H a (Sl.of ((s.parts.l.take 4).map Part.short)) fp ∧ Acc 6 22 Measure.enc H b (Sl.of ((s.measures.l.take i).map Measure.short)) fq ∧ (∀ b ∈ fq, 3 ≤ b) ∧ Apart fp fq ∧
        ∃ x : Nat → AV, t = [s.enc, .ptr 0 0, .ptr 1 0, .ptr 2 0, x 4, .sc (.int .i64 i), x 6, x 7, x 8, x 9, x 10, x 11, x 12, x 13, x 14, x 15, x 16, x 17, x 18, x 19, x 20, x 21, x 22, x 23, x 24, x 25, x 26, x 27, x 28, x 29, x 30, x 31, x 32, x 33, x 34, x 35, x 36, x 37, x 38, x 39, x 40, x 41, x 42, x 43, x 44, x 45, x 46, x 47, x 48, x 49, x 50, x 51, x 52, x 53, x 54, x 55, x 56, x 57, x 58, x 59, x 60, x 61, x 62, x 63, x 64, x 65, x 66, x 67, x 68, x 69, x 70, x 71, x 72, x 73, .sc .undef]) (k := 5) ?_
        ⟨0, [], _, rfl, Nat.zero_le _, hH0, hH1, hH2, hP, acc_none, by simp, Apart.nil_right, ex_x rfl⟩
      clear hH0 hH1 hH2 hP x hi h1 hk hi3
      rintro k t H ⟨i, fq, c, hk, hi, hH0, hH1, hH2, hP, hA, hfp, hap, x, rfl⟩
      by_cases h1 : (i : Int) < (s.measures.l.length : Int)
      · by_cases h2 : (i : Int) < 5
        · obtain ⟨y, hy⟩ : ∃ y, s.measures.l[i]? = some y := ⟨_, List.getElem?_eq_getElem (by omega)⟩
          have e2 : IntKind.i64.wrap ((i : Int) + 1) = ((i + 1 : Nat) : Int) := by rw [w64 (by omega) (by omega)]; omega
          simp -implicitDefEqProofs (maxDischargeDepth := 12) only [WW,List.replicate,e_splice,if_true,if_false,ite_true,ite_false,true_or,ne_eq,seval,h_putc,beq_self_eq_true,eq_self,exists_eq_left,exists_eq_left', hH0, hH2, h1, h2, hy, y.enc_eq]
          rw [← y.enc_eq]
          refine wA_pure hp4 (shortMeasure_pv hp hp2 hp3 y) ?_
          simp -implicitDefEqProofs (maxDischargeDepth := 12) only [WW,List.replicate,e_splice,if_true,if_false,ite_true,ite_false,true_or,ne_eq,seval,h_putc,beq_self_eq_true,eq_self,exists_eq_left,exists_eq_left', y.short.enc_eq]
          refine wA_app2 row_Measure hA (by repeat (first | exact Keep.refl | refine Keep.put (by (try simp only [AHeap.next_alloc, AHeap.next_put]); omega) ?_ | refine Keep.alloc (by (try simp only [AHeap.next_alloc, AHeap.next_put]); omega) ?_)) (by simp) (ys := [y.short]) (by simp) rfl (asrc_new (by simp) rfl) (own_one (Measure.enc_plain y.short) y.short.enc_eq) Apart.nil_right ?_ ?_
          · rw [l_of]; simp only [List.length_map, List.length_take, List.length_cons, List.length_nil]; omega
          intro v' H2 fp' hA' hn2 hk2 hfp2 ho2 hc2
          rw [of_snoc, ← List.map_singleton, ← List.map_append, ← take_snoc hy] at hA'
          have l1 := h_lt hH2
          have g0 := (hk2 0 (fun h => by have := hfp 0 h; omega) (by omega)).trans hH0
          have g1 := (hk2 1 (fun h => by have := hfp 1 h; omega) (by omega)).trans hH1
          have g2 := (hk2 2 (fun h => by have := hfp 2 h; omega) (by omega)).trans hH2
          have hfp3 : ∀ b ∈ fp', 3 ≤ b := fun b hb => by
            rcases hfp2 b hb with h | h | h
            · exact hfp b h
            · simp at h
            · omega
          have hlts := hP.lts
          simp -implicitDefEqProofs (maxDischargeDepth := 12) only [WW,List.replicate,e_splice,if_true,if_false,ite_true,ite_false,true_or,ne_eq,seval,h_putc,beq_self_eq_true,eq_self,exists_eq_left,exists_eq_left', e2, g0, g1, g2, ho2, hc2]
          refine ⟨k - 1, by omega, i + 1, fp', v', by omega, by omega, rfl, hP.fr fun b hb => ?_, hA'.fr fun b hb => h_put_ne (by have := hfp3 b hb; omega), hfp3, fun b hb hb2 => ?_, ex_x rfl⟩
          · rw [h_put_ne (by have := hfpP b hb; omega), hk2 b (hap b hb) (hlts b hb)]
          · rcases hfp2 b hb2 with h | h | h
            · exact hap b hb h
            · simp at h
            · have := hlts b hb; omega
        · simp -implicitDefEqProofs (maxDischargeDepth := 12) only [WW,List.replicate,e_splice,if_true,if_false,ite_true,ite_false,true_or,ne_eq,seval,h_putc,beq_self_eq_true,eq_self,exists_eq_left,exists_eq_left', hH0, hH1, hH2, h1, h2, hP.one, hA.one]
          have hi3 : s.measures.l.take i = s.measures.l.take 5 := by rw [List.take_eq_take_iff]; omega
          rw [hi3] at hA
          obtain ⟨fq2, hO, hq2⟩ := hA.own row_Measure
          obtain ⟨fq3, hO3, hq3⟩ := hP.own row_Part
          refine Own.frz (d := 8) (fp := [] ++ ([] ++ (fq3 ++ (fq2 ++ ([] ++ ([] ++ [])))))) (u := s.short.enc) ⟨_, rfl, ?_⟩ (by omega)
          have w : ∀ b ∈ fq2, ∀ z, (H.put 1 (some (.cells z))).cells b = H.cells b := fun b hb z => h_put_ne (by have := hfp b (hq2 b hb); omega)
          have w3 : ∀ b ∈ fq3, ∀ z, (H.put 1 (some (.cells z))).cells b = H.cells b := fun b hb z => h_put_ne (by have := hfpP b (hq3 b hb); omega)
          refine .cons (Own.plain rfl) (.cons (Own.plain rfl) (.cons ((hO3.mono (by decide)).frame fun b hb => w3 b hb _) (.cons ((hO.mono (by decide)).frame fun b hb => w b hb _) (.cons (Own.plain (plain1_slm Spanner.enc_closed)) (.cons (Own.plain (plain1_slm ID.enc_closed)) .nil Apart.nil_right) Apart.nil_left) ?_) ?_) Apart.nil_left) Apart.nil_left
          · simpa using Apart.nil_right
          · intro b hb hb2
            simp only [List.append_nil, List.nil_append] at hb2
            exact hap b (hq3 b hb) (hq2 b hb2)
      · simp -implicitDefEqProofs (maxDischargeDepth := 12) only [WW,List.replicate,e_splice,if_true,if_false,ite_true,ite_false,true_or,ne_eq,seval,h_putc,beq_self_eq_true,eq_self,exists_eq_left,exists_eq_left', hH0, hH1, hH2, h1, hP.one, hA.one]
        have hi3 : s.measures.l.take i = s.measures.l.take 5 := by rw [List.take_eq_take_iff]; omega
        rw [hi3] at hA
        obtain ⟨fq2, hO, hq2⟩ := hA.own row_Measure
        obtain ⟨fq3, hO3, hq3⟩ := hP.own row_Part
        refine Own.frz (d := 8) (fp := [] ++ ([] ++ (fq3 ++ (fq2 ++ ([] ++ ([] ++ [])))))) (u := s.short.enc) ⟨_, rfl, ?_⟩ (by omega)
        have w : ∀ b ∈ fq2, ∀ z, (H.put 1 (some (.cells z))).cells b = H.cells b := fun b hb z => h_put_ne (by have := hfp b (hq2 b hb); omega)
        have w3 : ∀ b ∈ fq3, ∀ z, (H.put 1 (some (.cells z))).cells b = H.cells b := fun b hb z => h_put_ne (by have := hfpP b (hq3 b hb); omega)
        refine .cons (Own.plain rfl) (.cons (Own.plain rfl) (.cons ((hO3.mono (by decide)).frame fun b hb => w3 b hb _) (.cons ((hO.mono (by decide)).frame fun b hb => w b hb _) (.cons (Own.plain (plain1_slm Spanner.enc_closed)) (.cons (Own.plain (plain1_slm ID.enc_closed)) .nil Apart.nil_right) Apart.nil_left) ?_) ?_) Apart.nil_left) Apart.nil_left
        · simpa using Apart.nil_right
        · intro b hb hb2
          simp only [List.append_nil, List.nil_append] at hb2
          exact hap b (hq3 b hb) (hq2 b hb2)
  · simp -implicitDefEqProofs (maxDischargeDepth := 12) only [WW,List.replicate,e_splice,if_true,if_false,ite_true,ite_false,true_or,ne_eq,seval,h_putc,beq_self_eq_true,eq_self,exists_eq_left,exists_eq_left', hH0, hH1, hH2, h1, hA.one]
    have hi3 : s.parts.l.take i = s.parts.l.take 4 := by rw [List.take_eq_take_iff]; omega
    rw [hi3] at hA
    have hP := hA
    have hfpP := hfp
    clear hA hfp
    refine wp_loop (Inv := fun k t H => ∃ (i : Nat) (fq : List Nat) (b : AV), i + k = 5 ∧ i ≤ s.measures.l.length ∧ H.cells 0 = some [.sc (.str s.title), .sc (.bool s.written), slm Part.enc s.parts, slm Measure.enc s.measures, slm Spanner.enc s.spanners, slm ID.enc s.last] ∧
      H.cells 1 = some [.sc (.str ⟨#[]⟩), .sc (.bool false), .sc .nils, .sc .nils, .sc .nils, .sc .nils] ∧
      H.cells 2 = some [.sc (.str s.short.title), .sc (.bool s.written), a, b, slm Spanner.enc s.short.spanners, slm ID.enc s.short.last] ∧
      Acc 5 6 Part.enc H a (Sl.of ((s.parts.l.take 4).map Part.short)) fp ∧ Acc 6 22 Measure.enc H b (Sl.of ((s.measures.l.take i).map Measure.short)) fq ∧ (∀ b ∈ fq, 3 ≤ b) ∧ Apart fp fq ∧
      ∃ x : Nat → AV, t = [s.enc, .ptr 0 0, .ptr 1 0, .ptr 2 0, x 4, .sc (.int .i64 i), x 6, x 7, x 8, x 9, x 10, x 11, x 12, x 13, x 14, x 15, x 16, x 17, x 18, x 19, x 20, x 21, x 22, x 23, x 24, x 25, x 26, x 27, x 28, x 29, x 30, x 31, x 32, x 33, x 34, x 35, x 36, x 37, x 38, x 39, x 40, x 41, x 42, x 43, x 44, x 45, x 46, x 47, x 48, x 49, x 50, x 51, x 52, x 53, x 54, x 55, x 56, x 57, x 58, x 59, x 60, x 61, x 62, x 63, x 64, x 65, x 66, x 67, x 68, x 69, x 70, x 71, x 72, x 73, .sc .undef]) (k := 5) ?_
      ⟨0, [], _, rfl, Nat.zero_le _, hH0, hH1, hH2, hP, acc_none, by simp, Apart.nil_right, ex_x rfl⟩
    clear hH0 hH1 hH2 hP x hi h1 hk hi3
    rintro k t H ⟨i, fq, c, hk, hi, hH0, hH1, hH2, hP, hA, hfp, hap, x, rfl⟩
    by_cases h1 : (i : Int) < (s.measures.l.length : Int)
    · by_cases h2 : (i : Int) < 5
      · obtain ⟨y, hy⟩ : ∃ y, s.measures.l[i]? = some y := ⟨_, List.getElem?_eq_getElem (by omega)⟩
        have e2 : IntKind.i64.wrap ((i : Int) + 1) = ((i + 1 : Nat) : Int) := by rw [w64 (by omega) (by omega)]; omega
        simp -implicitDefEqProofs (maxDischargeDepth := 12) only [WW,List.replicate,e_splice,if_true,if_false,ite_true,ite_false,true_or,ne_eq,seval,h_putc,beq_self_eq_true,eq_self,exists_eq_left,exists_eq_left', hH0, hH2, h1, h2, hy, y.enc_eq]
        rw [← y.enc_eq]
        refine wA_pure hp4 (shortMeasure_pv hp hp2 hp3 y) ?_
        simp -implicitDefEqProofs (maxDischargeDepth := 12) only [WW,List.replicate,e_splice,if_true,if_false,ite_true,ite_false,true_or,ne_eq,seval,h_putc,beq_self_eq_true,eq_self,exists_eq_left,exists_eq_left', y.short.enc_eq]
        refine wA_app2 row_Measure hA (by repeat (first | exact Keep.refl | refine Keep.put (by (try simp only [AHeap.next_alloc, AHeap.next_put]); omega) ?_ | refine Keep.alloc (by (try simp only [AHeap.next_alloc, AHeap.next_put]); omega) ?_)) (by simp) (ys := [y.short]) (by simp) rfl (asrc_new (by simp) rfl) (own_one (Measure.enc_plain y.short) y.short.enc_eq) Apart.nil_right ?_ ?_
        · rw [l_of]; simp only [List.length_map, List.length_take, List.length_cons, List.length_nil]; omega
        intro v' H2 fp' hA' hn2 hk2 hfp2 ho2 hc2
        rw [of_snoc, ← List.map_singleton, ← List.map_append, ← take_snoc hy] at hA'
        have l1 := h_lt hH2
        have g0 := (hk2 0 (fun h => by have := hfp 0 h; omega) (by omega)).trans hH0
        have g1 := (hk2 1 (fun h => by have := hfp 1 h; omega) (by omega)).trans hH1
        have g2 := (hk2 2 (fun h => by have := hfp 2 h; omega) (by omega)).trans hH2
        have hfp3 : ∀ b ∈ fp', 3 ≤ b := fun b hb => by
          rcases hfp2 b hb with h | h | h
          · exact hfp b h
          · simp at h
          · omega
        have hlts := hP.lts
        simp -implicitDefEqProofs (maxDischargeDepth := 12) only [WW,List.replicate,e_splice,if_true,if_false,ite_true,ite_false,true_or,ne_eq,seval,h_putc,beq_self_eq_true,eq_self,exists_eq_left,exists_eq_left', e2, g0, g1, g2, ho2, hc2]
        refine ⟨k - 1, by omega, i + 1, fp', v', by omega, by omega, rfl, hP.fr fun b hb => ?_, hA'.fr fun b hb => h_put_ne (by have := hfp3 b hb; omega), hfp3, fun b hb hb2 => ?_, ex_x rfl⟩
        · rw [h_put_ne (by have := hfpP b hb; omega), hk2 b (hap b hb) (hlts b hb)]
        · rcases hfp2 b hb2 with h | h | h
          · exact hap b hb h
          · simp at h
          · have := hlts b hb; omega
      · simp -implicitDefEqProofs (maxDischargeDepth := 12) only [WW,List.replicate,e_splice,if_true,if_false,ite_true,ite_false,true_or,ne_eq,seval,h_putc,beq_self_eq_true,eq_self,exists_eq_left,exists_eq_left', hH0, hH1, hH2, h1, h2, hP.one, hA.one]
        have hi3 : s.measures.l.take i = s.measures.l.take 5 := by rw [List.take_eq_take_iff]; omega
        rw [hi3] at hA
        obtain ⟨fq2, hO, hq2⟩ := hA.own row_Measure
        obtain ⟨fq3, hO3, hq3⟩ := hP.own row_Part
        refine Own.frz (d := 8) (fp := [] ++ ([] ++ (fq3 ++ (fq2 ++ ([] ++ ([] ++ [])))))) (u := s.short.enc) ⟨_, rfl, ?_⟩ (by omega)
        have w : ∀ b ∈ fq2, ∀ z, (H.put 1 (some (.cells z))).cells b = H.cells b := fun b hb z => h_put_ne (by have := hfp b (hq2 b hb); omega)
        have w3 : ∀ b ∈ fq3, ∀ z, (H.put 1 (some (.cells z))).cells b = H.cells b := fun b hb z => h_put_ne (by have := hfpP b (hq3 b hb); omega)
        refine .cons (Own.plain rfl) (.cons (Own.plain rfl) (.cons ((hO3.mono (by decide)).frame fun b hb => w3 b hb _) (.cons ((hO.mono (by decide)).frame fun b hb => w b hb _) (.cons (Own.plain (plain1_slm Spanner.enc_closed)) (.cons (Own.plain (plain1_slm ID.enc_closed)) .nil Apart.nil_right) Apart.nil_left) ?_) ?_) Apart.nil_left) Apart.nil_left
        · simpa using Apart.nil_right
        · intro b hb hb2
          simp only [List.append_nil, List.nil_append] at hb2
          exact hap b (hq3 b hb) (hq2 b hb2)
    · simp -implicitDefEqProofs (maxDischargeDepth := 12) only [WW,List.replicate,e_splice,if_true,if_false,ite_true,ite_false,true_or,ne_eq,seval,h_putc,beq_self_eq_true,eq_self,exists_eq_left,exists_eq_left', hH0, hH1, hH2, h1, hP.one, hA.one]
      have hi3 : s.measures.l.take i = s.measures.l.take 5 := by rw [List.take_eq_take_iff]; omega
      rw [hi3] at hA
      obtain ⟨fq2, hO, hq2⟩ := hA.own row_Measure
      obtain ⟨fq3, hO3, hq3⟩ := hP.own row_Part
      refine Own.frz (d := 8) (fp := [] ++ ([] ++ (fq3 ++ (fq2 ++ ([] ++ ([] ++ [])))))) (u := s.short.enc) ⟨_, rfl, ?_⟩ (by omega)
      have w : ∀ b ∈ fq2, ∀ z, (H.put 1 (some (.cells z))).cells b = H.cells b := fun b hb z => h_put_ne (by have := hfp b (hq2 b hb); omega)
      have w3 : ∀ b ∈ fq3, ∀ z, (H.put 1 (some (.cells z))).cells b = H.cells b := fun b hb z => h_put_ne (by have := hfpP b (hq3 b hb); omega)
      refine .cons (Own.plain rfl) (.cons (Own.plain rfl) (.cons ((hO3.mono (by decide)).frame fun b hb => w3 b hb _) (.cons ((hO.mono (by decide)).frame fun b hb => w b hb _) (.cons (Own.plain (plain1_slm Spanner.enc_closed)) (.cons (Own.plain (plain1_slm ID.enc_closed)) .nil Apart.nil_right) Apart.nil_left) ?_) ?_) Apart.nil_left) Apart.nil_left
      · simpa using Apart.nil_right
      · intro b hb hb2
        simp only [List.append_nil, List.nil_append] at hb2
        exact hap b (hq3 b hb) (hq2 b hb2)
end Go.Hem
/- Walks: a list with another element, as the reference makes it. -/
set_option maxRecDepth 10000
set_option maxHeartbeats 4000000
set_option linter.unusedSimpArgs false
set_option linter.unusedVariables false
namespace Go.Hem
variable {pol : Pol}
/-- A list with another element. -/
def Sl.set {α : Type} (s : Sl α) (i : Nat) (x : α) : Sl α := some (s.l.take i ++ [x] ++ s.l.drop (i + 1))
end Go.Hem
/- Walks: the reference's SetCell and SetEvent. -/
set_option maxRecDepth 10000
set_option maxHeartbeats 4000000
set_option linter.unusedSimpArgs false
set_option linter.unusedVariables false
namespace Go.Hem
variable {pol : Pol}
theorem AccX.open {α : Type} {f : α → AV} {I : Bool} {d n : Nat} {H : AHeap} {v : AV} {l : List α} {fp : List Nat} (h : AccX I d n f H v (some l) fp) : AV.closedB v = false := by
  rcases h with ⟨_, h, _⟩ | ⟨b, cap, cs, rest, fp', l', h1, rfl, _⟩
  · cases h
  · rfl
end Go.Hem
/- Walks: the reference's SetEvent. -/
set_option maxRecDepth 10000
set_option maxHeartbeats 4000000
set_option linter.unusedSimpArgs false
set_option linter.unusedVariables false
namespace Go.Hem
variable {pol : Pol}
section
variable {α : Type} {f : α → AV} {n : Nat}
end
end Go.Hem
/- A map of ids as a set. -/
set_option linter.unusedSimpArgs false
set_option linter.unusedVariables false
namespace Go.Hem
theorem keyEq_id (a b : ID) : keyEq true [.int, .int] a.enc b.enc = some (decide (a = b)) := by
  have := @id_eq a b
  rw [← this]
  simp [keyEq, ID.enc, eqK]
end Go.Hem
/- Walks: the closure of Prune. -/
set_option maxRecDepth 10000
set_option maxHeartbeats 4000000
set_option linter.unusedSimpArgs false
set_option linter.unusedVariables false
namespace Go.Hem
variable {pol : Pol}
end Go.Hem
/- Walks: the reference's Same of events. -/
set_option maxRecDepth 10000
set_option maxHeartbeats 4000000
set_option linter.unusedSimpArgs false
set_option linter.unusedVariables false
namespace Go.Hem
variable {pol : Pol}
/-- What counts of an event: nil or empty is one. -/
def Event.cn (e : Event) : Event := { e with heads := Sl.of e.heads.l, graces := Sl.of e.graces.l, lyrics := Sl.of e.lyrics.l }
def Event.noid (e : Event) : Event := { e.cn with id := ⟨0, 0⟩ }
theorem of_inj {α : Type} {l m : List α} : Sl.of l = Sl.of m ↔ l = m := by
  constructor
  · intro h; have := congrArg Sl.l h; rwa [l_of, l_of] at this
  · rintro rfl; rfl
theorem toList_eq {a b : ByteArray} : (a.toList == b.toList) = decide (a = b) := by
  have e : a.toList = b.toList ↔ a = b := by
    constructor
    · intro h
      rw [ByteArray.toList_eq, ByteArray.toList_eq] at h
      obtain ⟨⟨x⟩⟩ := a
      obtain ⟨⟨y⟩⟩ := b
      simp at h; subst h; rfl
    · rintro rfl; rfl
  by_cases h : a = b
  · rw [decide_eq_true h, h, beq_self_eq_true]
  · rw [decide_eq_false h]
    simp only [beq_eq_false_iff_ne, ne_eq]
    exact fun k => h (e.1 k)
theorem val_eq {a b : Val} : (decide (a.log = b.log) && decide (a.dots = b.dots)) = decide (a = b) := by
  cases a; cases b; simp only [Val.mk.injEq, Bool.decide_and]
theorem head_eq {a b : Head} : (decide (a.pitch.step = b.pitch.step) && (decide (a.pitch.alter = b.pitch.alter) && (decide (a.pitch.octave = b.pitch.octave) && ((a.tied == b.tied) && decide (a.shown = b.shown))))) = decide (a = b) := by
  obtain ⟨⟨a1, a2, a3⟩, a4, a5⟩ := a
  obtain ⟨⟨b1, b2, b3⟩, b4, b5⟩ := b
  have e : (a4 == b4) = decide (a4 = b4) := by cases a4 <;> cases b4 <;> rfl
  simp only [Head.mk.injEq, Pitch.mk.injEq, Bool.decide_and, e, Bool.and_assoc]
theorem grace_eq {a b : Grace} : (decide (a.pitch.step = b.pitch.step) && (decide (a.pitch.alter = b.pitch.alter) && (decide (a.pitch.octave = b.pitch.octave) && (decide (a.log = b.log) && (a.slash == b.slash))))) = decide (a = b) := by
  obtain ⟨⟨a1, a2, a3⟩, a4, a5⟩ := a
  obtain ⟨⟨b1, b2, b3⟩, b4, b5⟩ := b
  have e : (a5 == b5) = decide (a5 = b5) := by cases a5 <;> cases b5 <;> rfl
  simp only [Grace.mk.injEq, Pitch.mk.injEq, Bool.decide_and, e, Bool.and_assoc]
theorem syl_eq {a b : Syllable} : ((a.text.toList == b.text.toList) && decide (a.link = b.link)) = decide (a = b) := by
  cases a; cases b; simp only [Syllable.mk.injEq, Bool.decide_and, toList_eq]
theorem map_ne {α β : Type} {f : α → β} {l m : List α} {i : Nat} {x y : α} (hx : l[i]? = some x) (hy : m[i]? = some y) (h : f x ≠ f y) : l.map f ≠ m.map f := fun e => by
  have := congrArg (·[i]?) e
  simp only [List.getElem?_map, hx, hy, Option.map_some, Option.some.injEq] at this
  exact h this
theorem list_ne {α : Type} {l m : List α} {i : Nat} {x y : α} (hx : l[i]? = some x) (hy : m[i]? = some y) (h : x ≠ y) : l ≠ m := fun e => by
  subst e; rw [hx] at hy; cases hy; exact h rfl
theorem take_step {α : Type} {l m : List α} {i : Nat} {x : α} (hx : l[i]? = some x) (hy : m[i]? = some x) (h : l.take i = m.take i) : l.take (i + 1) = m.take (i + 1) := by
  rw [List.take_add_one, List.take_add_one, hx, hy, h]
theorem noid_iff {a b : Event} : a.noid = b.noid ↔ a.kind = b.kind ∧ a.value = b.value ∧ a.articulations = b.articulations ∧ a.ornament = b.ornament ∧ a.dynamic = b.dynamic ∧ a.stem = b.stem ∧ a.beam = b.beam ∧ a.heads.l = b.heads.l ∧ a.graces.l = b.graces.l ∧ a.lyrics.l = b.lyrics.l := by
  unfold Event.noid Event.cn
  simp only [Event.mk.injEq, of_inj, true_and]
  constructor
  · rintro ⟨h1, h2, h3, h4, h5, h6, h7, h8, h9, h10⟩; exact ⟨h1, h2, h5, h6, h7, h9, h10, h3, h4, h8⟩
  · rintro ⟨h1, h2, h5, h6, h7, h9, h10, h3, h4, h8⟩; exact ⟨h1, h2, h3, h4, h5, h6, h7, h8, h9, h10⟩
theorem same11_pv (a b : Event) (ha : a.heads.l.length < 1000000) (hg : a.graces.l.length < 1000000) (hy : a.lyrics.l.length < 1000000) : Pv prog pol 99 [a.enc, b.enc] (.sc (.bool (decide (a.noid = b.noid)))) := by
  refine Pv_of' ok99 (by simp only [AV.closedBs, Event.enc_closed, Bool.and_self]) ?_
  rw [show decide (a.noid = b.noid) = decide (a.kind = b.kind ∧ a.value = b.value ∧ a.articulations = b.articulations ∧ a.ornament = b.ornament ∧ a.dynamic = b.dynamic ∧ a.stem = b.stem ∧ a.beam = b.beam ∧ a.heads.l = b.heads.l ∧ a.graces.l = b.graces.l ∧ a.lyrics.l = b.lyrics.l) from decide_eq_decide.2 noid_iff]
  by_cases h1 : a.kind = b.kind
  rotate_left
  · rw [decide_eq_false (fun k => h1 (k.1))]
    simp -implicitDefEqProofs (maxDischargeDepth := 12) only [wpF, cf99, WW,List.replicate,e_splice,if_true,if_false,ite_true,ite_false,true_or,ne_eq,seval,h_putc,beq_self_eq_true,eq_self,exists_eq_left,exists_eq_left', a.enc_eq, b.enc_eq, val_eq, h1]
    exact frz_sc
  by_cases h2 : a.value = b.value
  rotate_left
  · rw [decide_eq_false (fun k => h2 (k.2.1))]
    simp -implicitDefEqProofs (maxDischargeDepth := 12) only [wpF, cf99, WW,List.replicate,e_splice,if_true,if_false,ite_true,ite_false,true_or,ne_eq,seval,h_putc,beq_self_eq_true,eq_self,exists_eq_left,exists_eq_left', a.enc_eq, b.enc_eq, val_eq, h1, h2]
    exact frz_sc
  by_cases h3 : a.articulations = b.articulations
  rotate_left
  · rw [decide_eq_false (fun k => h3 (k.2.2.1))]
    simp -implicitDefEqProofs (maxDischargeDepth := 12) only [wpF, cf99, WW,List.replicate,e_splice,if_true,if_false,ite_true,ite_false,true_or,ne_eq,seval,h_putc,beq_self_eq_true,eq_self,exists_eq_left,exists_eq_left', a.enc_eq, b.enc_eq, val_eq, h1, h2, h3]
    exact frz_sc
  by_cases h4 : a.ornament = b.ornament
  rotate_left
  · rw [decide_eq_false (fun k => h4 (k.2.2.2.1))]
    simp -implicitDefEqProofs (maxDischargeDepth := 12) only [wpF, cf99, WW,List.replicate,e_splice,if_true,if_false,ite_true,ite_false,true_or,ne_eq,seval,h_putc,beq_self_eq_true,eq_self,exists_eq_left,exists_eq_left', a.enc_eq, b.enc_eq, val_eq, h1, h2, h3, h4]
    exact frz_sc
  by_cases h5 : a.dynamic = b.dynamic
  rotate_left
  · rw [decide_eq_false (fun k => h5 (k.2.2.2.2.1))]
    simp -implicitDefEqProofs (maxDischargeDepth := 12) only [wpF, cf99, WW,List.replicate,e_splice,if_true,if_false,ite_true,ite_false,true_or,ne_eq,seval,h_putc,beq_self_eq_true,eq_self,exists_eq_left,exists_eq_left', a.enc_eq, b.enc_eq, val_eq, h1, h2, h3, h4, h5]
    exact frz_sc
  by_cases h6 : a.stem = b.stem
  rotate_left
  · rw [decide_eq_false (fun k => h6 (k.2.2.2.2.2.1))]
    simp -implicitDefEqProofs (maxDischargeDepth := 12) only [wpF, cf99, WW,List.replicate,e_splice,if_true,if_false,ite_true,ite_false,true_or,ne_eq,seval,h_putc,beq_self_eq_true,eq_self,exists_eq_left,exists_eq_left', a.enc_eq, b.enc_eq, val_eq, h1, h2, h3, h4, h5, h6]
    exact frz_sc
  by_cases h7 : a.beam = b.beam
  rotate_left
  · rw [decide_eq_false (fun k => h7 (k.2.2.2.2.2.2.1))]
    simp -implicitDefEqProofs (maxDischargeDepth := 12) only [wpF, cf99, WW,List.replicate,e_splice,if_true,if_false,ite_true,ite_false,true_or,ne_eq,seval,h_putc,beq_self_eq_true,eq_self,exists_eq_left,exists_eq_left', a.enc_eq, b.enc_eq, val_eq, h1, h2, h3, h4, h5, h6, h7]
    exact frz_sc
  by_cases h8 : (a.heads.l.length : Int) = (b.heads.l.length : Int)
  rotate_left
  · rw [decide_eq_false (fun k => h8 (by rw [k.2.2.2.2.2.2.2.1]))]
    simp -implicitDefEqProofs (maxDischargeDepth := 12) only [wpF, cf99, WW,List.replicate,e_splice,if_true,if_false,ite_true,ite_false,true_or,ne_eq,seval,h_putc,beq_self_eq_true,eq_self,exists_eq_left,exists_eq_left', a.enc_eq, b.enc_eq, val_eq, h1, h2, h3, h4, h5, h6, h7, h8]
    exact frz_sc
  by_cases h9 : (a.graces.l.length : Int) = (b.graces.l.length : Int)
  rotate_left
  · rw [decide_eq_false (fun k => h9 (by rw [k.2.2.2.2.2.2.2.2.1]))]
    simp -implicitDefEqProofs (maxDischargeDepth := 12) only [wpF, cf99, WW,List.replicate,e_splice,if_true,if_false,ite_true,ite_false,true_or,ne_eq,seval,h_putc,beq_self_eq_true,eq_self,exists_eq_left,exists_eq_left', a.enc_eq, b.enc_eq, val_eq, h1, h2, h3, h4, h5, h6, h7, h8, h9]
    exact frz_sc
  by_cases h10 : (a.lyrics.l.length : Int) = (b.lyrics.l.length : Int)
  rotate_left
  · rw [decide_eq_false (fun k => h10 (by rw [k.2.2.2.2.2.2.2.2.2]))]
    simp -implicitDefEqProofs (maxDischargeDepth := 12) only [wpF, cf99, WW,List.replicate,e_splice,if_true,if_false,ite_true,ite_false,true_or,ne_eq,seval,h_putc,beq_self_eq_true,eq_self,exists_eq_left,exists_eq_left', a.enc_eq, b.enc_eq, val_eq, h1, h2, h3, h4, h5, h6, h7, h8, h9, h10]
    exact frz_sc
  simp -implicitDefEqProofs (maxDischargeDepth := 12) only [wpF, cf99, WW,List.replicate,e_splice,if_true,if_false,ite_true,ite_false,true_or,ne_eq,seval,h_putc,beq_self_eq_true,eq_self,exists_eq_left,exists_eq_left', a.enc_eq, b.enc_eq, val_eq, eq_true h1, eq_true h2, eq_true h3, eq_true h4, eq_true h5, eq_true h6, eq_true h7, eq_true h8, eq_true h9, eq_true h10]
  refine wp_loop (Inv := fun k t H => ∃ (i : Nat), i + k = a.heads.l.length ∧ H.cells 0 = some a.enc.cells ∧ H.cells 1 = some b.enc.cells ∧ a.heads.l.take i = b.heads.l.take i ∧
    ∃ x : Nat → AV, t = [a.enc, b.enc, .ptr 0 0, .ptr 1 0, .sc (.bool false), .sc (.int .i64 i), x 6, x 7, x 8, x 9, x 10, x 11, x 12, x 13, x 14, x 15, x 16, x 17, x 18, x 19, x 20, x 21, x 22, x 23, x 24, x 25, x 26, x 27, x 28, x 29, x 30, x 31, x 32, x 33, x 34, x 35, x 36, x 37, x 38, x 39, x 40, x 41, x 42, x 43, x 44, x 45, x 46, x 47, x 48, x 49, x 50, x 51, x 52, x 53, x 54, x 55, x 56, x 57, x 58, x 59, x 60, x 61, x 62, x 63, x 64, x 65, x 66, x 67, x 68, x 69, x 70, x 71, x 72, x 73, x 74, x 75, x 76, x 77, x 78, x 79, x 80, x 81, x 82, x 83, x 84, x 85, x 86, x 87, x 88, x 89, x 90, x 91, x 92, x 93, x 94, x 95, x 96, x 97, x 98, x 99, x 100, x 101, x 102, x 103, x 104, x 105, x 106, x 107, x 108, x 109, x 110, x 111, x 112, x 113, x 114, x 115, x 116, x 117, x 118, x 119, x 120, x 121, x 122, x 123, x 124, x 125, x 126, x 127, x 128, x 129, x 130, x 131, x 132, x 133, x 134, x 135]) (k := a.heads.l.length) ?_
    ⟨0, by omega, ?_, ?_, rfl, ex_x rfl⟩
  rotate_left
  · simp -implicitDefEqProofs (maxDischargeDepth := 12) only [WW,List.replicate,e_splice,if_true,if_false,ite_true,ite_false,true_or,ne_eq,seval,h_putc,beq_self_eq_true,eq_self,exists_eq_left,exists_eq_left']; rfl
  · simp -implicitDefEqProofs (maxDischargeDepth := 12) only [WW,List.replicate,e_splice,if_true,if_false,ite_true,ite_false,true_or,ne_eq,seval,h_putc,beq_self_eq_true,eq_self,exists_eq_left,exists_eq_left']; rfl
  rintro k t H ⟨i, hk, hA, hB, ht, x, rfl⟩
  simp only [a.enc_eq, b.enc_eq, c_agg] at hA hB
  by_cases c1 : (i : Int) < (a.heads.l.length : Int)
  · obtain ⟨y, hy1⟩ : ∃ y, a.heads.l[i]? = some y := ⟨_, List.getElem?_eq_getElem (by omega)⟩
    obtain ⟨z, hz1⟩ : ∃ y, b.heads.l[i]? = some y := ⟨_, List.getElem?_eq_getElem (by omega)⟩
    have e2 : IntKind.i64.wrap ((i : Int) + 1) = ((i + 1 : Nat) : Int) := by rw [w64 (by omega) (by omega)]; omega
    by_cases c2 : y = z
    · subst c2
      simp -implicitDefEqProofs (maxDischargeDepth := 12) only [WW,List.replicate,e_splice,if_true,if_false,ite_true,ite_false,true_or,ne_eq,seval,h_putc,beq_self_eq_true,eq_self,exists_eq_left,exists_eq_left', hA, hB, c1, hy1, hz1, y.enc_eq, head_eq, e2]
      exact ⟨k - 1, by omega, i + 1, by omega, rfl, rfl, take_step hy1 hz1 ht, ex_x rfl⟩
    · rw [decide_eq_false (fun k => list_ne hy1 hz1 c2 k.1)]
      simp -implicitDefEqProofs (maxDischargeDepth := 12) only [WW,List.replicate,e_splice,if_true,if_false,ite_true,ite_false,true_or,ne_eq,seval,h_putc,beq_self_eq_true,eq_self,exists_eq_left,exists_eq_left', hA, hB, c1, hy1, hz1, y.enc_eq, z.enc_eq, head_eq, c2]
      exact frz_sc
  have headsE : a.heads.l = b.heads.l := by rw [List.take_of_length_le (by omega), List.take_of_length_le (by omega)] at ht; exact ht
  simp -implicitDefEqProofs (maxDischargeDepth := 12) only [WW,List.replicate,e_splice,if_true,if_false,ite_true,ite_false,true_or,ne_eq,seval,h_putc,beq_self_eq_true,eq_self,exists_eq_left,exists_eq_left', hA, hB, c1]
  refine wp_loop (Inv := fun k t H => ∃ (i : Nat), i + k = a.graces.l.length ∧ H.cells 0 = some a.enc.cells ∧ H.cells 1 = some b.enc.cells ∧ a.graces.l.take i = b.graces.l.take i ∧
    ∃ x : Nat → AV, t = [a.enc, b.enc, .ptr 0 0, .ptr 1 0, .sc (.bool false), x 5, .sc (.int .i64 i), x 7, x 8, x 9, x 10, x 11, x 12, x 13, x 14, x 15, x 16, x 17, x 18, x 19, x 20, x 21, x 22, x 23, x 24, x 25, x 26, x 27, x 28, x 29, x 30, x 31, x 32, x 33, x 34, x 35, x 36, x 37, x 38, x 39, x 40, x 41, x 42, x 43, x 44, x 45, x 46, x 47, x 48, x 49, x 50, x 51, x 52, x 53, x 54, x 55, x 56, x 57, x 58, x 59, x 60, x 61, x 62, x 63, x 64, x 65, x 66, x 67, x 68, x 69, x 70, x 71, x 72, x 73, x 74, x 75, x 76, x 77, x 78, x 79, x 80, x 81, x 82, x 83, x 84, x 85, x 86, x 87, x 88, x 89, x 90, x 91, x 92, x 93, x 94, x 95, x 96, x 97, x 98, x 99, x 100, x 101, x 102, x 103, x 104, x 105, x 106, x 107, x 108, x 109, x 110, x 111, x 112, x 113, x 114, x 115, x 116, x 117, x 118, x 119, x 120, x 121, x 122, x 123, x 124, x 125, x 126, x 127, x 128, x 129, x 130, x 131, x 132, x 133, x 134, x 135]) (k := a.graces.l.length) ?_
    ⟨0, by omega, hA, hB, rfl, ex_x rfl⟩
  clear hA hB ht x c1 hk
  rintro k t H ⟨i, hk, hA, hB, ht, x, rfl⟩
  simp only [a.enc_eq, b.enc_eq, c_agg] at hA hB
  by_cases c1 : (i : Int) < (a.graces.l.length : Int)
  · obtain ⟨y, hy1⟩ : ∃ y, a.graces.l[i]? = some y := ⟨_, List.getElem?_eq_getElem (by omega)⟩
    obtain ⟨z, hz1⟩ : ∃ y, b.graces.l[i]? = some y := ⟨_, List.getElem?_eq_getElem (by omega)⟩
    have e2 : IntKind.i64.wrap ((i : Int) + 1) = ((i + 1 : Nat) : Int) := by rw [w64 (by omega) (by omega)]; omega
    by_cases c2 : y = z
    · subst c2
      simp -implicitDefEqProofs (maxDischargeDepth := 12) only [WW,List.replicate,e_splice,if_true,if_false,ite_true,ite_false,true_or,ne_eq,seval,h_putc,beq_self_eq_true,eq_self,exists_eq_left,exists_eq_left', hA, hB, c1, hy1, hz1, y.enc_eq, grace_eq, e2]
      exact ⟨k - 1, by omega, i + 1, by omega, rfl, rfl, take_step hy1 hz1 ht, ex_x rfl⟩
    · rw [decide_eq_false (fun k => list_ne hy1 hz1 c2 k.2.1)]
      simp -implicitDefEqProofs (maxDischargeDepth := 12) only [WW,List.replicate,e_splice,if_true,if_false,ite_true,ite_false,true_or,ne_eq,seval,h_putc,beq_self_eq_true,eq_self,exists_eq_left,exists_eq_left', hA, hB, c1, hy1, hz1, y.enc_eq, z.enc_eq, grace_eq, c2]
      exact frz_sc
  have gracesE : a.graces.l = b.graces.l := by rw [List.take_of_length_le (by omega), List.take_of_length_le (by omega)] at ht; exact ht
  simp -implicitDefEqProofs (maxDischargeDepth := 12) only [WW,List.replicate,e_splice,if_true,if_false,ite_true,ite_false,true_or,ne_eq,seval,h_putc,beq_self_eq_true,eq_self,exists_eq_left,exists_eq_left', hA, hB, c1]
  refine wp_loop (Inv := fun k t H => ∃ (i : Nat), i + k = a.lyrics.l.length ∧ H.cells 0 = some a.enc.cells ∧ H.cells 1 = some b.enc.cells ∧ a.lyrics.l.take i = b.lyrics.l.take i ∧
    ∃ x : Nat → AV, t = [a.enc, b.enc, .ptr 0 0, .ptr 1 0, .sc (.bool false), x 5, x 6, .sc (.int .i64 i), x 8, x 9, x 10, x 11, x 12, x 13, x 14, x 15, x 16, x 17, x 18, x 19, x 20, x 21, x 22, x 23, x 24, x 25, x 26, x 27, x 28, x 29, x 30, x 31, x 32, x 33, x 34, x 35, x 36, x 37, x 38, x 39, x 40, x 41, x 42, x 43, x 44, x 45, x 46, x 47, x 48, x 49, x 50, x 51, x 52, x 53, x 54, x 55, x 56, x 57, x 58, x 59, x 60, x 61, x 62, x 63, x 64, x 65, x 66, x 67, x 68, x 69, x 70, x 71, x 72, x 73, x 74, x 75, x 76, x 77, x 78, x 79, x 80, x 81, x 82, x 83, x 84, x 85, x 86, x 87, x 88, x 89, x 90, x 91, x 92, x 93, x 94, x 95, x 96, x 97, x 98, x 99, x 100, x 101, x 102, x 103, x 104, x 105, x 106, x 107, x 108, x 109, x 110, x 111, x 112, x 113, x 114, x 115, x 116, x 117, x 118, x 119, x 120, x 121, x 122, x 123, x 124, x 125, x 126, x 127, x 128, x 129, x 130, x 131, x 132, x 133, x 134, x 135]) (k := a.lyrics.l.length) ?_
    ⟨0, by omega, hA, hB, rfl, ex_x rfl⟩
  clear hA hB ht x c1 hk
  rintro k t H ⟨i, hk, hA, hB, ht, x, rfl⟩
  simp only [a.enc_eq, b.enc_eq, c_agg] at hA hB
  by_cases c1 : (i : Int) < (a.lyrics.l.length : Int)
  · obtain ⟨y, hy1⟩ : ∃ y, a.lyrics.l[i]? = some y := ⟨_, List.getElem?_eq_getElem (by omega)⟩
    obtain ⟨z, hz1⟩ : ∃ y, b.lyrics.l[i]? = some y := ⟨_, List.getElem?_eq_getElem (by omega)⟩
    have e2 : IntKind.i64.wrap ((i : Int) + 1) = ((i + 1 : Nat) : Int) := by rw [w64 (by omega) (by omega)]; omega
    by_cases c2 : y = z
    · subst c2
      simp -implicitDefEqProofs (maxDischargeDepth := 12) only [WW,List.replicate,e_splice,if_true,if_false,ite_true,ite_false,true_or,ne_eq,seval,h_putc,beq_self_eq_true,eq_self,exists_eq_left,exists_eq_left', hA, hB, c1, hy1, hz1, y.enc_eq, syl_eq, e2]
      exact ⟨k - 1, by omega, i + 1, by omega, rfl, rfl, take_step hy1 hz1 ht, ex_x rfl⟩
    · rw [decide_eq_false (fun k => list_ne hy1 hz1 c2 k.2.2)]
      simp -implicitDefEqProofs (maxDischargeDepth := 12) only [WW,List.replicate,e_splice,if_true,if_false,ite_true,ite_false,true_or,ne_eq,seval,h_putc,beq_self_eq_true,eq_self,exists_eq_left,exists_eq_left', hA, hB, c1, hy1, hz1, y.enc_eq, z.enc_eq, syl_eq, c2]
      exact frz_sc
  have lyricsE : a.lyrics.l = b.lyrics.l := by rw [List.take_of_length_le (by omega), List.take_of_length_le (by omega)] at ht; exact ht
  simp -implicitDefEqProofs (maxDischargeDepth := 12) only [WW,List.replicate,e_splice,if_true,if_false,ite_true,ite_false,true_or,ne_eq,seval,h_putc,beq_self_eq_true,eq_self,exists_eq_left,exists_eq_left', hA, hB, c1]
  rw [decide_eq_true ⟨headsE, gracesE, lyricsE⟩]
  exact frz_sc
end Go.Hem
/- Walks: the reference's Same of voices, cells. -/
set_option maxRecDepth 10000
set_option maxHeartbeats 4000000
set_option linter.unusedSimpArgs false
set_option linter.unusedVariables false
namespace Go.Hem
variable {pol : Pol}
def Voice.cn (v : Voice) : Voice := { events := Sl.of (v.events.l.map Event.cn), tuplets := Sl.of v.tuplets.l }
theorem tup_eq {a b : Tuplet} : (decide (a.first = b.first) && (decide (a.count = b.count) && (decide (a.actual = b.actual) && decide (a.normal = b.normal)))) = decide (a = b) := by
  cases a; cases b; simp only [Tuplet.mk.injEq, Bool.decide_and]
theorem Voice.cn_iff {a b : Voice} : a.cn = b.cn ↔ a.events.l.map Event.cn = b.events.l.map Event.cn ∧ a.tuplets.l = b.tuplets.l := by
  unfold Voice.cn; simp only [Voice.mk.injEq, of_inj]
theorem cn_noid {a b : Event} : a.cn = b.cn ↔ a.id = b.id ∧ a.noid = b.noid := by
  unfold Event.noid Event.cn
  simp only [Event.mk.injEq, of_inj, true_and]
theorem map_step {α β : Type} {f : α → β} {l m : List α} {i : Nat} {x y : α} (hx : l[i]? = some x) (hy : m[i]? = some y) (e : f x = f y) (h : (l.take i).map f = (m.take i).map f) : (l.take (i + 1)).map f = (m.take (i + 1)).map f := by
  rw [List.take_add_one, List.take_add_one, hx, hy, List.map_append, List.map_append, h]; simp [e]
def Event.tame (e : Event) : Prop := e.heads.l.length < 1000000 ∧ e.graces.l.length < 1000000 ∧ e.lyrics.l.length < 1000000
def Voice.tame (v : Voice) : Prop := v.events.l.length < 1000000 ∧ v.tuplets.l.length < 1000000 ∧ ∀ e ∈ v.events.l, e.tame
theorem sameVoice_pv (hp : pol.pure 99 = true) (a b : Voice) (ha : a.tame) : Pv prog pol 50 [a.enc, b.enc] (.sc (.bool (decide (a.cn = b.cn)))) := by
  refine Pv_of' ok50 (by simp only [AV.closedBs, Voice.enc_closed, Bool.and_self]) ?_
  rw [show decide (a.cn = b.cn) = decide (a.events.l.map Event.cn = b.events.l.map Event.cn ∧ a.tuplets.l = b.tuplets.l) from decide_eq_decide.2 Voice.cn_iff]
  generalize hr : decide (a.events.l.map Event.cn = b.events.l.map Event.cn ∧ a.tuplets.l = b.tuplets.l) = r
  obtain ⟨b1, b2, b3⟩ := ha
  simp -implicitDefEqProofs (maxDischargeDepth := 12) only [wpF, cf50, WW,List.replicate,e_splice,if_true,if_false,ite_true,ite_false,true_or,ne_eq,seval,h_putc,beq_self_eq_true,eq_self,exists_eq_left,exists_eq_left', a.enc_eq, b.enc_eq]
  by_cases h1 : (a.events.l.length : Int) = (b.events.l.length : Int)
  rotate_left
  · rw [decide_eq_false (fun k => h1 (by have := congrArg List.length k.1; simp only [List.length_map] at this; omega))] at hr; subst hr
    simp -implicitDefEqProofs (maxDischargeDepth := 12) only [WW,List.replicate,e_splice,if_true,if_false,ite_true,ite_false,true_or,ne_eq,seval,h_putc,beq_self_eq_true,eq_self,exists_eq_left,exists_eq_left', h1]
    exact frz_sc
  simp -implicitDefEqProofs (maxDischargeDepth := 12) only [WW,List.replicate,e_splice,if_true,if_false,ite_true,ite_false,true_or,ne_eq,seval,h_putc,beq_self_eq_true,eq_self,exists_eq_left,exists_eq_left', eq_true h1]
  by_cases h2 : (a.tuplets.l.length : Int) = (b.tuplets.l.length : Int)
  rotate_left
  · rw [decide_eq_false (fun k => h2 (by rw [k.2]))] at hr; subst hr
    simp -implicitDefEqProofs (maxDischargeDepth := 12) only [WW,List.replicate,e_splice,if_true,if_false,ite_true,ite_false,true_or,ne_eq,seval,h_putc,beq_self_eq_true,eq_self,exists_eq_left,exists_eq_left', h2]
    exact frz_sc
  simp -implicitDefEqProofs (maxDischargeDepth := 12) only [WW,List.replicate,e_splice,if_true,if_false,ite_true,ite_false,true_or,ne_eq,seval,h_putc,beq_self_eq_true,eq_self,exists_eq_left,exists_eq_left', eq_true h2]
  refine wp_loop (Inv := fun k t H => ∃ (i : Nat), i + k = a.events.l.length ∧ H.cells 0 = some a.enc.cells ∧ H.cells 1 = some b.enc.cells ∧ (a.events.l.take i).map Event.cn = (b.events.l.take i).map Event.cn ∧
    ∃ x : Nat → AV, t = [a.enc, b.enc, .ptr 0 0, .ptr 1 0, .sc (.bool false), .sc (.int .i64 i), x 6, x 7, x 8, x 9, x 10, x 11, x 12, x 13, x 14, x 15, x 16, x 17, x 18, x 19, x 20, x 21, x 22, x 23, x 24, x 25, x 26, x 27, x 28, x 29, x 30, x 31, x 32, x 33, x 34, x 35, x 36, x 37, x 38, x 39, x 40, x 41, x 42, x 43, x 44, x 45, x 46, x 47, x 48, x 49, x 50, x 51, x 52, x 53, x 54, x 55, x 56, x 57, x 58, x 59, x 60, x 61, x 62, x 63, x 64, x 65, x 66, x 67, x 68, x 69, x 70, x 71, x 72, x 73, x 74]) (k := a.events.l.length) ?_
    ⟨0, by omega, ?_, ?_, rfl, ex_x rfl⟩
  rotate_left
  · simp -implicitDefEqProofs (maxDischargeDepth := 12) only [WW,List.replicate,e_splice,if_true,if_false,ite_true,ite_false,true_or,ne_eq,seval,h_putc,beq_self_eq_true,eq_self,exists_eq_left,exists_eq_left']; rfl
  · simp -implicitDefEqProofs (maxDischargeDepth := 12) only [WW,List.replicate,e_splice,if_true,if_false,ite_true,ite_false,true_or,ne_eq,seval,h_putc,beq_self_eq_true,eq_self,exists_eq_left,exists_eq_left']; rfl
  rintro k t H ⟨i, hk, hA, hB, ht, x, rfl⟩
  simp only [a.enc_eq, b.enc_eq, c_agg] at hA hB
  by_cases c1 : (i : Int) < (a.events.l.length : Int)
  · obtain ⟨y, hy1⟩ : ∃ y, a.events.l[i]? = some y := ⟨_, List.getElem?_eq_getElem (by omega)⟩
    obtain ⟨z, hz1⟩ : ∃ y, b.events.l[i]? = some y := ⟨_, List.getElem?_eq_getElem (by omega)⟩
    have e2 : IntKind.i64.wrap ((i : Int) + 1) = ((i + 1 : Nat) : Int) := by rw [w64 (by omega) (by omega)]; omega
    obtain ⟨t1, t2, t3⟩ := b3 y (List.mem_of_getElem? hy1)
    by_cases c2 : y.id = z.id
    · simp -implicitDefEqProofs (maxDischargeDepth := 12) only [WW,List.replicate,e_splice,if_true,if_false,ite_true,ite_false,true_or,ne_eq,seval,h_putc,beq_self_eq_true,eq_self,exists_eq_left,exists_eq_left', hA, hB, c1, hy1, hz1, y.enc_eq, z.enc_eq, id_eq, eq_true c2]
      rw [← y.enc_eq, ← z.enc_eq]
      refine wA_pure hp (same11_pv y z t1 t2 t3) ?_
      by_cases c3 : y.noid = z.noid
      · simp -implicitDefEqProofs (maxDischargeDepth := 12) only [WW,List.replicate,e_splice,if_true,if_false,ite_true,ite_false,true_or,ne_eq,seval,h_putc,beq_self_eq_true,eq_self,exists_eq_left,exists_eq_left', eq_true c3, e2]
        exact ⟨k - 1, by omega, i + 1, by omega, hA, hB, map_step hy1 hz1 (cn_noid.2 ⟨c2, c3⟩) ht, ex_x rfl⟩
      · rw [decide_eq_false (fun k => map_ne hy1 hz1 (fun e => c3 (cn_noid.1 e).2) k.1)] at hr; subst hr
        simp -implicitDefEqProofs (maxDischargeDepth := 12) only [WW,List.replicate,e_splice,if_true,if_false,ite_true,ite_false,true_or,ne_eq,seval,h_putc,beq_self_eq_true,eq_self,exists_eq_left,exists_eq_left', c3]
        exact frz_sc
    · rw [decide_eq_false (fun k => map_ne hy1 hz1 (fun e => c2 (cn_noid.1 e).1) k.1)] at hr; subst hr
      simp -implicitDefEqProofs (maxDischargeDepth := 12) only [WW,List.replicate,e_splice,if_true,if_false,ite_true,ite_false,true_or,ne_eq,seval,h_putc,beq_self_eq_true,eq_self,exists_eq_left,exists_eq_left', hA, hB, c1, hy1, hz1, y.enc_eq, z.enc_eq, id_eq, c2]
      exact frz_sc
  have evE : a.events.l.map Event.cn = b.events.l.map Event.cn := by rw [List.take_of_length_le (by omega), List.take_of_length_le (by omega)] at ht; exact ht
  simp -implicitDefEqProofs (maxDischargeDepth := 12) only [WW,List.replicate,e_splice,if_true,if_false,ite_true,ite_false,true_or,ne_eq,seval,h_putc,beq_self_eq_true,eq_self,exists_eq_left,exists_eq_left', hA, hB, c1]
  refine wp_loop (Inv := fun k t H => ∃ (i : Nat), i + k = a.tuplets.l.length ∧ H.cells 0 = some a.enc.cells ∧ H.cells 1 = some b.enc.cells ∧ a.tuplets.l.take i = b.tuplets.l.take i ∧
    ∃ x : Nat → AV, t = [a.enc, b.enc, .ptr 0 0, .ptr 1 0, .sc (.bool false), x 5, .sc (.int .i64 i), x 7, x 8, x 9, x 10, x 11, x 12, x 13, x 14, x 15, x 16, x 17, x 18, x 19, x 20, x 21, x 22, x 23, x 24, x 25, x 26, x 27, x 28, x 29, x 30, x 31, x 32, x 33, x 34, x 35, x 36, x 37, x 38, x 39, x 40, x 41, x 42, x 43, x 44, x 45, x 46, x 47, x 48, x 49, x 50, x 51, x 52, x 53, x 54, x 55, x 56, x 57, x 58, x 59, x 60, x 61, x 62, x 63, x 64, x 65, x 66, x 67, x 68, x 69, x 70, x 71, x 72, x 73, x 74]) (k := a.tuplets.l.length) ?_
    ⟨0, by omega, hA, hB, rfl, ex_x rfl⟩
  clear hA hB ht x c1 hk
  rintro k t H ⟨i, hk, hA, hB, ht, x, rfl⟩
  simp only [a.enc_eq, b.enc_eq, c_agg] at hA hB
  by_cases c1 : (i : Int) < (a.tuplets.l.length : Int)
  · obtain ⟨y, hy1⟩ : ∃ y, a.tuplets.l[i]? = some y := ⟨_, List.getElem?_eq_getElem (by omega)⟩
    obtain ⟨z, hz1⟩ : ∃ y, b.tuplets.l[i]? = some y := ⟨_, List.getElem?_eq_getElem (by omega)⟩
    have e2 : IntKind.i64.wrap ((i : Int) + 1) = ((i + 1 : Nat) : Int) := by rw [w64 (by omega) (by omega)]; omega
    by_cases c2 : y = z
    · subst c2
      simp -implicitDefEqProofs (maxDischargeDepth := 12) only [WW,List.replicate,e_splice,if_true,if_false,ite_true,ite_false,true_or,ne_eq,seval,h_putc,beq_self_eq_true,eq_self,exists_eq_left,exists_eq_left', hA, hB, c1, hy1, hz1, y.enc_eq, tup_eq, e2]
      exact ⟨k - 1, by omega, i + 1, by omega, rfl, rfl, take_step hy1 hz1 ht, ex_x rfl⟩
    · rw [decide_eq_false (fun k => list_ne hy1 hz1 c2 k.2)] at hr; subst hr
      simp -implicitDefEqProofs (maxDischargeDepth := 12) only [WW,List.replicate,e_splice,if_true,if_false,ite_true,ite_false,true_or,ne_eq,seval,h_putc,beq_self_eq_true,eq_self,exists_eq_left,exists_eq_left', hA, hB, c1, hy1, hz1, y.enc_eq, z.enc_eq, tup_eq, c2]
      exact frz_sc
  have tuE : a.tuplets.l = b.tuplets.l := by rw [List.take_of_length_le (by omega), List.take_of_length_le (by omega)] at ht; exact ht
  simp -implicitDefEqProofs (maxDischargeDepth := 12) only [WW,List.replicate,e_splice,if_true,if_false,ite_true,ite_false,true_or,ne_eq,seval,h_putc,beq_self_eq_true,eq_self,exists_eq_left,exists_eq_left', hA, hB, c1]
  rw [decide_eq_true ⟨evE, tuE⟩] at hr; subst hr
  exact frz_sc
end Go.Hem
/- Walks: the reference's Same of cells, measures. -/
set_option maxRecDepth 10000
set_option maxHeartbeats 4000000
set_option linter.unusedSimpArgs false
set_option linter.unusedVariables false
namespace Go.Hem
variable {pol : Pol}
def Cell.cn (c : Cell) : Cell := { clefs := Sl.of c.clefs.l, voices := Sl.of (c.voices.l.map Voice.cn) }
def Measure.cn (m : Measure) : Measure := { m with tempi := Sl.of m.tempi.l, cells := Sl.of (m.cells.l.map Cell.cn) }
def Cell.tame (c : Cell) : Prop := c.clefs.l.length < 1000000 ∧ c.voices.l.length < 1000000 ∧ ∀ v ∈ c.voices.l, v.tame
def Measure.tame (m : Measure) : Prop := m.tempi.l.length < 1000000 ∧ m.cells.l.length < 1000000 ∧ ∀ c ∈ m.cells.l, c.tame
theorem clef_eq {a b : ClefChange} : (decide (a.at_ = b.at_) && decide (a.clef = b.clef)) = decide (a = b) := by
  cases a; cases b; simp only [ClefChange.mk.injEq, Bool.decide_and]
theorem tempo_eq {a b : Tempo} : (decide (a.at_ = b.at_) && (decide (a.micros = b.micros) && (a.ramp == b.ramp))) = decide (a = b) := by
  obtain ⟨a1, a2, a3⟩ := a
  obtain ⟨b1, b2, b3⟩ := b
  have e : (a3 == b3) = decide (a3 = b3) := by cases a3 <;> cases b3 <;> rfl
  simp only [Tempo.mk.injEq, Bool.decide_and, e]
theorem metre_eq {a b : Metre} : (decide (a.count = b.count) && (decide (a.unit = b.unit) && (decide (a.g0 = b.g0) && (decide (a.g1 = b.g1) && (decide (a.g2 = b.g2) && (decide (a.g3 = b.g3) && (decide (a.g4 = b.g4) && decide (a.g5 = b.g5)))))))) = decide (a = b) := by
  cases a; cases b; simp only [Metre.mk.injEq, Bool.decide_and, Bool.and_assoc]
theorem bool_dec {a b : Bool} : (a == b) = decide (a = b) := by cases a <;> cases b <;> rfl
theorem Cell.cn_iff {a b : Cell} : a.cn = b.cn ↔ a.clefs.l = b.clefs.l ∧ a.voices.l.map Voice.cn = b.voices.l.map Voice.cn := by
  unfold Cell.cn; simp only [Cell.mk.injEq, of_inj]
theorem Measure.cn_tempi {a b : Measure} (k : a.cn = b.cn) : a.tempi.l = b.tempi.l := by
  have := congrArg (fun m : Measure => m.tempi.l) k
  simpa only [Measure.cn, l_of] using this
theorem Measure.cn_cells {a b : Measure} (k : a.cn = b.cn) : a.cells.l.map Cell.cn = b.cells.l.map Cell.cn := by
  have := congrArg (fun m : Measure => m.cells.l) k
  simpa only [Measure.cn, l_of] using this
theorem Measure.cn_mk {a b : Measure} (h1 : a.id = b.id) (h2 : a.metre = b.metre) (h3 : a.length = b.length) (h4 : a.fifths = b.fifths) (h5 : a.rstart = b.rstart) (h6 : a.rend = b.rend) (h7 : a.endings = b.endings) (h8 : a.jump = b.jump) (h9 : a.labels = b.labels) (h10 : a.swing = b.swing) (h11 : a.brk = b.brk) (h12 : a.rehearsal = b.rehearsal) (h13 : a.tempi.l = b.tempi.l) (h14 : a.cells.l.map Cell.cn = b.cells.l.map Cell.cn) : a.cn = b.cn := by
  unfold Measure.cn; rw [h1, h2, h3, h4, h5, h6, h7, h8, h9, h10, h11, h12, h13, h14]
theorem len_of_map {α β : Type} {f : α → β} {l m : List α} (h : l.map f = m.map f) : (l.length : Int) = (m.length : Int) := by
  have := congrArg List.length h; simp only [List.length_map] at this; omega
theorem sameCell_pv (hp : pol.pure 99 = true) (hp2 : pol.pure 50 = true) (a b : Cell) (ha : a.tame) : Pv prog pol 113 [a.enc, b.enc] (.sc (.bool (decide (a.cn = b.cn)))) := by
  refine Pv_of' ok113 (by simp only [AV.closedBs, Cell.enc_closed, Bool.and_self]) ?_
  obtain ⟨b1, b2, b3⟩ := ha
  generalize hr : decide (a.cn = b.cn) = r
  simp -implicitDefEqProofs (maxDischargeDepth := 12) only [wpF, cf113, WW,List.replicate,e_splice,if_true,if_false,ite_true,ite_false,true_or,ne_eq,seval,h_putc,beq_self_eq_true,eq_self,exists_eq_left,exists_eq_left', a.enc_eq, b.enc_eq, bool_dec]
  by_cases h1 : (a.clefs.l.length : Int) = (b.clefs.l.length : Int)
  rotate_left
  · rw [decide_eq_false (fun k : a.cn = b.cn => h1 (by rw [(Cell.cn_iff.1 k).1]))] at hr; subst hr
    simp -implicitDefEqProofs (maxDischargeDepth := 12) only [WW,List.replicate,e_splice,if_true,if_false,ite_true,ite_false,true_or,ne_eq,seval,h_putc,beq_self_eq_true,eq_self,exists_eq_left,exists_eq_left', h1, bool_dec]
    exact frz_sc
  simp -implicitDefEqProofs (maxDischargeDepth := 12) only [WW,List.replicate,e_splice,if_true,if_false,ite_true,ite_false,true_or,ne_eq,seval,h_putc,beq_self_eq_true,eq_self,exists_eq_left,exists_eq_left', eq_true h1, bool_dec]
  by_cases h2 : (a.voices.l.length : Int) = (b.voices.l.length : Int)
  rotate_left
  · rw [decide_eq_false (fun k : a.cn = b.cn => h2 (len_of_map (Cell.cn_iff.1 k).2))] at hr; subst hr
    simp -implicitDefEqProofs (maxDischargeDepth := 12) only [WW,List.replicate,e_splice,if_true,if_false,ite_true,ite_false,true_or,ne_eq,seval,h_putc,beq_self_eq_true,eq_self,exists_eq_left,exists_eq_left', h2, bool_dec]
    exact frz_sc
  simp -implicitDefEqProofs (maxDischargeDepth := 12) only [WW,List.replicate,e_splice,if_true,if_false,ite_true,ite_false,true_or,ne_eq,seval,h_putc,beq_self_eq_true,eq_self,exists_eq_left,exists_eq_left', eq_true h2, bool_dec]
  refine wp_loop (Inv := fun k t H => ∃ (i : Nat), i + k = a.clefs.l.length ∧ H.cells 0 = some a.enc.cells ∧ H.cells 1 = some b.enc.cells ∧ a.clefs.l.take i = b.clefs.l.take i ∧
    ∃ x : Nat → AV, t = [a.enc, b.enc, .ptr 0 0, .ptr 1 0, .sc (.bool false), .sc (.int .i64 i), x 6, x 7, x 8, x 9, x 10, x 11, x 12, x 13, x 14, x 15, x 16, x 17, x 18, x 19, x 20, x 21, x 22, x 23, x 24, x 25, x 26, x 27, x 28, x 29, x 30, x 31, x 32, x 33, x 34, x 35, x 36, x 37, x 38, x 39, x 40, x 41, x 42, x 43, x 44, x 45, x 46, x 47, x 48, x 49, x 50, x 51, x 52, x 53, x 54, x 55, x 56, x 57, x 58, x 59]) (k := a.clefs.l.length) ?_
    ⟨0, by omega, ?_, ?_, rfl, ex_x rfl⟩
  rotate_left
  · simp -implicitDefEqProofs (maxDischargeDepth := 12) only [WW,List.replicate,e_splice,if_true,if_false,ite_true,ite_false,true_or,ne_eq,seval,h_putc,beq_self_eq_true,eq_self,exists_eq_left,exists_eq_left']; rfl
  · simp -implicitDefEqProofs (maxDischargeDepth := 12) only [WW,List.replicate,e_splice,if_true,if_false,ite_true,ite_false,true_or,ne_eq,seval,h_putc,beq_self_eq_true,eq_self,exists_eq_left,exists_eq_left']; rfl
  rintro k t H ⟨i, hk, hA, hB, ht, x, rfl⟩
  simp only [a.enc_eq, b.enc_eq, c_agg] at hA hB
  by_cases c1 : (i : Int) < (a.clefs.l.length : Int)
  · obtain ⟨y, hy1⟩ : ∃ y, a.clefs.l[i]? = some y := ⟨_, List.getElem?_eq_getElem (by omega)⟩
    obtain ⟨z, hz1⟩ : ∃ y, b.clefs.l[i]? = some y := ⟨_, List.getElem?_eq_getElem (by omega)⟩
    have e2 : IntKind.i64.wrap ((i : Int) + 1) = ((i + 1 : Nat) : Int) := by rw [w64 (by omega) (by omega)]; omega
    by_cases c2 : y = z
    · subst c2
      simp -implicitDefEqProofs (maxDischargeDepth := 12) only [WW,List.replicate,e_splice,if_true,if_false,ite_true,ite_false,true_or,ne_eq,seval,h_putc,beq_self_eq_true,eq_self,exists_eq_left,exists_eq_left', hA, hB, c1, hy1, hz1, y.enc_eq, clef_eq, e2]
      exact ⟨k - 1, by omega, i + 1, by omega, rfl, rfl, take_step hy1 hz1 ht, ex_x rfl⟩
    · rw [decide_eq_false (fun k : a.cn = b.cn => list_ne hy1 hz1 c2 (Cell.cn_iff.1 k).1)] at hr; subst hr
      simp -implicitDefEqProofs (maxDischargeDepth := 12) only [WW,List.replicate,e_splice,if_true,if_false,ite_true,ite_false,true_or,ne_eq,seval,h_putc,beq_self_eq_true,eq_self,exists_eq_left,exists_eq_left', hA, hB, c1, hy1, hz1, y.enc_eq, z.enc_eq, clef_eq, c2]
      exact frz_sc
  have clefsE : a.clefs.l = b.clefs.l := by rw [List.take_of_length_le (by omega), List.take_of_length_le (by omega)] at ht; exact ht
  simp -implicitDefEqProofs (maxDischargeDepth := 12) only [WW,List.replicate,e_splice,if_true,if_false,ite_true,ite_false,true_or,ne_eq,seval,h_putc,beq_self_eq_true,eq_self,exists_eq_left,exists_eq_left', hA, hB, c1]
  refine wp_loop (Inv := fun k t H => ∃ (i : Nat), i + k = a.voices.l.length ∧ H.cells 0 = some a.enc.cells ∧ H.cells 1 = some b.enc.cells ∧ (a.voices.l.take i).map Voice.cn = (b.voices.l.take i).map Voice.cn ∧
    ∃ x : Nat → AV, t = [a.enc, b.enc, .ptr 0 0, .ptr 1 0, .sc (.bool false), x 5, .sc (.int .i64 i), x 7, x 8, x 9, x 10, x 11, x 12, x 13, x 14, x 15, x 16, x 17, x 18, x 19, x 20, x 21, x 22, x 23, x 24, x 25, x 26, x 27, x 28, x 29, x 30, x 31, x 32, x 33, x 34, x 35, x 36, x 37, x 38, x 39, x 40, x 41, x 42, x 43, x 44, x 45, x 46, x 47, x 48, x 49, x 50, x 51, x 52, x 53, x 54, x 55, x 56, x 57, x 58, x 59]) (k := a.voices.l.length) ?_
    ⟨0, by omega, hA, hB, rfl, ex_x rfl⟩
  clear hA hB ht x c1 hk
  rintro k t H ⟨i, hk, hA, hB, ht, x, rfl⟩
  simp only [a.enc_eq, b.enc_eq, c_agg] at hA hB
  by_cases c1 : (i : Int) < (a.voices.l.length : Int)
  · obtain ⟨y, hy1⟩ : ∃ y, a.voices.l[i]? = some y := ⟨_, List.getElem?_eq_getElem (by omega)⟩
    obtain ⟨z, hz1⟩ : ∃ y, b.voices.l[i]? = some y := ⟨_, List.getElem?_eq_getElem (by omega)⟩
    have e2 : IntKind.i64.wrap ((i : Int) + 1) = ((i + 1 : Nat) : Int) := by rw [w64 (by omega) (by omega)]; omega
    simp -implicitDefEqProofs (maxDischargeDepth := 12) only [WW,List.replicate,e_splice,if_true,if_false,ite_true,ite_false,true_or,ne_eq,seval,h_putc,beq_self_eq_true,eq_self,exists_eq_left,exists_eq_left', hA, hB, c1, hy1, hz1, y.enc_eq, z.enc_eq]
    rw [← y.enc_eq, ← z.enc_eq]
    refine wA_pure hp2 (sameVoice_pv hp y z (b3 y (List.mem_of_getElem? hy1))) ?_
    by_cases c3 : y.cn = z.cn
    · simp -implicitDefEqProofs (maxDischargeDepth := 12) only [WW,List.replicate,e_splice,if_true,if_false,ite_true,ite_false,true_or,ne_eq,seval,h_putc,beq_self_eq_true,eq_self,exists_eq_left,exists_eq_left', eq_true c3, e2]
      exact ⟨k - 1, by omega, i + 1, by omega, hA, hB, map_step hy1 hz1 c3 ht, ex_x rfl⟩
    · rw [decide_eq_false (fun k : a.cn = b.cn => map_ne hy1 hz1 c3 (Cell.cn_iff.1 k).2)] at hr; subst hr
      simp -implicitDefEqProofs (maxDischargeDepth := 12) only [WW,List.replicate,e_splice,if_true,if_false,ite_true,ite_false,true_or,ne_eq,seval,h_putc,beq_self_eq_true,eq_self,exists_eq_left,exists_eq_left', c3]
      exact frz_sc
  have voicesE : a.voices.l.map Voice.cn = b.voices.l.map Voice.cn := by rw [List.take_of_length_le (by omega), List.take_of_length_le (by omega)] at ht; exact ht
  simp -implicitDefEqProofs (maxDischargeDepth := 12) only [WW,List.replicate,e_splice,if_true,if_false,ite_true,ite_false,true_or,ne_eq,seval,h_putc,beq_self_eq_true,eq_self,exists_eq_left,exists_eq_left', hA, hB, c1]
  rw [decide_eq_true (Cell.cn_iff.2 ⟨clefsE, voicesE⟩)] at hr; subst hr
  exact frz_sc
theorem sameMeasure_pv (hp : pol.pure 99 = true) (hp2 : pol.pure 50 = true) (hp3 : pol.pure 113 = true) (a b : Measure) (ha : a.tame) : Pv prog pol 68 [a.enc, b.enc] (.sc (.bool (decide (a.cn = b.cn)))) := by
  refine Pv_of' ok68 (by simp only [AV.closedBs, Measure.enc_closed, Bool.and_self]) ?_
  obtain ⟨b1, b2, b3⟩ := ha
  generalize hr : decide (a.cn = b.cn) = r
  simp -implicitDefEqProofs (maxDischargeDepth := 12) only [wpF, cf68, WW,List.replicate,e_splice,if_true,if_false,ite_true,ite_false,true_or,ne_eq,seval,h_putc,beq_self_eq_true,eq_self,exists_eq_left,exists_eq_left', a.enc_eq, b.enc_eq, bool_dec, id_eq, metre_eq, toList_eq]
  by_cases h1 : a.id = b.id
  rotate_left
  · rw [decide_eq_false (fun k : a.cn = b.cn => h1 ((congrArg Measure.id k : a.cn.id = b.cn.id)))] at hr; subst hr
    simp -implicitDefEqProofs (maxDischargeDepth := 12) only [WW,List.replicate,e_splice,if_true,if_false,ite_true,ite_false,true_or,ne_eq,seval,h_putc,beq_self_eq_true,eq_self,exists_eq_left,exists_eq_left', h1, bool_dec, id_eq, metre_eq, toList_eq]
    exact frz_sc
  simp -implicitDefEqProofs (maxDischargeDepth := 12) only [WW,List.replicate,e_splice,if_true,if_false,ite_true,ite_false,true_or,ne_eq,seval,h_putc,beq_self_eq_true,eq_self,exists_eq_left,exists_eq_left', eq_true h1, bool_dec, id_eq, metre_eq, toList_eq]
  by_cases h2 : a.metre = b.metre
  rotate_left
  · rw [decide_eq_false (fun k : a.cn = b.cn => h2 ((congrArg Measure.metre k : a.cn.metre = b.cn.metre)))] at hr; subst hr
    simp -implicitDefEqProofs (maxDischargeDepth := 12) only [WW,List.replicate,e_splice,if_true,if_false,ite_true,ite_false,true_or,ne_eq,seval,h_putc,beq_self_eq_true,eq_self,exists_eq_left,exists_eq_left', h2, bool_dec, id_eq, metre_eq, toList_eq]
    exact frz_sc
  simp -implicitDefEqProofs (maxDischargeDepth := 12) only [WW,List.replicate,e_splice,if_true,if_false,ite_true,ite_false,true_or,ne_eq,seval,h_putc,beq_self_eq_true,eq_self,exists_eq_left,exists_eq_left', eq_true h2, bool_dec, id_eq, metre_eq, toList_eq]
  by_cases h3 : a.length = b.length
  rotate_left
  · rw [decide_eq_false (fun k : a.cn = b.cn => h3 ((congrArg Measure.length k : a.cn.length = b.cn.length)))] at hr; subst hr
    simp -implicitDefEqProofs (maxDischargeDepth := 12) only [WW,List.replicate,e_splice,if_true,if_false,ite_true,ite_false,true_or,ne_eq,seval,h_putc,beq_self_eq_true,eq_self,exists_eq_left,exists_eq_left', h3, bool_dec, id_eq, metre_eq, toList_eq]
    exact frz_sc
  simp -implicitDefEqProofs (maxDischargeDepth := 12) only [WW,List.replicate,e_splice,if_true,if_false,ite_true,ite_false,true_or,ne_eq,seval,h_putc,beq_self_eq_true,eq_self,exists_eq_left,exists_eq_left', eq_true h3, bool_dec, id_eq, metre_eq, toList_eq]
  by_cases h4 : a.fifths = b.fifths
  rotate_left
  · rw [decide_eq_false (fun k : a.cn = b.cn => h4 ((congrArg Measure.fifths k : a.cn.fifths = b.cn.fifths)))] at hr; subst hr
    simp -implicitDefEqProofs (maxDischargeDepth := 12) only [WW,List.replicate,e_splice,if_true,if_false,ite_true,ite_false,true_or,ne_eq,seval,h_putc,beq_self_eq_true,eq_self,exists_eq_left,exists_eq_left', h4, bool_dec, id_eq, metre_eq, toList_eq]
    exact frz_sc
  simp -implicitDefEqProofs (maxDischargeDepth := 12) only [WW,List.replicate,e_splice,if_true,if_false,ite_true,ite_false,true_or,ne_eq,seval,h_putc,beq_self_eq_true,eq_self,exists_eq_left,exists_eq_left', eq_true h4, bool_dec, id_eq, metre_eq, toList_eq]
  by_cases h5 : a.rstart = b.rstart
  rotate_left
  · rw [decide_eq_false (fun k : a.cn = b.cn => h5 ((congrArg Measure.rstart k : a.cn.rstart = b.cn.rstart)))] at hr; subst hr
    simp -implicitDefEqProofs (maxDischargeDepth := 12) only [WW,List.replicate,e_splice,if_true,if_false,ite_true,ite_false,true_or,ne_eq,seval,h_putc,beq_self_eq_true,eq_self,exists_eq_left,exists_eq_left', h5, bool_dec, id_eq, metre_eq, toList_eq]
    exact frz_sc
  simp -implicitDefEqProofs (maxDischargeDepth := 12) only [WW,List.replicate,e_splice,if_true,if_false,ite_true,ite_false,true_or,ne_eq,seval,h_putc,beq_self_eq_true,eq_self,exists_eq_left,exists_eq_left', eq_true h5, bool_dec, id_eq, metre_eq, toList_eq]
  by_cases h6 : a.rend = b.rend
  rotate_left
  · rw [decide_eq_false (fun k : a.cn = b.cn => h6 ((congrArg Measure.rend k : a.cn.rend = b.cn.rend)))] at hr; subst hr
    simp -implicitDefEqProofs (maxDischargeDepth := 12) only [WW,List.replicate,e_splice,if_true,if_false,ite_true,ite_false,true_or,ne_eq,seval,h_putc,beq_self_eq_true,eq_self,exists_eq_left,exists_eq_left', h6, bool_dec, id_eq, metre_eq, toList_eq]
    exact frz_sc
  simp -implicitDefEqProofs (maxDischargeDepth := 12) only [WW,List.replicate,e_splice,if_true,if_false,ite_true,ite_false,true_or,ne_eq,seval,h_putc,beq_self_eq_true,eq_self,exists_eq_left,exists_eq_left', eq_true h6, bool_dec, id_eq, metre_eq, toList_eq]
  by_cases h7 : a.endings = b.endings
  rotate_left
  · rw [decide_eq_false (fun k : a.cn = b.cn => h7 ((congrArg Measure.endings k : a.cn.endings = b.cn.endings)))] at hr; subst hr
    simp -implicitDefEqProofs (maxDischargeDepth := 12) only [WW,List.replicate,e_splice,if_true,if_false,ite_true,ite_false,true_or,ne_eq,seval,h_putc,beq_self_eq_true,eq_self,exists_eq_left,exists_eq_left', h7, bool_dec, id_eq, metre_eq, toList_eq]
    exact frz_sc
  simp -implicitDefEqProofs (maxDischargeDepth := 12) only [WW,List.replicate,e_splice,if_true,if_false,ite_true,ite_false,true_or,ne_eq,seval,h_putc,beq_self_eq_true,eq_self,exists_eq_left,exists_eq_left', eq_true h7, bool_dec, id_eq, metre_eq, toList_eq]
  by_cases h8 : a.jump = b.jump
  rotate_left
  · rw [decide_eq_false (fun k : a.cn = b.cn => h8 ((congrArg Measure.jump k : a.cn.jump = b.cn.jump)))] at hr; subst hr
    simp -implicitDefEqProofs (maxDischargeDepth := 12) only [WW,List.replicate,e_splice,if_true,if_false,ite_true,ite_false,true_or,ne_eq,seval,h_putc,beq_self_eq_true,eq_self,exists_eq_left,exists_eq_left', h8, bool_dec, id_eq, metre_eq, toList_eq]
    exact frz_sc
  simp -implicitDefEqProofs (maxDischargeDepth := 12) only [WW,List.replicate,e_splice,if_true,if_false,ite_true,ite_false,true_or,ne_eq,seval,h_putc,beq_self_eq_true,eq_self,exists_eq_left,exists_eq_left', eq_true h8, bool_dec, id_eq, metre_eq, toList_eq]
  by_cases h9 : a.labels = b.labels
  rotate_left
  · rw [decide_eq_false (fun k : a.cn = b.cn => h9 ((congrArg Measure.labels k : a.cn.labels = b.cn.labels)))] at hr; subst hr
    simp -implicitDefEqProofs (maxDischargeDepth := 12) only [WW,List.replicate,e_splice,if_true,if_false,ite_true,ite_false,true_or,ne_eq,seval,h_putc,beq_self_eq_true,eq_self,exists_eq_left,exists_eq_left', h9, bool_dec, id_eq, metre_eq, toList_eq]
    exact frz_sc
  simp -implicitDefEqProofs (maxDischargeDepth := 12) only [WW,List.replicate,e_splice,if_true,if_false,ite_true,ite_false,true_or,ne_eq,seval,h_putc,beq_self_eq_true,eq_self,exists_eq_left,exists_eq_left', eq_true h9, bool_dec, id_eq, metre_eq, toList_eq]
  by_cases h10 : a.swing = b.swing
  rotate_left
  · rw [decide_eq_false (fun k : a.cn = b.cn => h10 ((congrArg Measure.swing k : a.cn.swing = b.cn.swing)))] at hr; subst hr
    simp -implicitDefEqProofs (maxDischargeDepth := 12) only [WW,List.replicate,e_splice,if_true,if_false,ite_true,ite_false,true_or,ne_eq,seval,h_putc,beq_self_eq_true,eq_self,exists_eq_left,exists_eq_left', h10, bool_dec, id_eq, metre_eq, toList_eq]
    exact frz_sc
  simp -implicitDefEqProofs (maxDischargeDepth := 12) only [WW,List.replicate,e_splice,if_true,if_false,ite_true,ite_false,true_or,ne_eq,seval,h_putc,beq_self_eq_true,eq_self,exists_eq_left,exists_eq_left', eq_true h10, bool_dec, id_eq, metre_eq, toList_eq]
  by_cases h11 : a.brk = b.brk
  rotate_left
  · rw [decide_eq_false (fun k : a.cn = b.cn => h11 ((congrArg Measure.brk k : a.cn.brk = b.cn.brk)))] at hr; subst hr
    simp -implicitDefEqProofs (maxDischargeDepth := 12) only [WW,List.replicate,e_splice,if_true,if_false,ite_true,ite_false,true_or,ne_eq,seval,h_putc,beq_self_eq_true,eq_self,exists_eq_left,exists_eq_left', h11, bool_dec, id_eq, metre_eq, toList_eq]
    exact frz_sc
  simp -implicitDefEqProofs (maxDischargeDepth := 12) only [WW,List.replicate,e_splice,if_true,if_false,ite_true,ite_false,true_or,ne_eq,seval,h_putc,beq_self_eq_true,eq_self,exists_eq_left,exists_eq_left', eq_true h11, bool_dec, id_eq, metre_eq, toList_eq]
  by_cases h12 : a.rehearsal = b.rehearsal
  rotate_left
  · rw [decide_eq_false (fun k : a.cn = b.cn => h12 ((congrArg Measure.rehearsal k : a.cn.rehearsal = b.cn.rehearsal)))] at hr; subst hr
    simp -implicitDefEqProofs (maxDischargeDepth := 12) only [WW,List.replicate,e_splice,if_true,if_false,ite_true,ite_false,true_or,ne_eq,seval,h_putc,beq_self_eq_true,eq_self,exists_eq_left,exists_eq_left', h12, bool_dec, id_eq, metre_eq, toList_eq]
    exact frz_sc
  simp -implicitDefEqProofs (maxDischargeDepth := 12) only [WW,List.replicate,e_splice,if_true,if_false,ite_true,ite_false,true_or,ne_eq,seval,h_putc,beq_self_eq_true,eq_self,exists_eq_left,exists_eq_left', eq_true h12, bool_dec, id_eq, metre_eq, toList_eq]
  by_cases h13 : (a.tempi.l.length : Int) = (b.tempi.l.length : Int)
  rotate_left
  · rw [decide_eq_false (fun k : a.cn = b.cn => h13 (by rw [Measure.cn_tempi k]))] at hr; subst hr
    simp -implicitDefEqProofs (maxDischargeDepth := 12) only [WW,List.replicate,e_splice,if_true,if_false,ite_true,ite_false,true_or,ne_eq,seval,h_putc,beq_self_eq_true,eq_self,exists_eq_left,exists_eq_left', h13, bool_dec, id_eq, metre_eq, toList_eq]
    exact frz_sc
  simp -implicitDefEqProofs (maxDischargeDepth := 12) only [WW,List.replicate,e_splice,if_true,if_false,ite_true,ite_false,true_or,ne_eq,seval,h_putc,beq_self_eq_true,eq_self,exists_eq_left,exists_eq_left', eq_true h13, bool_dec, id_eq, metre_eq, toList_eq]
  by_cases h14 : (a.cells.l.length : Int) = (b.cells.l.length : Int)
  rotate_left
  · rw [decide_eq_false (fun k : a.cn = b.cn => h14 (len_of_map (Measure.cn_cells k)))] at hr; subst hr
    simp -implicitDefEqProofs (maxDischargeDepth := 12) only [WW,List.replicate,e_splice,if_true,if_false,ite_true,ite_false,true_or,ne_eq,seval,h_putc,beq_self_eq_true,eq_self,exists_eq_left,exists_eq_left', h14, bool_dec, id_eq, metre_eq, toList_eq]
    exact frz_sc
  simp -implicitDefEqProofs (maxDischargeDepth := 12) only [WW,List.replicate,e_splice,if_true,if_false,ite_true,ite_false,true_or,ne_eq,seval,h_putc,beq_self_eq_true,eq_self,exists_eq_left,exists_eq_left', eq_true h14, bool_dec, id_eq, metre_eq, toList_eq]
  refine wp_loop (Inv := fun k t H => ∃ (i : Nat), i + k = a.tempi.l.length ∧ H.cells 0 = some a.enc.cells ∧ H.cells 1 = some b.enc.cells ∧ a.tempi.l.take i = b.tempi.l.take i ∧
    ∃ x : Nat → AV, t = [a.enc, b.enc, .ptr 0 0, .ptr 1 0, .sc (.bool false), .sc (.int .i64 i), x 6, x 7, x 8, x 9, x 10, x 11, x 12, x 13, x 14, x 15, x 16, x 17, x 18, x 19, x 20, x 21, x 22, x 23, x 24, x 25, x 26, x 27, x 28, x 29, x 30, x 31, x 32, x 33, x 34, x 35, x 36, x 37, x 38, x 39, x 40, x 41, x 42, x 43, x 44, x 45, x 46, x 47, x 48, x 49, x 50, x 51, x 52, x 53, x 54, x 55, x 56, x 57, x 58, x 59, x 60, x 61, x 62, x 63, x 64, x 65, x 66, x 67, x 68, x 69, x 70, x 71, x 72, x 73, x 74, x 75, x 76, x 77, x 78, x 79, x 80, x 81, x 82, x 83, x 84, x 85, x 86, x 87, x 88, x 89, x 90, x 91, x 92, x 93, x 94, x 95, x 96, x 97, x 98, x 99, x 100, x 101, x 102, x 103, x 104, x 105, x 106, x 107, x 108, x 109, x 110, x 111, x 112, x 113, x 114, x 115, x 116, x 117, x 118, x 119, x 120, x 121, x 122, x 123, x 124, x 125, x 126, x 127, x 128, x 129, x 130, x 131, x 132, x 133, x 134, x 135, x 136, x 137, x 138, x 139, x 140, x 141, x 142, x 143]) (k := a.tempi.l.length) ?_
    ⟨0, by omega, ?_, ?_, rfl, ex_x rfl⟩
  rotate_left
  · simp -implicitDefEqProofs (maxDischargeDepth := 12) only [WW,List.replicate,e_splice,if_true,if_false,ite_true,ite_false,true_or,ne_eq,seval,h_putc,beq_self_eq_true,eq_self,exists_eq_left,exists_eq_left']; rfl
  · simp -implicitDefEqProofs (maxDischargeDepth := 12) only [WW,List.replicate,e_splice,if_true,if_false,ite_true,ite_false,true_or,ne_eq,seval,h_putc,beq_self_eq_true,eq_self,exists_eq_left,exists_eq_left']; rfl
  rintro k t H ⟨i, hk, hA, hB, ht, x, rfl⟩
  simp only [a.enc_eq, b.enc_eq, c_agg] at hA hB
  by_cases c1 : (i : Int) < (a.tempi.l.length : Int)
  · obtain ⟨y, hy1⟩ : ∃ y, a.tempi.l[i]? = some y := ⟨_, List.getElem?_eq_getElem (by omega)⟩
    obtain ⟨z, hz1⟩ : ∃ y, b.tempi.l[i]? = some y := ⟨_, List.getElem?_eq_getElem (by omega)⟩
    have e2 : IntKind.i64.wrap ((i : Int) + 1) = ((i + 1 : Nat) : Int) := by rw [w64 (by omega) (by omega)]; omega
    by_cases c2 : y = z
    · subst c2
      simp -implicitDefEqProofs (maxDischargeDepth := 12) only [WW,List.replicate,e_splice,if_true,if_false,ite_true,ite_false,true_or,ne_eq,seval,h_putc,beq_self_eq_true,eq_self,exists_eq_left,exists_eq_left', hA, hB, c1, hy1, hz1, y.enc_eq, tempo_eq, e2]
      exact ⟨k - 1, by omega, i + 1, by omega, rfl, rfl, take_step hy1 hz1 ht, ex_x rfl⟩
    · rw [decide_eq_false (fun k : a.cn = b.cn => list_ne hy1 hz1 c2 (Measure.cn_tempi k))] at hr; subst hr
      simp -implicitDefEqProofs (maxDischargeDepth := 12) only [WW,List.replicate,e_splice,if_true,if_false,ite_true,ite_false,true_or,ne_eq,seval,h_putc,beq_self_eq_true,eq_self,exists_eq_left,exists_eq_left', hA, hB, c1, hy1, hz1, y.enc_eq, z.enc_eq, tempo_eq, c2]
      exact frz_sc
  have tempiE : a.tempi.l = b.tempi.l := by rw [List.take_of_length_le (by omega), List.take_of_length_le (by omega)] at ht; exact ht
  simp -implicitDefEqProofs (maxDischargeDepth := 12) only [WW,List.replicate,e_splice,if_true,if_false,ite_true,ite_false,true_or,ne_eq,seval,h_putc,beq_self_eq_true,eq_self,exists_eq_left,exists_eq_left', hA, hB, c1]
  refine wp_loop (Inv := fun k t H => ∃ (i : Nat), i + k = a.cells.l.length ∧ H.cells 0 = some a.enc.cells ∧ H.cells 1 = some b.enc.cells ∧ (a.cells.l.take i).map Cell.cn = (b.cells.l.take i).map Cell.cn ∧
    ∃ x : Nat → AV, t = [a.enc, b.enc, .ptr 0 0, .ptr 1 0, .sc (.bool false), x 5, .sc (.int .i64 i), x 7, x 8, x 9, x 10, x 11, x 12, x 13, x 14, x 15, x 16, x 17, x 18, x 19, x 20, x 21, x 22, x 23, x 24, x 25, x 26, x 27, x 28, x 29, x 30, x 31, x 32, x 33, x 34, x 35, x 36, x 37, x 38, x 39, x 40, x 41, x 42, x 43, x 44, x 45, x 46, x 47, x 48, x 49, x 50, x 51, x 52, x 53, x 54, x 55, x 56, x 57, x 58, x 59, x 60, x 61, x 62, x 63, x 64, x 65, x 66, x 67, x 68, x 69, x 70, x 71, x 72, x 73, x 74, x 75, x 76, x 77, x 78, x 79, x 80, x 81, x 82, x 83, x 84, x 85, x 86, x 87, x 88, x 89, x 90, x 91, x 92, x 93, x 94, x 95, x 96, x 97, x 98, x 99, x 100, x 101, x 102, x 103, x 104, x 105, x 106, x 107, x 108, x 109, x 110, x 111, x 112, x 113, x 114, x 115, x 116, x 117, x 118, x 119, x 120, x 121, x 122, x 123, x 124, x 125, x 126, x 127, x 128, x 129, x 130, x 131, x 132, x 133, x 134, x 135, x 136, x 137, x 138, x 139, x 140, x 141, x 142, x 143]) (k := a.cells.l.length) ?_
    ⟨0, by omega, hA, hB, rfl, ex_x rfl⟩
  clear hA hB ht x c1 hk
  rintro k t H ⟨i, hk, hA, hB, ht, x, rfl⟩
  simp only [a.enc_eq, b.enc_eq, c_agg] at hA hB
  by_cases c1 : (i : Int) < (a.cells.l.length : Int)
  · obtain ⟨y, hy1⟩ : ∃ y, a.cells.l[i]? = some y := ⟨_, List.getElem?_eq_getElem (by omega)⟩
    obtain ⟨z, hz1⟩ : ∃ y, b.cells.l[i]? = some y := ⟨_, List.getElem?_eq_getElem (by omega)⟩
    have e2 : IntKind.i64.wrap ((i : Int) + 1) = ((i + 1 : Nat) : Int) := by rw [w64 (by omega) (by omega)]; omega
    simp -implicitDefEqProofs (maxDischargeDepth := 12) only [WW,List.replicate,e_splice,if_true,if_false,ite_true,ite_false,true_or,ne_eq,seval,h_putc,beq_self_eq_true,eq_self,exists_eq_left,exists_eq_left', hA, hB, c1, hy1, hz1, y.enc_eq, z.enc_eq]
    rw [← y.enc_eq, ← z.enc_eq]
    refine wA_pure hp3 (sameCell_pv hp hp2 y z (b3 y (List.mem_of_getElem? hy1))) ?_
    by_cases c3 : y.cn = z.cn
    · simp -implicitDefEqProofs (maxDischargeDepth := 12) only [WW,List.replicate,e_splice,if_true,if_false,ite_true,ite_false,true_or,ne_eq,seval,h_putc,beq_self_eq_true,eq_self,exists_eq_left,exists_eq_left', eq_true c3, e2]
      exact ⟨k - 1, by omega, i + 1, by omega, hA, hB, map_step hy1 hz1 c3 ht, ex_x rfl⟩
    · rw [decide_eq_false (fun k : a.cn = b.cn => map_ne hy1 hz1 c3 (Measure.cn_cells k))] at hr; subst hr
      simp -implicitDefEqProofs (maxDischargeDepth := 12) only [WW,List.replicate,e_splice,if_true,if_false,ite_true,ite_false,true_or,ne_eq,seval,h_putc,beq_self_eq_true,eq_self,exists_eq_left,exists_eq_left', c3]
      exact frz_sc
  have cellsE : a.cells.l.map Cell.cn = b.cells.l.map Cell.cn := by rw [List.take_of_length_le (by omega), List.take_of_length_le (by omega)] at ht; exact ht
  simp -implicitDefEqProofs (maxDischargeDepth := 12) only [WW,List.replicate,e_splice,if_true,if_false,ite_true,ite_false,true_or,ne_eq,seval,h_putc,beq_self_eq_true,eq_self,exists_eq_left,exists_eq_left', hA, hB, c1]
  rw [decide_eq_true (Measure.cn_mk h1 h2 h3 h4 h5 h6 h7 h8 h9 h10 h11 h12 tempiE cellsE)] at hr; subst hr
  exact frz_sc
end Go.Hem
/- Walks: the reference's Same of scores. -/
set_option maxRecDepth 10000
set_option maxHeartbeats 4000000
set_option linter.unusedSimpArgs false
set_option linter.unusedVariables false
namespace Go.Hem
variable {pol : Pol}
def Part.cn (p : Part) : Part := { p with staves := Sl.of p.staves.l }
def Score.cn (s : Score) : Score := { s with parts := Sl.of (s.parts.l.map Part.cn), measures := Sl.of (s.measures.l.map Measure.cn), spanners := Sl.of s.spanners.l, last := Sl.of s.last.l }
def Part.tame (p : Part) : Prop := p.staves.l.length < 1000000
structure Score.tame (s : Score) : Prop where
  parts : s.parts.l.length < 1000000
  part : ∀ p ∈ s.parts.l, p.tame
  measures : s.measures.l.length < 1000000
  measure : ∀ m ∈ s.measures.l, m.tame
  spanners : s.spanners.l.length < 1000000
  last : s.last.l.length < 1000000
theorem staff_eq {a b : Staff} : (decide (a.id.site = b.id.site) && (decide (a.id.number = b.id.number) && decide (a.clef = b.clef))) = decide (a = b) := by
  obtain ⟨⟨a1, a2⟩, a3⟩ := a
  obtain ⟨⟨b1, b2⟩, b3⟩ := b
  simp only [Staff.mk.injEq, ID.mk.injEq, Bool.decide_and, Bool.and_assoc]
theorem interval_eq {a b : Interval} : (decide (a.steps = b.steps) && decide (a.semitones = b.semitones)) = decide (a = b) := by
  cases a; cases b; simp only [Interval.mk.injEq, Bool.decide_and]
theorem spanner_eq {a b : Spanner} : (decide (a.id.site = b.id.site) && (decide (a.id.number = b.id.number) && (decide (a.kind = b.kind) && (decide (a.from_.site = b.from_.site) && (decide (a.from_.number = b.from_.number) && (decide (a.to.site = b.to.site) && decide (a.to.number = b.to.number))))))) = decide (a = b) := by
  obtain ⟨⟨a1, a2⟩, a3, ⟨a4, a5⟩, ⟨a6, a7⟩⟩ := a
  obtain ⟨⟨b1, b2⟩, b3, ⟨b4, b5⟩, ⟨b6, b7⟩⟩ := b
  simp only [Spanner.mk.injEq, ID.mk.injEq, Bool.decide_and, Bool.and_assoc]
theorem Part.cn_staves {a b : Part} (k : a.cn = b.cn) : a.staves.l = b.staves.l := by
  have := congrArg (fun m : Part => m.staves.l) k
  simpa only [Part.cn, l_of] using this
theorem Part.cn_mk {a b : Part} (h1 : a.id = b.id) (h2 : a.name = b.name) (h3 : a.transpose = b.transpose) (h4 : a.staves.l = b.staves.l) : a.cn = b.cn := by
  unfold Part.cn; rw [h1, h2, h3, h4]
theorem Score.cn_parts {a b : Score} (k : a.cn = b.cn) : a.parts.l.map Part.cn = b.parts.l.map Part.cn := by
  have := congrArg (fun m : Score => m.parts.l) k
  simpa only [Score.cn, l_of] using this
theorem Score.cn_measures {a b : Score} (k : a.cn = b.cn) : a.measures.l.map Measure.cn = b.measures.l.map Measure.cn := by
  have := congrArg (fun m : Score => m.measures.l) k
  simpa only [Score.cn, l_of] using this
theorem Score.cn_spanners {a b : Score} (k : a.cn = b.cn) : a.spanners.l = b.spanners.l := by
  have := congrArg (fun m : Score => m.spanners.l) k
  simpa only [Score.cn, l_of] using this
theorem Score.cn_last {a b : Score} (k : a.cn = b.cn) : a.last.l = b.last.l := by
  have := congrArg (fun m : Score => m.last.l) k
  simpa only [Score.cn, l_of] using this
theorem Score.cn_mk {a b : Score} (h1 : a.title = b.title) (h2 : a.written = b.written) (h3 : a.parts.l.map Part.cn = b.parts.l.map Part.cn) (h4 : a.measures.l.map Measure.cn = b.measures.l.map Measure.cn) (h5 : a.spanners.l = b.spanners.l) (h6 : a.last.l = b.last.l) : a.cn = b.cn := by
  unfold Score.cn; rw [h1, h2, h3, h4, h5, h6]
theorem same_pv (hp : pol.pure 99 = true) (hp2 : pol.pure 50 = true) (hp3 : pol.pure 113 = true) (hp4 : pol.pure 68 = true) (a b : Score) (ha : a.tame) : Pv prog pol 28 [a.enc, b.enc] (.sc (.bool (decide (a.cn = b.cn)))) := by
  refine Pv_of' ok28 (by simp only [AV.closedBs, Score.enc_closed, Bool.and_self]) ?_
  obtain ⟨b1, b2, b3, b4, b5, b6⟩ := ha
  generalize hr : decide (a.cn = b.cn) = r
  simp -implicitDefEqProofs (maxDischargeDepth := 12) only [wpF, cf28, WW,List.replicate,e_splice,if_true,if_false,ite_true,ite_false,true_or,ne_eq,seval,h_putc,beq_self_eq_true,eq_self,exists_eq_left,exists_eq_left', a.enc_eq, b.enc_eq, bool_dec, id_eq, metre_eq, toList_eq]
  by_cases h1 : a.title = b.title
  rotate_left
  · rw [decide_eq_false (fun k : a.cn = b.cn => h1 ((congrArg Score.title k : a.cn.title = b.cn.title)))] at hr; subst hr
    simp -implicitDefEqProofs (maxDischargeDepth := 12) only [WW,List.replicate,e_splice,if_true,if_false,ite_true,ite_false,true_or,ne_eq,seval,h_putc,beq_self_eq_true,eq_self,exists_eq_left,exists_eq_left', h1, bool_dec, id_eq, metre_eq, toList_eq]
    exact frz_sc
  simp -implicitDefEqProofs (maxDischargeDepth := 12) only [WW,List.replicate,e_splice,if_true,if_false,ite_true,ite_false,true_or,ne_eq,seval,h_putc,beq_self_eq_true,eq_self,exists_eq_left,exists_eq_left', eq_true h1, bool_dec, id_eq, metre_eq, toList_eq]
  by_cases h2 : a.written = b.written
  rotate_left
  · rw [decide_eq_false (fun k : a.cn = b.cn => h2 ((congrArg Score.written k : a.cn.written = b.cn.written)))] at hr; subst hr
    simp -implicitDefEqProofs (maxDischargeDepth := 12) only [WW,List.replicate,e_splice,if_true,if_false,ite_true,ite_false,true_or,ne_eq,seval,h_putc,beq_self_eq_true,eq_self,exists_eq_left,exists_eq_left', h2, bool_dec, id_eq, metre_eq, toList_eq]
    exact frz_sc
  simp -implicitDefEqProofs (maxDischargeDepth := 12) only [WW,List.replicate,e_splice,if_true,if_false,ite_true,ite_false,true_or,ne_eq,seval,h_putc,beq_self_eq_true,eq_self,exists_eq_left,exists_eq_left', eq_true h2, bool_dec, id_eq, metre_eq, toList_eq]
  by_cases h3 : (a.parts.l.length : Int) = (b.parts.l.length : Int)
  rotate_left
  · rw [decide_eq_false (fun k : a.cn = b.cn => h3 (len_of_map (Score.cn_parts k)))] at hr; subst hr
    simp -implicitDefEqProofs (maxDischargeDepth := 12) only [WW,List.replicate,e_splice,if_true,if_false,ite_true,ite_false,true_or,ne_eq,seval,h_putc,beq_self_eq_true,eq_self,exists_eq_left,exists_eq_left', h3, bool_dec, id_eq, metre_eq, toList_eq]
    exact frz_sc
  simp -implicitDefEqProofs (maxDischargeDepth := 12) only [WW,List.replicate,e_splice,if_true,if_false,ite_true,ite_false,true_or,ne_eq,seval,h_putc,beq_self_eq_true,eq_self,exists_eq_left,exists_eq_left', eq_true h3, bool_dec, id_eq, metre_eq, toList_eq]
  by_cases h4 : (a.measures.l.length : Int) = (b.measures.l.length : Int)
  rotate_left
  · rw [decide_eq_false (fun k : a.cn = b.cn => h4 (len_of_map (Score.cn_measures k)))] at hr; subst hr
    simp -implicitDefEqProofs (maxDischargeDepth := 12) only [WW,List.replicate,e_splice,if_true,if_false,ite_true,ite_false,true_or,ne_eq,seval,h_putc,beq_self_eq_true,eq_self,exists_eq_left,exists_eq_left', h4, bool_dec, id_eq, metre_eq, toList_eq]
    exact frz_sc
  simp -implicitDefEqProofs (maxDischargeDepth := 12) only [WW,List.replicate,e_splice,if_true,if_false,ite_true,ite_false,true_or,ne_eq,seval,h_putc,beq_self_eq_true,eq_self,exists_eq_left,exists_eq_left', eq_true h4, bool_dec, id_eq, metre_eq, toList_eq]
  by_cases h5 : (a.spanners.l.length : Int) = (b.spanners.l.length : Int)
  rotate_left
  · rw [decide_eq_false (fun k : a.cn = b.cn => h5 (by rw [Score.cn_spanners k]))] at hr; subst hr
    simp -implicitDefEqProofs (maxDischargeDepth := 12) only [WW,List.replicate,e_splice,if_true,if_false,ite_true,ite_false,true_or,ne_eq,seval,h_putc,beq_self_eq_true,eq_self,exists_eq_left,exists_eq_left', h5, bool_dec, id_eq, metre_eq, toList_eq]
    exact frz_sc
  simp -implicitDefEqProofs (maxDischargeDepth := 12) only [WW,List.replicate,e_splice,if_true,if_false,ite_true,ite_false,true_or,ne_eq,seval,h_putc,beq_self_eq_true,eq_self,exists_eq_left,exists_eq_left', eq_true h5, bool_dec, id_eq, metre_eq, toList_eq]
  by_cases h6 : (a.last.l.length : Int) = (b.last.l.length : Int)
  rotate_left
  · rw [decide_eq_false (fun k : a.cn = b.cn => h6 (by rw [Score.cn_last k]))] at hr; subst hr
    simp -implicitDefEqProofs (maxDischargeDepth := 12) only [WW,List.replicate,e_splice,if_true,if_false,ite_true,ite_false,true_or,ne_eq,seval,h_putc,beq_self_eq_true,eq_self,exists_eq_left,exists_eq_left', h6, bool_dec, id_eq, metre_eq, toList_eq]
    exact frz_sc
  simp -implicitDefEqProofs (maxDischargeDepth := 12) only [WW,List.replicate,e_splice,if_true,if_false,ite_true,ite_false,true_or,ne_eq,seval,h_putc,beq_self_eq_true,eq_self,exists_eq_left,exists_eq_left', eq_true h6, bool_dec, id_eq, metre_eq, toList_eq]
  refine wp_loop (Inv := fun k t H => ∃ (i : Nat), i + k = a.parts.l.length ∧ H.cells 0 = some a.enc.cells ∧ H.cells 1 = some b.enc.cells ∧ (a.parts.l.take i).map Part.cn = (b.parts.l.take i).map Part.cn ∧
    ∃ x : Nat → AV, t = [a.enc, b.enc, .ptr 0 0, .ptr 1 0, .sc (.bool false), .sc (.int .i64 i), x 6, x 7, x 8, x 9, x 10, x 11, x 12, x 13, x 14, x 15, x 16, x 17, x 18, x 19, x 20, x 21, x 22, x 23, x 24, x 25, x 26, x 27, x 28, x 29, x 30, x 31, x 32, x 33, x 34, x 35, x 36, x 37, x 38, x 39, x 40, x 41, x 42, x 43, x 44, x 45, x 46, x 47, x 48, x 49, x 50, x 51, x 52, x 53, x 54, x 55, x 56, x 57, x 58, x 59, x 60, x 61, x 62, x 63, x 64, x 65, x 66, x 67, x 68, x 69, x 70, x 71, x 72, x 73, x 74, x 75, x 76, x 77, x 78, x 79, x 80, x 81, x 82, x 83, x 84, x 85, x 86, x 87, x 88, x 89, x 90, x 91, x 92, x 93, x 94, x 95, x 96, x 97, x 98, x 99, x 100, x 101, x 102, x 103, x 104, x 105, x 106, x 107, x 108, x 109, x 110, x 111, x 112, x 113, x 114, x 115, x 116, x 117, x 118, x 119, x 120, x 121, x 122, x 123, x 124, x 125, x 126, x 127, x 128, x 129, x 130, x 131, x 132, x 133, x 134, x 135, x 136, x 137, x 138, x 139, x 140, x 141, x 142, x 143, x 144, x 145, x 146, x 147, x 148, x 149, x 150, x 151, x 152, x 153, x 154, x 155, x 156, x 157, x 158, x 159, x 160, x 161, x 162, x 163, x 164, x 165, x 166, x 167, x 168, x 169, x 170, x 171, x 172, x 173, x 174, x 175, x 176, x 177]) (k := a.parts.l.length) ?_
    ⟨0, by omega, ?_, ?_, rfl, ex_x rfl⟩
  rotate_left
  · simp -implicitDefEqProofs (maxDischargeDepth := 12) only [WW,List.replicate,e_splice,if_true,if_false,ite_true,ite_false,true_or,ne_eq,seval,h_putc,beq_self_eq_true,eq_self,exists_eq_left,exists_eq_left']; rfl
  · simp -implicitDefEqProofs (maxDischargeDepth := 12) only [WW,List.replicate,e_splice,if_true,if_false,ite_true,ite_false,true_or,ne_eq,seval,h_putc,beq_self_eq_true,eq_self,exists_eq_left,exists_eq_left']; rfl
  rintro k t H ⟨i, hk, hA, hB, ht, x, rfl⟩
  have g0 := h_lt hA
  have g1 := h_lt hB
  simp only [a.enc_eq, b.enc_eq, c_agg] at hA hB
  by_cases c1 : (i : Int) < (a.parts.l.length : Int)
  · obtain ⟨y, hy1⟩ : ∃ y, a.parts.l[i]? = some y := ⟨_, List.getElem?_eq_getElem (by omega)⟩
    obtain ⟨z, hz1⟩ : ∃ y, b.parts.l[i]? = some y := ⟨_, List.getElem?_eq_getElem (by omega)⟩
    have e2 : IntKind.i64.wrap ((i : Int) + 1) = ((i + 1 : Nat) : Int) := by rw [w64 (by omega) (by omega)]; omega
    have hty := b2 y (List.mem_of_getElem? hy1)
    have f0 : ¬ 0 = H.next := by omega
    have f1 : ¬ 1 = H.next := by omega
    have f2 : ¬ 0 = H.next + 1 := by omega
    have f3 : ¬ 1 = H.next + 1 := by omega
    have f4 : ¬ H.next = H.next + 1 := by omega
    have f5 : ¬ H.next = 0 := by omega
    have f6 : ¬ H.next = 1 := by omega
    simp -implicitDefEqProofs (maxDischargeDepth := 12) only [WW,List.replicate,e_splice,if_true,if_false,ite_true,ite_false,true_or,ne_eq,seval,h_putc,beq_self_eq_true,eq_self,exists_eq_left,exists_eq_left', hA, hB, c1, hy1, hz1, y.enc_eq, z.enc_eq, id_eq, interval_eq, toList_eq, f0, f1, f2, f3, f4, f5, f6]
    by_cases d0 : y.id = z.id
    rotate_left
    · rw [decide_eq_false (fun k => map_ne hy1 hz1 (fun e => d0 ((congrArg Part.id e : y.cn.id = z.cn.id))) (Score.cn_parts k))] at hr; subst hr
      simp -implicitDefEqProofs (maxDischargeDepth := 12) only [WW,List.replicate,e_splice,if_true,if_false,ite_true,ite_false,true_or,ne_eq,seval,h_putc,beq_self_eq_true,eq_self,exists_eq_left,exists_eq_left', d0, id_eq, interval_eq, toList_eq]
      exact frz_sc
    simp -implicitDefEqProofs (maxDischargeDepth := 12) only [WW,List.replicate,e_splice,if_true,if_false,ite_true,ite_false,true_or,ne_eq,seval,h_putc,beq_self_eq_true,eq_self,exists_eq_left,exists_eq_left', eq_true d0, id_eq, interval_eq, toList_eq, f0, f1, f2, f3, f4, f5, f6, hA, hB]
    by_cases d1 : y.name = z.name
    rotate_left
    · rw [decide_eq_false (fun k => map_ne hy1 hz1 (fun e => d1 ((congrArg Part.name e : y.cn.name = z.cn.name))) (Score.cn_parts k))] at hr; subst hr
      simp -implicitDefEqProofs (maxDischargeDepth := 12) only [WW,List.replicate,e_splice,if_true,if_false,ite_true,ite_false,true_or,ne_eq,seval,h_putc,beq_self_eq_true,eq_self,exists_eq_left,exists_eq_left', d1, id_eq, interval_eq, toList_eq]
      exact frz_sc
    simp -implicitDefEqProofs (maxDischargeDepth := 12) only [WW,List.replicate,e_splice,if_true,if_false,ite_true,ite_false,true_or,ne_eq,seval,h_putc,beq_self_eq_true,eq_self,exists_eq_left,exists_eq_left', eq_true d1, id_eq, interval_eq, toList_eq, f0, f1, f2, f3, f4, f5, f6, hA, hB]
    by_cases d2 : y.transpose = z.transpose
    rotate_left
    · rw [decide_eq_false (fun k => map_ne hy1 hz1 (fun e => d2 ((congrArg Part.transpose e : y.cn.transpose = z.cn.transpose))) (Score.cn_parts k))] at hr; subst hr
      simp -implicitDefEqProofs (maxDischargeDepth := 12) only [WW,List.replicate,e_splice,if_true,if_false,ite_true,ite_false,true_or,ne_eq,seval,h_putc,beq_self_eq_true,eq_self,exists_eq_left,exists_eq_left', d2, id_eq, interval_eq, toList_eq]
      exact frz_sc
    simp -implicitDefEqProofs (maxDischargeDepth := 12) only [WW,List.replicate,e_splice,if_true,if_false,ite_true,ite_false,true_or,ne_eq,seval,h_putc,beq_self_eq_true,eq_self,exists_eq_left,exists_eq_left', eq_true d2, id_eq, interval_eq, toList_eq, f0, f1, f2, f3, f4, f5, f6, hA, hB]
    by_cases d3 : (y.staves.l.length : Int) = (z.staves.l.length : Int)
    rotate_left
    · rw [decide_eq_false (fun k => map_ne hy1 hz1 (fun e => d3 (by rw [Part.cn_staves e])) (Score.cn_parts k))] at hr; subst hr
      simp -implicitDefEqProofs (maxDischargeDepth := 12) only [WW,List.replicate,e_splice,if_true,if_false,ite_true,ite_false,true_or,ne_eq,seval,h_putc,beq_self_eq_true,eq_self,exists_eq_left,exists_eq_left', d3, id_eq, interval_eq, toList_eq]
      exact frz_sc
    simp -implicitDefEqProofs (maxDischargeDepth := 12) only [WW,List.replicate,e_splice,if_true,if_false,ite_true,ite_false,true_or,ne_eq,seval,h_putc,beq_self_eq_true,eq_self,exists_eq_left,exists_eq_left', eq_true d3, id_eq, interval_eq, toList_eq, f0, f1, f2, f3, f4, f5, f6, hA, hB]
    generalize hq : H.next = q at *
    refine wp_loop (Inv := fun k' t H' => ∃ (j : Nat), j + k' = y.staves.l.length ∧ H'.cells 0 = some a.enc.cells ∧ H'.cells 1 = some b.enc.cells ∧ H'.cells q = some y.enc.cells ∧ H'.cells (q + 1) = some z.enc.cells ∧ y.staves.l.take j = z.staves.l.take j ∧
      ∃ x : Nat → AV, t = [a.enc, b.enc, .ptr 0 0, .ptr 1 0, .sc (.bool false), .sc (.int .i64 i), .ptr q 0, .ptr (q + 1) 0, .sc (.int .i64 j), x 9, x 10, x 11, x 12, x 13, x 14, x 15, x 16, x 17, x 18, x 19, x 20, x 21, x 22, x 23, x 24, x 25, x 26, x 27, x 28, x 29, x 30, x 31, x 32, x 33, x 34, x 35, x 36, x 37, x 38, x 39, x 40, x 41, x 42, x 43, x 44, x 45, x 46, x 47, x 48, x 49, x 50, x 51, x 52, x 53, x 54, x 55, x 56, x 57, x 58, x 59, x 60, x 61, x 62, x 63, x 64, x 65, x 66, x 67, x 68, x 69, x 70, x 71, x 72, x 73, x 74, x 75, x 76, x 77, x 78, x 79, x 80, x 81, x 82, x 83, x 84, x 85, x 86, x 87, x 88, x 89, x 90, x 91, x 92, x 93, x 94, x 95, x 96, x 97, x 98, x 99, x 100, x 101, x 102, x 103, x 104, x 105, x 106, x 107, x 108, x 109, x 110, x 111, x 112, x 113, x 114, x 115, x 116, x 117, x 118, x 119, x 120, x 121, x 122, x 123, x 124, x 125, x 126, x 127, x 128, x 129, x 130, x 131, x 132, x 133, x 134, x 135, x 136, x 137, x 138, x 139, x 140, x 141, x 142, x 143, x 144, x 145, x 146, x 147, x 148, x 149, x 150, x 151, x 152, x 153, x 154, x 155, x 156, x 157, x 158, x 159, x 160, x 161, x 162, x 163, x 164, x 165, x 166, x 167, x 168, x 169, x 170, x 171, x 172, x 173, x 174, x 175, x 176, x 177]) (k := y.staves.l.length) ?_
      ⟨0, by omega, ?_, ?_, ?_, ?_, rfl, ex_x rfl⟩
    rotate_left
    · simp -implicitDefEqProofs (maxDischargeDepth := 12) only [WW,List.replicate,e_splice,if_true,if_false,ite_true,ite_false,true_or,ne_eq,seval,h_putc,beq_self_eq_true,eq_self,exists_eq_left,exists_eq_left', hA, hB, f0, f1, f2, f3, f4, f5, f6, hq]; rfl
    · simp -implicitDefEqProofs (maxDischargeDepth := 12) only [WW,List.replicate,e_splice,if_true,if_false,ite_true,ite_false,true_or,ne_eq,seval,h_putc,beq_self_eq_true,eq_self,exists_eq_left,exists_eq_left', hA, hB, f0, f1, f2, f3, f4, f5, f6, hq]; rfl
    · simp -implicitDefEqProofs (maxDischargeDepth := 12) only [WW,List.replicate,e_splice,if_true,if_false,ite_true,ite_false,true_or,ne_eq,seval,h_putc,beq_self_eq_true,eq_self,exists_eq_left,exists_eq_left', hA, hB, f0, f1, f2, f3, f4, f5, f6, hq]; rfl
    · simp -implicitDefEqProofs (maxDischargeDepth := 12) only [WW,List.replicate,e_splice,if_true,if_false,ite_true,ite_false,true_or,ne_eq,seval,h_putc,beq_self_eq_true,eq_self,exists_eq_left,exists_eq_left', hA, hB, f0, f1, f2, f3, f4, f5, f6, hq]; rfl
    clear hA hB x
    rintro k' t H' ⟨j, hk', hA, hB, hY, hZ, hj, x, rfl⟩
    simp only [a.enc_eq, b.enc_eq, y.enc_eq, z.enc_eq, c_agg] at hA hB hY hZ
    by_cases c2 : (j : Int) < (y.staves.l.length : Int)
    · obtain ⟨u, hu⟩ : ∃ u, y.staves.l[j]? = some u := ⟨_, List.getElem?_eq_getElem (by omega)⟩
      obtain ⟨w, hw⟩ : ∃ w, z.staves.l[j]? = some w := ⟨_, List.getElem?_eq_getElem (by omega)⟩
      have e3 : IntKind.i64.wrap ((j : Int) + 1) = ((j + 1 : Nat) : Int) := by
        have : y.staves.l.length < 1000000 := hty
        rw [w64 (by omega) (by omega)]; omega
      by_cases c3 : u = w
      · subst c3
        simp -implicitDefEqProofs (maxDischargeDepth := 12) only [WW,List.replicate,e_splice,if_true,if_false,ite_true,ite_false,true_or,ne_eq,seval,h_putc,beq_self_eq_true,eq_self,exists_eq_left,exists_eq_left', hY, hZ, c2, hu, hw, u.enc_eq, staff_eq, e3]
        exact ⟨k' - 1, by omega, j + 1, by omega, hA, hB, rfl, rfl, take_step hu hw hj, ex_x rfl⟩
      · rw [decide_eq_false (fun k => map_ne hy1 hz1 (fun e => list_ne hu hw c3 (Part.cn_staves e)) (Score.cn_parts k))] at hr; subst hr
        simp -implicitDefEqProofs (maxDischargeDepth := 12) only [WW,List.replicate,e_splice,if_true,if_false,ite_true,ite_false,true_or,ne_eq,seval,h_putc,beq_self_eq_true,eq_self,exists_eq_left,exists_eq_left', hY, hZ, c2, hu, hw, u.enc_eq, w.enc_eq, staff_eq, c3]
        exact frz_sc
    · have hst : y.staves.l = z.staves.l := by rw [List.take_of_length_le (by omega), List.take_of_length_le (by omega)] at hj; exact hj
      simp -implicitDefEqProofs (maxDischargeDepth := 12) only [WW,List.replicate,e_splice,if_true,if_false,ite_true,ite_false,true_or,ne_eq,seval,h_putc,beq_self_eq_true,eq_self,exists_eq_left,exists_eq_left', hY, hZ, c2, e2]
      exact ⟨k - 1, by omega, i + 1, by omega, hA, hB, map_step hy1 hz1 (Part.cn_mk d0 d1 d2 hst) ht, ex_x rfl⟩
  have partsE : a.parts.l.map Part.cn = b.parts.l.map Part.cn := by rw [List.take_of_length_le (by omega), List.take_of_length_le (by omega)] at ht; exact ht
  simp -implicitDefEqProofs (maxDischargeDepth := 12) only [WW,List.replicate,e_splice,if_true,if_false,ite_true,ite_false,true_or,ne_eq,seval,h_putc,beq_self_eq_true,eq_self,exists_eq_left,exists_eq_left', hA, hB, c1]
  refine wp_loop (Inv := fun k t H => ∃ (i : Nat), i + k = a.measures.l.length ∧ H.cells 0 = some a.enc.cells ∧ H.cells 1 = some b.enc.cells ∧ (a.measures.l.take i).map Measure.cn = (b.measures.l.take i).map Measure.cn ∧
    ∃ x : Nat → AV, t = [a.enc, b.enc, .ptr 0 0, .ptr 1 0, .sc (.bool false), x 5, x 6, x 7, x 8, .sc (.int .i64 i), x 10, x 11, x 12, x 13, x 14, x 15, x 16, x 17, x 18, x 19, x 20, x 21, x 22, x 23, x 24, x 25, x 26, x 27, x 28, x 29, x 30, x 31, x 32, x 33, x 34, x 35, x 36, x 37, x 38, x 39, x 40, x 41, x 42, x 43, x 44, x 45, x 46, x 47, x 48, x 49, x 50, x 51, x 52, x 53, x 54, x 55, x 56, x 57, x 58, x 59, x 60, x 61, x 62, x 63, x 64, x 65, x 66, x 67, x 68, x 69, x 70, x 71, x 72, x 73, x 74, x 75, x 76, x 77, x 78, x 79, x 80, x 81, x 82, x 83, x 84, x 85, x 86, x 87, x 88, x 89, x 90, x 91, x 92, x 93, x 94, x 95, x 96, x 97, x 98, x 99, x 100, x 101, x 102, x 103, x 104, x 105, x 106, x 107, x 108, x 109, x 110, x 111, x 112, x 113, x 114, x 115, x 116, x 117, x 118, x 119, x 120, x 121, x 122, x 123, x 124, x 125, x 126, x 127, x 128, x 129, x 130, x 131, x 132, x 133, x 134, x 135, x 136, x 137, x 138, x 139, x 140, x 141, x 142, x 143, x 144, x 145, x 146, x 147, x 148, x 149, x 150, x 151, x 152, x 153, x 154, x 155, x 156, x 157, x 158, x 159, x 160, x 161, x 162, x 163, x 164, x 165, x 166, x 167, x 168, x 169, x 170, x 171, x 172, x 173, x 174, x 175, x 176, x 177]) (k := a.measures.l.length) ?_
    ⟨0, by omega, hA, hB, rfl, ex_x rfl⟩
  clear hA hB ht x c1 hk g0 g1
  rintro k t H ⟨i, hk, hA, hB, ht, x, rfl⟩
  simp only [a.enc_eq, b.enc_eq, c_agg] at hA hB
  by_cases c1 : (i : Int) < (a.measures.l.length : Int)
  · obtain ⟨y, hy1⟩ : ∃ y, a.measures.l[i]? = some y := ⟨_, List.getElem?_eq_getElem (by omega)⟩
    obtain ⟨z, hz1⟩ : ∃ y, b.measures.l[i]? = some y := ⟨_, List.getElem?_eq_getElem (by omega)⟩
    have e2 : IntKind.i64.wrap ((i : Int) + 1) = ((i + 1 : Nat) : Int) := by rw [w64 (by omega) (by omega)]; omega
    simp -implicitDefEqProofs (maxDischargeDepth := 12) only [WW,List.replicate,e_splice,if_true,if_false,ite_true,ite_false,true_or,ne_eq,seval,h_putc,beq_self_eq_true,eq_self,exists_eq_left,exists_eq_left', hA, hB, c1, hy1, hz1, y.enc_eq, z.enc_eq]
    rw [← y.enc_eq, ← z.enc_eq]
    refine wA_pure hp4 (sameMeasure_pv hp hp2 hp3 y z (b4 y (List.mem_of_getElem? hy1))) ?_
    by_cases c3 : y.cn = z.cn
    · simp -implicitDefEqProofs (maxDischargeDepth := 12) only [WW,List.replicate,e_splice,if_true,if_false,ite_true,ite_false,true_or,ne_eq,seval,h_putc,beq_self_eq_true,eq_self,exists_eq_left,exists_eq_left', eq_true c3, e2]
      exact ⟨k - 1, by omega, i + 1, by omega, hA, hB, map_step hy1 hz1 c3 ht, ex_x rfl⟩
    · rw [decide_eq_false (fun k : a.cn = b.cn => map_ne hy1 hz1 c3 (Score.cn_measures k))] at hr; subst hr
      simp -implicitDefEqProofs (maxDischargeDepth := 12) only [WW,List.replicate,e_splice,if_true,if_false,ite_true,ite_false,true_or,ne_eq,seval,h_putc,beq_self_eq_true,eq_self,exists_eq_left,exists_eq_left', c3]
      exact frz_sc
  have measuresE : a.measures.l.map Measure.cn = b.measures.l.map Measure.cn := by rw [List.take_of_length_le (by omega), List.take_of_length_le (by omega)] at ht; exact ht
  simp -implicitDefEqProofs (maxDischargeDepth := 12) only [WW,List.replicate,e_splice,if_true,if_false,ite_true,ite_false,true_or,ne_eq,seval,h_putc,beq_self_eq_true,eq_self,exists_eq_left,exists_eq_left', hA, hB, c1]
  refine wp_loop (Inv := fun k t H => ∃ (i : Nat), i + k = a.spanners.l.length ∧ H.cells 0 = some a.enc.cells ∧ H.cells 1 = some b.enc.cells ∧ a.spanners.l.take i = b.spanners.l.take i ∧
    ∃ x : Nat → AV, t = [a.enc, b.enc, .ptr 0 0, .ptr 1 0, .sc (.bool false), x 5, x 6, x 7, x 8, x 9, .sc (.int .i64 i), x 11, x 12, x 13, x 14, x 15, x 16, x 17, x 18, x 19, x 20, x 21, x 22, x 23, x 24, x 25, x 26, x 27, x 28, x 29, x 30, x 31, x 32, x 33, x 34, x 35, x 36, x 37, x 38, x 39, x 40, x 41, x 42, x 43, x 44, x 45, x 46, x 47, x 48, x 49, x 50, x 51, x 52, x 53, x 54, x 55, x 56, x 57, x 58, x 59, x 60, x 61, x 62, x 63, x 64, x 65, x 66, x 67, x 68, x 69, x 70, x 71, x 72, x 73, x 74, x 75, x 76, x 77, x 78, x 79, x 80, x 81, x 82, x 83, x 84, x 85, x 86, x 87, x 88, x 89, x 90, x 91, x 92, x 93, x 94, x 95, x 96, x 97, x 98, x 99, x 100, x 101, x 102, x 103, x 104, x 105, x 106, x 107, x 108, x 109, x 110, x 111, x 112, x 113, x 114, x 115, x 116, x 117, x 118, x 119, x 120, x 121, x 122, x 123, x 124, x 125, x 126, x 127, x 128, x 129, x 130, x 131, x 132, x 133, x 134, x 135, x 136, x 137, x 138, x 139, x 140, x 141, x 142, x 143, x 144, x 145, x 146, x 147, x 148, x 149, x 150, x 151, x 152, x 153, x 154, x 155, x 156, x 157, x 158, x 159, x 160, x 161, x 162, x 163, x 164, x 165, x 166, x 167, x 168, x 169, x 170, x 171, x 172, x 173, x 174, x 175, x 176, x 177]) (k := a.spanners.l.length) ?_
    ⟨0, by omega, hA, hB, rfl, ex_x rfl⟩
  clear hA hB ht x c1 hk
  rintro k t H ⟨i, hk, hA, hB, ht, x, rfl⟩
  simp only [a.enc_eq, b.enc_eq, c_agg] at hA hB
  by_cases c1 : (i : Int) < (a.spanners.l.length : Int)
  · obtain ⟨y, hy1⟩ : ∃ y, a.spanners.l[i]? = some y := ⟨_, List.getElem?_eq_getElem (by omega)⟩
    obtain ⟨z, hz1⟩ : ∃ y, b.spanners.l[i]? = some y := ⟨_, List.getElem?_eq_getElem (by omega)⟩
    have e2 : IntKind.i64.wrap ((i : Int) + 1) = ((i + 1 : Nat) : Int) := by rw [w64 (by omega) (by omega)]; omega
    by_cases c2 : y = z
    · subst c2
      simp -implicitDefEqProofs (maxDischargeDepth := 12) only [WW,List.replicate,e_splice,if_true,if_false,ite_true,ite_false,true_or,ne_eq,seval,h_putc,beq_self_eq_true,eq_self,exists_eq_left,exists_eq_left', hA, hB, c1, hy1, hz1, y.enc_eq, spanner_eq, e2]
      exact ⟨k - 1, by omega, i + 1, by omega, rfl, rfl, take_step hy1 hz1 ht, ex_x rfl⟩
    · rw [decide_eq_false (fun k : a.cn = b.cn => list_ne hy1 hz1 c2 (Score.cn_spanners k))] at hr; subst hr
      simp -implicitDefEqProofs (maxDischargeDepth := 12) only [WW,List.replicate,e_splice,if_true,if_false,ite_true,ite_false,true_or,ne_eq,seval,h_putc,beq_self_eq_true,eq_self,exists_eq_left,exists_eq_left', hA, hB, c1, hy1, hz1, y.enc_eq, z.enc_eq, spanner_eq, c2]
      exact frz_sc
  have spannersE : a.spanners.l = b.spanners.l := by rw [List.take_of_length_le (by omega), List.take_of_length_le (by omega)] at ht; exact ht
  simp -implicitDefEqProofs (maxDischargeDepth := 12) only [WW,List.replicate,e_splice,if_true,if_false,ite_true,ite_false,true_or,ne_eq,seval,h_putc,beq_self_eq_true,eq_self,exists_eq_left,exists_eq_left', hA, hB, c1]
  refine wp_loop (Inv := fun k t H => ∃ (i : Nat), i + k = a.last.l.length ∧ H.cells 0 = some a.enc.cells ∧ H.cells 1 = some b.enc.cells ∧ a.last.l.take i = b.last.l.take i ∧
    ∃ x : Nat → AV, t = [a.enc, b.enc, .ptr 0 0, .ptr 1 0, .sc (.bool false), x 5, x 6, x 7, x 8, x 9, x 10, .sc (.int .i64 i), x 12, x 13, x 14, x 15, x 16, x 17, x 18, x 19, x 20, x 21, x 22, x 23, x 24, x 25, x 26, x 27, x 28, x 29, x 30, x 31, x 32, x 33, x 34, x 35, x 36, x 37, x 38, x 39, x 40, x 41, x 42, x 43, x 44, x 45, x 46, x 47, x 48, x 49, x 50, x 51, x 52, x 53, x 54, x 55, x 56, x 57, x 58, x 59, x 60, x 61, x 62, x 63, x 64, x 65, x 66, x 67, x 68, x 69, x 70, x 71, x 72, x 73, x 74, x 75, x 76, x 77, x 78, x 79, x 80, x 81, x 82, x 83, x 84, x 85, x 86, x 87, x 88, x 89, x 90, x 91, x 92, x 93, x 94, x 95, x 96, x 97, x 98, x 99, x 100, x 101, x 102, x 103, x 104, x 105, x 106, x 107, x 108, x 109, x 110, x 111, x 112, x 113, x 114, x 115, x 116, x 117, x 118, x 119, x 120, x 121, x 122, x 123, x 124, x 125, x 126, x 127, x 128, x 129, x 130, x 131, x 132, x 133, x 134, x 135, x 136, x 137, x 138, x 139, x 140, x 141, x 142, x 143, x 144, x 145, x 146, x 147, x 148, x 149, x 150, x 151, x 152, x 153, x 154, x 155, x 156, x 157, x 158, x 159, x 160, x 161, x 162, x 163, x 164, x 165, x 166, x 167, x 168, x 169, x 170, x 171, x 172, x 173, x 174, x 175, x 176, x 177]) (k := a.last.l.length) ?_
    ⟨0, by omega, hA, hB, rfl, ex_x rfl⟩
  clear hA hB ht x c1 hk
  rintro k t H ⟨i, hk, hA, hB, ht, x, rfl⟩
  simp only [a.enc_eq, b.enc_eq, c_agg] at hA hB
  by_cases c1 : (i : Int) < (a.last.l.length : Int)
  · obtain ⟨y, hy1⟩ : ∃ y, a.last.l[i]? = some y := ⟨_, List.getElem?_eq_getElem (by omega)⟩
    obtain ⟨z, hz1⟩ : ∃ y, b.last.l[i]? = some y := ⟨_, List.getElem?_eq_getElem (by omega)⟩
    have e2 : IntKind.i64.wrap ((i : Int) + 1) = ((i + 1 : Nat) : Int) := by rw [w64 (by omega) (by omega)]; omega
    by_cases c2 : y = z
    · subst c2
      simp -implicitDefEqProofs (maxDischargeDepth := 12) only [WW,List.replicate,e_splice,if_true,if_false,ite_true,ite_false,true_or,ne_eq,seval,h_putc,beq_self_eq_true,eq_self,exists_eq_left,exists_eq_left', hA, hB, c1, hy1, hz1, y.enc_eq, id_eq, e2]
      exact ⟨k - 1, by omega, i + 1, by omega, rfl, rfl, take_step hy1 hz1 ht, ex_x rfl⟩
    · rw [decide_eq_false (fun k : a.cn = b.cn => list_ne hy1 hz1 c2 (Score.cn_last k))] at hr; subst hr
      simp -implicitDefEqProofs (maxDischargeDepth := 12) only [WW,List.replicate,e_splice,if_true,if_false,ite_true,ite_false,true_or,ne_eq,seval,h_putc,beq_self_eq_true,eq_self,exists_eq_left,exists_eq_left', hA, hB, c1, hy1, hz1, y.enc_eq, z.enc_eq, id_eq, c2]
      exact frz_sc
  have lastE : a.last.l = b.last.l := by rw [List.take_of_length_le (by omega), List.take_of_length_le (by omega)] at ht; exact ht
  simp -implicitDefEqProofs (maxDischargeDepth := 12) only [WW,List.replicate,e_splice,if_true,if_false,ite_true,ite_false,true_or,ne_eq,seval,h_putc,beq_self_eq_true,eq_self,exists_eq_left,exists_eq_left', hA, hB, c1]
  rw [decide_eq_true (Score.cn_mk h1 h2 partsE measuresE spannersE lastE)] at hr; subst hr
  exact frz_sc
end Go.Hem
/- Walks: slices.Equal, slices.EqualFunc, whatever the elements. -/
set_option maxRecDepth 10000
set_option maxHeartbeats 4000000
set_option linter.unusedSimpArgs false
set_option linter.unusedVariables false
namespace Go.Hem
variable {pol : Pol}
def eqCode (n : Nat) (ks : List SK) : CF := ⟨.seq (.ops [⟨some 4, none, .mv (.const (.bool false)), []⟩]) (.seq (.seq (.ops [⟨some 6, none, .mv (.tmp 0), []⟩, ⟨some 7, none, .len (.tmp 6), []⟩, ⟨some 8, none, .mv (.tmp 1), []⟩, ⟨some 9, none, .len (.tmp 8), []⟩, ⟨some 10, none, .bint .neq (.tmp 7) (.tmp 9), []⟩]) (.cond (.tmp 10) (.seq (.ops [⟨some 4, none, .mv (.const (.bool false)), []⟩]) .ret) .skip)) (.seq (.seq (.ops [⟨some 11, none, .mv (.tmp 0), []⟩, ⟨some 12, none, .len (.tmp 11), []⟩, ⟨some 13, none, .mv (.const (.int .i64 0)), []⟩]) (.block 0 (.loop (.seq (.ops [⟨some 14, none, .bint .lss (.tmp 13) (.tmp 12), []⟩]) (.seq (.cond (.tmp 14) .skip (.exit 0)) (.seq (.block 1 (.seq (.ops [⟨some 15, none, .mv (.tmp 13), []⟩, ⟨some 5, none, .mv (.tmp 15), []⟩]) (.seq (.ops [⟨some 16, none, .mv (.tmp 0), []⟩, ⟨some 17, none, .mv (.tmp 5), []⟩, ⟨some 18, none, .iaddr n (.tmp 16) (.tmp 17), []⟩, ⟨some 19, none, .loadN n (.tmp 18), []⟩, ⟨some 20, none, .mv (.tmp 1), []⟩, ⟨some 21, none, .mv (.tmp 5), []⟩, ⟨some 22, none, .iaddr n (.tmp 20) (.tmp 21), []⟩, ⟨some 23, none, .loadN n (.tmp 22), []⟩, ⟨some 24, none, .bagg true ks (.tmp 19) (.tmp 23), []⟩]) (.cond (.tmp 24) (.seq (.ops [⟨some 4, none, .mv (.const (.bool false)), []⟩]) .ret) .skip)))) (.ops [⟨some 25, none, .bint .add (.tmp 13) (.const (.int .i64 1)), []⟩, ⟨some 13, none, .mv (.tmp 25), []⟩]))))))) (.seq (.ops [⟨some 4, none, .mv (.const (.bool true)), []⟩]) .ret))), 26, [.tmp 4]⟩

theorem sliceEq_pv {α : Type} [DecidableEq α] {f : α → AV} {n : Nat} {ks : List SK} {fn : FuncId} (hcl : ∀ x, AV.closedB (f x) = true) (hlen : ∀ x, (f x).cells.length = n) (hn : n ≠ 0) (htake : ∀ x, List.take n (f x).cells = (f x).cells)
    (hcmp : ∀ x y, eqK ks (f x).cells (f y).cells = some (decide (x = y))) (hf : compF prog fn = some (eqCode n ks)) (a b : Sl α) (ha : a.l.length < 1000000) :
    Pv prog pol fn [slm f a, slm f b] (.sc (.bool (decide (a.l = b.l)))) := by
  refine Pv_of' hf (by simp only [AV.closedBs, closedB_slm hcl, Bool.and_self]) ?_
  generalize hr : decide (a.l = b.l) = r
  simp -implicitDefEqProofs (maxDischargeDepth := 12) only [wpF, eqCode, WW,List.replicate,e_splice,if_true,if_false,ite_true,ite_false,true_or,ne_eq,seval,h_putc,beq_self_eq_true,eq_self,exists_eq_left,exists_eq_left']
  by_cases h1 : (a.l.length : Int) = (b.l.length : Int)
  rotate_left
  · rw [decide_eq_false (fun k => h1 (by rw [k]))] at hr; subst hr
    simp -implicitDefEqProofs (maxDischargeDepth := 12) only [WW,List.replicate,e_splice,if_true,if_false,ite_true,ite_false,true_or,ne_eq,seval,h_putc,beq_self_eq_true,eq_self,exists_eq_left,exists_eq_left', h1]
    exact frz_sc
  simp -implicitDefEqProofs (maxDischargeDepth := 12) only [WW,List.replicate,e_splice,if_true,if_false,ite_true,ite_false,true_or,ne_eq,seval,h_putc,beq_self_eq_true,eq_self,exists_eq_left,exists_eq_left', eq_true h1]
  refine wp_loop (Inv := fun k t H => ∃ (i : Nat), i + k = a.l.length ∧ a.l.take i = b.l.take i ∧
    ∃ x : Nat → AV, t = [slm f a, slm f b, x 2, x 3, .sc (.bool false), x 5, x 6, x 7, x 8, x 9, x 10, x 11, .sc (.int .i64 a.l.length), .sc (.int .i64 i), x 14, x 15, x 16, x 17, x 18, x 19, x 20, x 21, x 22, x 23, x 24, x 25]) (k := a.l.length) ?_
    ⟨0, by omega, rfl, ex_x (by rw [← h1]; rfl)⟩
  rintro k t H ⟨i, hk, ht, x, rfl⟩
  by_cases c1 : (i : Int) < (a.l.length : Int)
  · obtain ⟨y, hy1⟩ : ∃ y, a.l[i]? = some y := ⟨_, List.getElem?_eq_getElem (by omega)⟩
    obtain ⟨z, hz1⟩ : ∃ y, b.l[i]? = some y := ⟨_, List.getElem?_eq_getElem (by omega)⟩
    have e2 : IntKind.i64.wrap ((i : Int) + 1) = ((i + 1 : Nat) : Int) := by rw [w64 (by omega) (by omega)]; omega
    by_cases c2 : y = z
    · subst c2
      have hc := hcmp y y
      rw [decide_eq_true rfl] at hc
      simp -implicitDefEqProofs (maxDischargeDepth := 12) only [WW,List.replicate,e_splice,if_true,if_false,ite_true,ite_false,true_or,ne_eq,seval,h_putc,beq_self_eq_true,eq_self,exists_eq_left,exists_eq_left', c1, hy1, hz1, hlen, hn, htake, hc, e2]
      exact ⟨k - 1, by omega, i + 1, by omega, take_step hy1 hz1 ht, ex_x rfl⟩
    · rw [decide_eq_false (fun k => list_ne hy1 hz1 c2 k)] at hr; subst hr
      have hc := hcmp y z
      rw [decide_eq_false c2] at hc
      simp -implicitDefEqProofs (maxDischargeDepth := 12) only [WW,List.replicate,e_splice,if_true,if_false,ite_true,ite_false,true_or,ne_eq,seval,h_putc,beq_self_eq_true,eq_self,exists_eq_left,exists_eq_left', c1, hy1, hz1, hlen, hn, htake, hc]
      exact frz_sc
  have e : a.l = b.l := by rw [List.take_of_length_le (by omega), List.take_of_length_le (by omega)] at ht; exact ht
  simp -implicitDefEqProofs (maxDischargeDepth := 12) only [WW,List.replicate,e_splice,if_true,if_false,ite_true,ite_false,true_or,ne_eq,seval,h_putc,beq_self_eq_true,eq_self,exists_eq_left,exists_eq_left', c1]
  rw [decide_eq_true e] at hr; subst hr
  exact frz_sc

def eqfCode (n : Nat) (z : List AV) : CF := ⟨.seq (.ops [⟨some 6, none, .mv (.const (.bool false)), []⟩]) (.seq (.seq (.ops [⟨some 10, none, .mv (.tmp 0), []⟩, ⟨some 11, none, .len (.tmp 10), []⟩, ⟨some 12, none, .mv (.tmp 1), []⟩, ⟨some 13, none, .len (.tmp 12), []⟩, ⟨some 14, none, .bint .neq (.tmp 11) (.tmp 13), []⟩]) (.cond (.tmp 14) (.seq (.ops [⟨some 6, none, .mv (.const (.bool false)), []⟩]) .ret) .skip)) (.seq (.seq (.ops [⟨some 15, none, .mv (.tmp 0), []⟩, ⟨some 16, none, .len (.tmp 15), []⟩, ⟨some 17, none, .mv (.const (.int .i64 0)), []⟩]) (.block 0 (.loop (.seq (.ops [⟨some 18, none, .bint .lss (.tmp 17) (.tmp 16), []⟩]) (.seq (.cond (.tmp 18) .skip (.exit 0)) (.seq (.block 1 (.seq (.ops [⟨some 19, none, .mv (.tmp 17), []⟩, ⟨some 20, none, .iaddr n (.tmp 15) (.tmp 17), []⟩, ⟨some 21, none, .loadN n (.tmp 20), []⟩, ⟨some 8, none, .alloc z, []⟩, ⟨some 7, none, .mv (.tmp 19), []⟩, ⟨none, none, .store n (.tmp 8) (.tmp 21), []⟩]) (.seq (.ops [⟨some 22, none, .mv (.tmp 1), []⟩, ⟨some 23, none, .mv (.tmp 7), []⟩, ⟨some 24, none, .iaddr n (.tmp 22) (.tmp 23), []⟩, ⟨some 25, none, .loadN n (.tmp 24), []⟩, ⟨some 9, none, .alloc z, []⟩, ⟨none, none, .store n (.tmp 9) (.tmp 25), []⟩]) (.seq (.ops [⟨some 26, none, .mv (.tmp 2), []⟩, ⟨some 27, none, .loadN n (.tmp 8), []⟩, ⟨some 28, none, .loadN n (.tmp 9), []⟩, ⟨some 29, none, .callv (.tmp 26) [.tmp 27, .tmp 28], []⟩, ⟨some 30, none, .not (.tmp 29), []⟩]) (.cond (.tmp 30) (.seq (.ops [⟨some 6, none, .mv (.const (.bool false)), []⟩]) .ret) .skip))))) (.ops [⟨some 31, none, .bint .add (.tmp 17) (.const (.int .i64 1)), []⟩, ⟨some 17, none, .mv (.tmp 31), []⟩]))))))) (.seq (.ops [⟨some 6, none, .mv (.const (.bool true)), []⟩]) .ret))), 32, [.tmp 6]⟩

theorem splice_all {z xs : List AV} (h : xs.length = z.length) : splice z 0 xs = xs := by
  unfold splice; rw [List.take_zero, List.nil_append, List.drop_of_length_le (by omega), List.append_nil]
theorem cl_func {g : FuncId} : AV.closedB (.func (.func g) [] []) = true := rfl
theorem eqFunc_pv {α β : Type} [DecidableEq β] {f : α → AV} {c : α → β} {n : Nat} {z : List AV} {fn g : FuncId} (hcl : ∀ x, AV.closedB (f x) = true) (hlen : ∀ x, (f x).cells.length = n) (hn : n ≠ 0) (htake : ∀ x, List.take n (f x).cells = (f x).cells) (hagg : ∀ x, AV.agg (f x).cells = f x) (hone : ∀ x, AV.ones (f x).cells = true) (hz : z.length = n)
    (hcall : ∀ args, acallee prog g args = some (.call g args)) (hpure : pol.pure g = true) (tm : α → Prop) (hcmp : ∀ x y, tm x → Pv prog pol g [f x, f y] (.sc (.bool (decide (c x = c y))))) (hf : compF prog fn = some (eqfCode n z)) (a b : Sl α) (ha : a.l.length < 1000000) (ht : ∀ x ∈ a.l, tm x) :
    Pv prog pol fn [slm f a, slm f b, .func (.func g) [] []] (.sc (.bool (decide (a.l.map c = b.l.map c)))) := by
  refine Pv_of' hf (by simp only [AV.closedBs, closedB_slm hcl, cl_func, Bool.and_self]) ?_
  generalize hr : decide (a.l.map c = b.l.map c) = r
  simp -implicitDefEqProofs (maxDischargeDepth := 12) only [wpF, eqfCode, WW,List.replicate,e_splice,if_true,if_false,ite_true,ite_false,true_or,ne_eq,seval,h_putc,beq_self_eq_true,eq_self,exists_eq_left,exists_eq_left']
  by_cases h1 : (a.l.length : Int) = (b.l.length : Int)
  rotate_left
  · rw [decide_eq_false (fun k => h1 (len_of_map k))] at hr; subst hr
    simp -implicitDefEqProofs (maxDischargeDepth := 12) only [WW,List.replicate,e_splice,if_true,if_false,ite_true,ite_false,true_or,ne_eq,seval,h_putc,beq_self_eq_true,eq_self,exists_eq_left,exists_eq_left', h1]
    exact frz_sc
  simp -implicitDefEqProofs (maxDischargeDepth := 12) only [WW,List.replicate,e_splice,if_true,if_false,ite_true,ite_false,true_or,ne_eq,seval,h_putc,beq_self_eq_true,eq_self,exists_eq_left,exists_eq_left', eq_true h1]
  refine wp_loop (Inv := fun k t H => ∃ (i : Nat), i + k = a.l.length ∧ (a.l.take i).map c = (b.l.take i).map c ∧
    ∃ x : Nat → AV, t = [slm f a, slm f b, .func (.func g) [] [], x 3, x 4, x 5, .sc (.bool false), x 7, x 8, x 9, x 10, x 11, x 12, x 13, x 14, slm f a, .sc (.int .i64 a.l.length), .sc (.int .i64 i), x 18, x 19, x 20, x 21, x 22, x 23, x 24, x 25, x 26, x 27, x 28, x 29, x 30, x 31]) (k := a.l.length) ?_
    ⟨0, by omega, rfl, ex_x (by rw [← h1]; rfl)⟩
  rintro k t H ⟨i, hk, htk, x, rfl⟩
  by_cases c1 : (i : Int) < (a.l.length : Int)
  · obtain ⟨y, hy1⟩ : ∃ y, a.l[i]? = some y := ⟨_, List.getElem?_eq_getElem (by omega)⟩
    obtain ⟨z', hz1⟩ : ∃ y, b.l[i]? = some y := ⟨_, List.getElem?_eq_getElem (by omega)⟩
    have e2 : IntKind.i64.wrap ((i : Int) + 1) = ((i + 1 : Nat) : Int) := by rw [w64 (by omega) (by omega)]; omega
    have f4 : ¬ H.next = H.next + 1 := by omega
    have sp : ∀ w, splice z 0 (f w).cells = (f w).cells := fun w => splice_all (by rw [hlen, hz])
    have hdz : List.drop n z = [] := List.drop_of_length_le (by omega)
    simp -implicitDefEqProofs (maxDischargeDepth := 12) only [WW,List.replicate,e_splice,if_true,if_false,ite_true,ite_false,true_or,ne_eq,seval,h_putc,beq_self_eq_true,eq_self,exists_eq_left,exists_eq_left', c1, hy1, hz1, hlen, hn, htake, hagg, hone, hz, sp, f4, Nat.le_refl, hdz, e_callf, hcall]
    refine wA_pure hpure (hcmp y z' (ht y (List.mem_of_getElem? hy1))) ?_
    by_cases c2 : c y = c z'
    · simp -implicitDefEqProofs (maxDischargeDepth := 12) only [WW,List.replicate,e_splice,if_true,if_false,ite_true,ite_false,true_or,ne_eq,seval,h_putc,beq_self_eq_true,eq_self,exists_eq_left,exists_eq_left', eq_true c2, e2]
      exact ⟨k - 1, by omega, i + 1, by omega, map_step hy1 hz1 c2 htk, ex_x rfl⟩
    · rw [decide_eq_false (fun k => map_ne hy1 hz1 c2 k)] at hr; subst hr
      simp -implicitDefEqProofs (maxDischargeDepth := 12) only [WW,List.replicate,e_splice,if_true,if_false,ite_true,ite_false,true_or,ne_eq,seval,h_putc,beq_self_eq_true,eq_self,exists_eq_left,exists_eq_left', c2]
      exact frz_sc
  have e : a.l.map c = b.l.map c := by rw [List.take_of_length_le (by omega), List.take_of_length_le (by omega)] at htk; exact htk
  simp -implicitDefEqProofs (maxDischargeDepth := 12) only [WW,List.replicate,e_splice,if_true,if_false,ite_true,ite_false,true_or,ne_eq,seval,h_putc,beq_self_eq_true,eq_self,exists_eq_left,exists_eq_left', c1]
  rw [decide_eq_true e] at hr; subst hr
  exact frz_sc
end Go.Hem
/- Walks: the program's Equal of scores. -/
set_option maxRecDepth 10000
set_option maxHeartbeats 4000000
set_option linter.unusedSimpArgs false
set_option linter.unusedVariables false
namespace Go.Hem
variable {pol : Pol}
/-- The functions of Equal are run by themselves. -/
def EqPol (pol : Pol) : Prop := ∀ f ∈ [40, 86, 87, 88, 89, 90, 91, 92, 125, 126, 127, 128, 138, 139, 140, 145, 146, 147, 149, 150, 151, 152, 153], pol.pure f = true
theorem take_self {l : List AV} {n : Nat} (h : l.length = n) : l.take n = l := List.take_of_length_le (by omega)
theorem eqStaff_pv (a b : Sl Staff) (ha : a.l.length < 1000000) : Pv prog pol 87 [slm Staff.enc a, slm Staff.enc b] (.sc (.bool (decide (a.l = b.l)))) :=
  sliceEq_pv Staff.enc_closed Staff.enc_len (by decide) (fun x => take_self (Staff.enc_len x)) (fun x y => by simp -implicitDefEqProofs (maxDischargeDepth := 12) only [Staff.enc, WW,List.replicate,e_splice,if_true,if_false,ite_true,ite_false,true_or,ne_eq,seval,h_putc,beq_self_eq_true,eq_self,exists_eq_left,exists_eq_left', staff_eq]) (ks := [.int, .int, .int]) ok87 a b ha
theorem eqSpanner_pv (a b : Sl Spanner) (ha : a.l.length < 1000000) : Pv prog pol 91 [slm Spanner.enc a, slm Spanner.enc b] (.sc (.bool (decide (a.l = b.l)))) :=
  sliceEq_pv Spanner.enc_closed Spanner.enc_len (by decide) (fun x => take_self (Spanner.enc_len x)) (fun x y => by simp -implicitDefEqProofs (maxDischargeDepth := 12) only [Spanner.enc, WW,List.replicate,e_splice,if_true,if_false,ite_true,ite_false,true_or,ne_eq,seval,h_putc,beq_self_eq_true,eq_self,exists_eq_left,exists_eq_left', spanner_eq]) (ks := [.int, .int, .int, .int, .int, .int, .int]) ok91 a b ha
theorem eqID_pv (a b : Sl ID) (ha : a.l.length < 1000000) : Pv prog pol 92 [slm ID.enc a, slm ID.enc b] (.sc (.bool (decide (a.l = b.l)))) :=
  sliceEq_pv ID.enc_closed ID.enc_len (by decide) (fun x => take_self (ID.enc_len x)) (fun x y => by simp -implicitDefEqProofs (maxDischargeDepth := 12) only [ID.enc, WW,List.replicate,e_splice,if_true,if_false,ite_true,ite_false,true_or,ne_eq,seval,h_putc,beq_self_eq_true,eq_self,exists_eq_left,exists_eq_left', id_eq]) (ks := [.int, .int]) ok92 a b ha
theorem eqTempo_pv (a b : Sl Tempo) (ha : a.l.length < 1000000) : Pv prog pol 126 [slm Tempo.enc a, slm Tempo.enc b] (.sc (.bool (decide (a.l = b.l)))) :=
  sliceEq_pv Tempo.enc_closed Tempo.enc_len (by decide) (fun x => take_self (Tempo.enc_len x)) (fun x y => by simp -implicitDefEqProofs (maxDischargeDepth := 12) only [Tempo.enc, WW,List.replicate,e_splice,if_true,if_false,ite_true,ite_false,true_or,ne_eq,seval,h_putc,beq_self_eq_true,eq_self,exists_eq_left,exists_eq_left', tempo_eq]) (ks := [.int, .int, .bool]) ok126 a b ha
theorem eqClefChange_pv (a b : Sl ClefChange) (ha : a.l.length < 1000000) : Pv prog pol 138 [slm ClefChange.enc a, slm ClefChange.enc b] (.sc (.bool (decide (a.l = b.l)))) :=
  sliceEq_pv ClefChange.enc_closed ClefChange.enc_len (by decide) (fun x => take_self (ClefChange.enc_len x)) (fun x y => by simp -implicitDefEqProofs (maxDischargeDepth := 12) only [ClefChange.enc, WW,List.replicate,e_splice,if_true,if_false,ite_true,ite_false,true_or,ne_eq,seval,h_putc,beq_self_eq_true,eq_self,exists_eq_left,exists_eq_left', clef_eq]) (ks := [.int, .int]) ok138 a b ha
theorem eqTuplet_pv (a b : Sl Tuplet) (ha : a.l.length < 1000000) : Pv prog pol 150 [slm Tuplet.enc a, slm Tuplet.enc b] (.sc (.bool (decide (a.l = b.l)))) :=
  sliceEq_pv Tuplet.enc_closed Tuplet.enc_len (by decide) (fun x => take_self (Tuplet.enc_len x)) (fun x y => by simp -implicitDefEqProofs (maxDischargeDepth := 12) only [Tuplet.enc, WW,List.replicate,e_splice,if_true,if_false,ite_true,ite_false,true_or,ne_eq,seval,h_putc,beq_self_eq_true,eq_self,exists_eq_left,exists_eq_left', tup_eq]) (ks := [.int, .int, .int, .int]) ok150 a b ha
theorem eqHead_pv (a b : Sl Head) (ha : a.l.length < 1000000) : Pv prog pol 151 [slm Head.enc a, slm Head.enc b] (.sc (.bool (decide (a.l = b.l)))) :=
  sliceEq_pv Head.enc_closed Head.enc_len (by decide) (fun x => take_self (Head.enc_len x)) (fun x y => by simp -implicitDefEqProofs (maxDischargeDepth := 12) only [Head.enc, WW,List.replicate,e_splice,if_true,if_false,ite_true,ite_false,true_or,ne_eq,seval,h_putc,beq_self_eq_true,eq_self,exists_eq_left,exists_eq_left', head_eq]) (ks := [.int, .int, .int, .bool, .int]) ok151 a b ha
theorem eqGrace_pv (a b : Sl Grace) (ha : a.l.length < 1000000) : Pv prog pol 152 [slm Grace.enc a, slm Grace.enc b] (.sc (.bool (decide (a.l = b.l)))) :=
  sliceEq_pv Grace.enc_closed Grace.enc_len (by decide) (fun x => take_self (Grace.enc_len x)) (fun x y => by simp -implicitDefEqProofs (maxDischargeDepth := 12) only [Grace.enc, WW,List.replicate,e_splice,if_true,if_false,ite_true,ite_false,true_or,ne_eq,seval,h_putc,beq_self_eq_true,eq_self,exists_eq_left,exists_eq_left', grace_eq]) (ks := [.int, .int, .int, .int, .bool]) ok152 a b ha
theorem eqSyllable_pv (a b : Sl Syllable) (ha : a.l.length < 1000000) : Pv prog pol 153 [slm Syllable.enc a, slm Syllable.enc b] (.sc (.bool (decide (a.l = b.l)))) :=
  sliceEq_pv Syllable.enc_closed Syllable.enc_len (by decide) (fun x => take_self (Syllable.enc_len x)) (fun x y => by simp -implicitDefEqProofs (maxDischargeDepth := 12) only [Syllable.enc, WW,List.replicate,e_splice,if_true,if_false,ite_true,ite_false,true_or,ne_eq,seval,h_putc,beq_self_eq_true,eq_self,exists_eq_left,exists_eq_left', syl_eq]) (ks := [.str, .int]) ok153 a b ha
theorem eSame_pv (hp : EqPol pol) (a b : Event) (ha : a.tame) : Pv prog pol 149 [a.enc, b.enc] (.sc (.bool (decide (a.noid = b.noid)))) := by
  refine Pv_of' ok149 (by simp only [AV.closedBs, Event.enc_closed, Bool.and_self]) ?_
  obtain ⟨b1, b2, b3⟩ := ha
  generalize hr : decide (a.noid = b.noid) = r
  simp -implicitDefEqProofs (maxDischargeDepth := 12) only [wpF, cf149, WW,List.replicate,e_splice,if_true,if_false,ite_true,ite_false,true_or,ne_eq,seval,h_putc,beq_self_eq_true,eq_self,exists_eq_left,exists_eq_left', a.enc_eq, b.enc_eq, val_eq]
  by_cases h1 : a.kind = b.kind
  rotate_left
  · rw [decide_eq_false (fun k : a.noid = b.noid => h1 ((noid_iff.1 k).1))] at hr; subst hr
    simp -implicitDefEqProofs (maxDischargeDepth := 12) only [WW,List.replicate,e_splice,if_true,if_false,ite_true,ite_false,true_or,ne_eq,seval,h_putc,beq_self_eq_true,eq_self,exists_eq_left,exists_eq_left', h1, val_eq]
    exact frz_sc
  simp -implicitDefEqProofs (maxDischargeDepth := 12) only [WW,List.replicate,e_splice,if_true,if_false,ite_true,ite_false,true_or,ne_eq,seval,h_putc,beq_self_eq_true,eq_self,exists_eq_left,exists_eq_left', eq_true h1, val_eq]
  by_cases h2 : a.value = b.value
  rotate_left
  · rw [decide_eq_false (fun k : a.noid = b.noid => h2 ((noid_iff.1 k).2.1))] at hr; subst hr
    simp -implicitDefEqProofs (maxDischargeDepth := 12) only [WW,List.replicate,e_splice,if_true,if_false,ite_true,ite_false,true_or,ne_eq,seval,h_putc,beq_self_eq_true,eq_self,exists_eq_left,exists_eq_left', h2, val_eq]
    exact frz_sc
  simp -implicitDefEqProofs (maxDischargeDepth := 12) only [WW,List.replicate,e_splice,if_true,if_false,ite_true,ite_false,true_or,ne_eq,seval,h_putc,beq_self_eq_true,eq_self,exists_eq_left,exists_eq_left', eq_true h2, val_eq]
  by_cases h3 : a.articulations = b.articulations
  rotate_left
  · rw [decide_eq_false (fun k : a.noid = b.noid => h3 ((noid_iff.1 k).2.2.1))] at hr; subst hr
    simp -implicitDefEqProofs (maxDischargeDepth := 12) only [WW,List.replicate,e_splice,if_true,if_false,ite_true,ite_false,true_or,ne_eq,seval,h_putc,beq_self_eq_true,eq_self,exists_eq_left,exists_eq_left', h3, val_eq]
    exact frz_sc
  simp -implicitDefEqProofs (maxDischargeDepth := 12) only [WW,List.replicate,e_splice,if_true,if_false,ite_true,ite_false,true_or,ne_eq,seval,h_putc,beq_self_eq_true,eq_self,exists_eq_left,exists_eq_left', eq_true h3, val_eq]
  by_cases h4 : a.ornament = b.ornament
  rotate_left
  · rw [decide_eq_false (fun k : a.noid = b.noid => h4 ((noid_iff.1 k).2.2.2.1))] at hr; subst hr
    simp -implicitDefEqProofs (maxDischargeDepth := 12) only [WW,List.replicate,e_splice,if_true,if_false,ite_true,ite_false,true_or,ne_eq,seval,h_putc,beq_self_eq_true,eq_self,exists_eq_left,exists_eq_left', h4, val_eq]
    exact frz_sc
  simp -implicitDefEqProofs (maxDischargeDepth := 12) only [WW,List.replicate,e_splice,if_true,if_false,ite_true,ite_false,true_or,ne_eq,seval,h_putc,beq_self_eq_true,eq_self,exists_eq_left,exists_eq_left', eq_true h4, val_eq]
  by_cases h5 : a.dynamic = b.dynamic
  rotate_left
  · rw [decide_eq_false (fun k : a.noid = b.noid => h5 ((noid_iff.1 k).2.2.2.2.1))] at hr; subst hr
    simp -implicitDefEqProofs (maxDischargeDepth := 12) only [WW,List.replicate,e_splice,if_true,if_false,ite_true,ite_false,true_or,ne_eq,seval,h_putc,beq_self_eq_true,eq_self,exists_eq_left,exists_eq_left', h5, val_eq]
    exact frz_sc
  simp -implicitDefEqProofs (maxDischargeDepth := 12) only [WW,List.replicate,e_splice,if_true,if_false,ite_true,ite_false,true_or,ne_eq,seval,h_putc,beq_self_eq_true,eq_self,exists_eq_left,exists_eq_left', eq_true h5, val_eq]
  by_cases h6 : a.stem = b.stem
  rotate_left
  · rw [decide_eq_false (fun k : a.noid = b.noid => h6 ((noid_iff.1 k).2.2.2.2.2.1))] at hr; subst hr
    simp -implicitDefEqProofs (maxDischargeDepth := 12) only [WW,List.replicate,e_splice,if_true,if_false,ite_true,ite_false,true_or,ne_eq,seval,h_putc,beq_self_eq_true,eq_self,exists_eq_left,exists_eq_left', h6, val_eq]
    exact frz_sc
  simp -implicitDefEqProofs (maxDischargeDepth := 12) only [WW,List.replicate,e_splice,if_true,if_false,ite_true,ite_false,true_or,ne_eq,seval,h_putc,beq_self_eq_true,eq_self,exists_eq_left,exists_eq_left', eq_true h6, val_eq]
  by_cases h7 : a.beam = b.beam
  rotate_left
  · rw [decide_eq_false (fun k : a.noid = b.noid => h7 ((noid_iff.1 k).2.2.2.2.2.2.1))] at hr; subst hr
    simp -implicitDefEqProofs (maxDischargeDepth := 12) only [WW,List.replicate,e_splice,if_true,if_false,ite_true,ite_false,true_or,ne_eq,seval,h_putc,beq_self_eq_true,eq_self,exists_eq_left,exists_eq_left', h7, val_eq]
    exact frz_sc
  simp -implicitDefEqProofs (maxDischargeDepth := 12) only [WW,List.replicate,e_splice,if_true,if_false,ite_true,ite_false,true_or,ne_eq,seval,h_putc,beq_self_eq_true,eq_self,exists_eq_left,exists_eq_left', eq_true h7, val_eq]
  refine wA_pure (hp _ (by decide)) (eqHead_pv _ _ b1) ?_
  by_cases h8 : a.heads.l = b.heads.l
  rotate_left
  · rw [decide_eq_false (fun k : a.noid = b.noid => h8 ((noid_iff.1 k).2.2.2.2.2.2.2.1))] at hr; subst hr
    simp -implicitDefEqProofs (maxDischargeDepth := 12) only [WW,List.replicate,e_splice,if_true,if_false,ite_true,ite_false,true_or,ne_eq,seval,h_putc,beq_self_eq_true,eq_self,exists_eq_left,exists_eq_left', h8, val_eq]
    exact frz_sc
  simp -implicitDefEqProofs (maxDischargeDepth := 12) only [WW,List.replicate,e_splice,if_true,if_false,ite_true,ite_false,true_or,ne_eq,seval,h_putc,beq_self_eq_true,eq_self,exists_eq_left,exists_eq_left', eq_true h8, val_eq]
  refine wA_pure (hp _ (by decide)) (eqGrace_pv _ _ b2) ?_
  by_cases h9 : a.graces.l = b.graces.l
  rotate_left
  · rw [decide_eq_false (fun k : a.noid = b.noid => h9 ((noid_iff.1 k).2.2.2.2.2.2.2.2.1))] at hr; subst hr
    simp -implicitDefEqProofs (maxDischargeDepth := 12) only [WW,List.replicate,e_splice,if_true,if_false,ite_true,ite_false,true_or,ne_eq,seval,h_putc,beq_self_eq_true,eq_self,exists_eq_left,exists_eq_left', h9, val_eq]
    exact frz_sc
  simp -implicitDefEqProofs (maxDischargeDepth := 12) only [WW,List.replicate,e_splice,if_true,if_false,ite_true,ite_false,true_or,ne_eq,seval,h_putc,beq_self_eq_true,eq_self,exists_eq_left,exists_eq_left', eq_true h9, val_eq]
  refine wA_pure (hp _ (by decide)) (eqSyllable_pv _ _ b3) ?_
  by_cases h10 : a.lyrics.l = b.lyrics.l
  rotate_left
  · rw [decide_eq_false (fun k : a.noid = b.noid => h10 ((noid_iff.1 k).2.2.2.2.2.2.2.2.2))] at hr; subst hr
    simp -implicitDefEqProofs (maxDischargeDepth := 12) only [WW,List.replicate,e_splice,if_true,if_false,ite_true,ite_false,true_or,ne_eq,seval,h_putc,beq_self_eq_true,eq_self,exists_eq_left,exists_eq_left', h10, val_eq]
    exact frz_sc
  simp -implicitDefEqProofs (maxDischargeDepth := 12) only [WW,List.replicate,e_splice,if_true,if_false,ite_true,ite_false,true_or,ne_eq,seval,h_putc,beq_self_eq_true,eq_self,exists_eq_left,exists_eq_left', eq_true h10, val_eq]
  rw [decide_eq_true (noid_iff.2 ⟨h1, h2, h3, h4, h5, h6, h7, h8, h9, h10⟩)] at hr; subst hr
  exact frz_sc
theorem eEqual_pv (hp : EqPol pol) (a b : Event) (ha : a.tame) : Pv prog pol 146 [a.enc, b.enc] (.sc (.bool (decide (a.cn = b.cn)))) := by
  refine Pv_of' ok146 (by simp only [AV.closedBs, Event.enc_closed, Bool.and_self]) ?_
  generalize hr : decide (a.cn = b.cn) = r
  simp -implicitDefEqProofs (maxDischargeDepth := 12) only [wpF, cf146, WW,List.replicate,e_splice,if_true,if_false,ite_true,ite_false,true_or,ne_eq,seval,h_putc,beq_self_eq_true,eq_self,exists_eq_left,exists_eq_left', a.enc_eq, b.enc_eq, id_eq]
  by_cases h1 : a.id = b.id
  rotate_left
  · rw [decide_eq_false (fun k : a.cn = b.cn => h1 ((cn_noid.1 k).1))] at hr; subst hr
    simp -implicitDefEqProofs (maxDischargeDepth := 12) only [WW,List.replicate,e_splice,if_true,if_false,ite_true,ite_false,true_or,ne_eq,seval,h_putc,beq_self_eq_true,eq_self,exists_eq_left,exists_eq_left', h1, id_eq]
    exact frz_sc
  simp -implicitDefEqProofs (maxDischargeDepth := 12) only [WW,List.replicate,e_splice,if_true,if_false,ite_true,ite_false,true_or,ne_eq,seval,h_putc,beq_self_eq_true,eq_self,exists_eq_left,exists_eq_left', eq_true h1, id_eq]
  rw [← a.enc_eq, ← b.enc_eq]
  refine wA_pure (hp _ (by decide)) (eSame_pv hp a b ha) ?_
  by_cases h2 : a.noid = b.noid
  rotate_left
  · rw [decide_eq_false (fun k : a.cn = b.cn => h2 ((cn_noid.1 k).2))] at hr; subst hr
    simp -implicitDefEqProofs (maxDischargeDepth := 12) only [WW,List.replicate,e_splice,if_true,if_false,ite_true,ite_false,true_or,ne_eq,seval,h_putc,beq_self_eq_true,eq_self,exists_eq_left,exists_eq_left', h2, id_eq]
    exact frz_sc
  simp -implicitDefEqProofs (maxDischargeDepth := 12) only [WW,List.replicate,e_splice,if_true,if_false,ite_true,ite_false,true_or,ne_eq,seval,h_putc,beq_self_eq_true,eq_self,exists_eq_left,exists_eq_left', eq_true h2, id_eq]
  rw [decide_eq_true (cn_noid.2 ⟨h1, h2⟩)] at hr; subst hr
  exact frz_sc
theorem callee146 (args : List AV) : acallee prog 146 args = some (.call 146 args) := by kernel_rfl
theorem eqfEvent_pv (hp : EqPol pol) (a b : Sl Event) (ha : a.l.length < 1000000) (ht : ∀ x ∈ a.l, x.tame) : Pv prog pol 145 [slm Event.enc a, slm Event.enc b, .func (.func 146) [] []] (.sc (.bool (decide (a.l.map Event.cn = b.l.map Event.cn)))) :=
  eqFunc_pv (z := [.sc (.int .i64 0), .sc (.int .i64 0), .sc (.int .i64 0), .sc (.int .i64 0), .sc (.int .i64 0), .sc .nils, .sc .nils, .sc (.int .i64 0), .sc (.int .i64 0), .sc (.int .i64 0), .sc .nils, .sc (.int .i64 0), .sc (.int .i64 0)]) Event.enc_closed Event.enc_len (by decide) (fun x => take_self (Event.enc_len x)) (fun x => rfl) (fun x => by simp -implicitDefEqProofs (maxDischargeDepth := 12) only [AV.ones, List.all_cons, List.all_nil, Event.enc_eq, WW,List.replicate,e_splice,if_true,if_false,ite_true,ite_false,true_or,ne_eq,seval,h_putc,beq_self_eq_true,eq_self,exists_eq_left,exists_eq_left']) rfl callee146 (hp 146 (by decide)) Event.tame (fun x y h => eEqual_pv hp x y h) ok145 a b ha ht
theorem tEqual_pv (hp : EqPol pol) (a b : Sl Tuplet) (ha : a.l.length < 1000000) : Pv prog pol 147 [slm Tuplet.enc a, slm Tuplet.enc b] (.sc (.bool (decide (a.l = b.l)))) := by
  refine Pv_of' ok147 (by simp only [AV.closedBs, closedB_slm Tuplet.enc_closed, Bool.and_self]) ?_
  simp -implicitDefEqProofs (maxDischargeDepth := 12) only [wpF, cf147, WW,List.replicate,e_splice,if_true,if_false,ite_true,ite_false,true_or,ne_eq,seval,h_putc,beq_self_eq_true,eq_self,exists_eq_left,exists_eq_left']
  refine wA_pure (hp _ (by decide)) (eqTuplet_pv _ _ ha) ?_
  simp -implicitDefEqProofs (maxDischargeDepth := 12) only [WW,List.replicate,e_splice,if_true,if_false,ite_true,ite_false,true_or,ne_eq,seval,h_putc,beq_self_eq_true,eq_self,exists_eq_left,exists_eq_left']
  exact frz_sc
theorem vEqual_pv (hp : EqPol pol) (a b : Voice) (ha : a.tame) : Pv prog pol 140 [a.enc, b.enc] (.sc (.bool (decide (a.cn = b.cn)))) := by
  refine Pv_of' ok140 (by simp only [AV.closedBs, Voice.enc_closed, Bool.and_self]) ?_
  obtain ⟨b1, b2, b3⟩ := ha
  generalize hr : decide (a.cn = b.cn) = r
  simp -implicitDefEqProofs (maxDischargeDepth := 12) only [wpF, cf140, WW,List.replicate,e_splice,if_true,if_false,ite_true,ite_false,true_or,ne_eq,seval,h_putc,beq_self_eq_true,eq_self,exists_eq_left,exists_eq_left', a.enc_eq, b.enc_eq, id_eq]
  refine wA_pure (hp _ (by decide)) (eqfEvent_pv hp _ _ b1 b3) ?_
  by_cases h1 : a.events.l.map Event.cn = b.events.l.map Event.cn
  rotate_left
  · rw [decide_eq_false (fun k : a.cn = b.cn => h1 ((Voice.cn_iff.1 k).1))] at hr; subst hr
    simp -implicitDefEqProofs (maxDischargeDepth := 12) only [WW,List.replicate,e_splice,if_true,if_false,ite_true,ite_false,true_or,ne_eq,seval,h_putc,beq_self_eq_true,eq_self,exists_eq_left,exists_eq_left', h1, id_eq]
    exact frz_sc
  simp -implicitDefEqProofs (maxDischargeDepth := 12) only [WW,List.replicate,e_splice,if_true,if_false,ite_true,ite_false,true_or,ne_eq,seval,h_putc,beq_self_eq_true,eq_self,exists_eq_left,exists_eq_left', eq_true h1, id_eq]
  refine wA_pure (hp _ (by decide)) (tEqual_pv hp _ _ b2) ?_
  by_cases h2 : a.tuplets.l = b.tuplets.l
  rotate_left
  · rw [decide_eq_false (fun k : a.cn = b.cn => h2 ((Voice.cn_iff.1 k).2))] at hr; subst hr
    simp -implicitDefEqProofs (maxDischargeDepth := 12) only [WW,List.replicate,e_splice,if_true,if_false,ite_true,ite_false,true_or,ne_eq,seval,h_putc,beq_self_eq_true,eq_self,exists_eq_left,exists_eq_left', h2, id_eq]
    exact frz_sc
  simp -implicitDefEqProofs (maxDischargeDepth := 12) only [WW,List.replicate,e_splice,if_true,if_false,ite_true,ite_false,true_or,ne_eq,seval,h_putc,beq_self_eq_true,eq_self,exists_eq_left,exists_eq_left', eq_true h2, id_eq]
  rw [decide_eq_true (Voice.cn_iff.2 ⟨h1, h2⟩)] at hr; subst hr
  exact frz_sc
theorem callee140 (args : List AV) : acallee prog 140 args = some (.call 140 args) := by kernel_rfl
theorem eqfVoice_pv (hp : EqPol pol) (a b : Sl Voice) (ha : a.l.length < 1000000) (ht : ∀ x ∈ a.l, x.tame) : Pv prog pol 139 [slm Voice.enc a, slm Voice.enc b, .func (.func 140) [] []] (.sc (.bool (decide (a.l.map Voice.cn = b.l.map Voice.cn)))) :=
  eqFunc_pv (z := [.sc .nils, .sc .nils]) Voice.enc_closed Voice.enc_len (by decide) (fun x => take_self (Voice.enc_len x)) (fun x => rfl) (fun x => by simp -implicitDefEqProofs (maxDischargeDepth := 12) only [AV.ones, List.all_cons, List.all_nil, Voice.enc_eq, WW,List.replicate,e_splice,if_true,if_false,ite_true,ite_false,true_or,ne_eq,seval,h_putc,beq_self_eq_true,eq_self,exists_eq_left,exists_eq_left']) rfl callee140 (hp 140 (by decide)) Voice.tame (fun x y h => vEqual_pv hp x y h) ok139 a b ha ht
theorem cEqual_pv (hp : EqPol pol) (a b : Cell) (ha : a.tame) : Pv prog pol 128 [a.enc, b.enc] (.sc (.bool (decide (a.cn = b.cn)))) := by
  refine Pv_of' ok128 (by simp only [AV.closedBs, Cell.enc_closed, Bool.and_self]) ?_
  obtain ⟨b1, b2, b3⟩ := ha
  generalize hr : decide (a.cn = b.cn) = r
  simp -implicitDefEqProofs (maxDischargeDepth := 12) only [wpF, cf128, WW,List.replicate,e_splice,if_true,if_false,ite_true,ite_false,true_or,ne_eq,seval,h_putc,beq_self_eq_true,eq_self,exists_eq_left,exists_eq_left', a.enc_eq, b.enc_eq, id_eq]
  refine wA_pure (hp _ (by decide)) (eqClefChange_pv _ _ b1) ?_
  by_cases h1 : a.clefs.l = b.clefs.l
  rotate_left
  · rw [decide_eq_false (fun k : a.cn = b.cn => h1 ((Cell.cn_iff.1 k).1))] at hr; subst hr
    simp -implicitDefEqProofs (maxDischargeDepth := 12) only [WW,List.replicate,e_splice,if_true,if_false,ite_true,ite_false,true_or,ne_eq,seval,h_putc,beq_self_eq_true,eq_self,exists_eq_left,exists_eq_left', h1, id_eq]
    exact frz_sc
  simp -implicitDefEqProofs (maxDischargeDepth := 12) only [WW,List.replicate,e_splice,if_true,if_false,ite_true,ite_false,true_or,ne_eq,seval,h_putc,beq_self_eq_true,eq_self,exists_eq_left,exists_eq_left', eq_true h1, id_eq]
  refine wA_pure (hp _ (by decide)) (eqfVoice_pv hp _ _ b2 b3) ?_
  by_cases h2 : a.voices.l.map Voice.cn = b.voices.l.map Voice.cn
  rotate_left
  · rw [decide_eq_false (fun k : a.cn = b.cn => h2 ((Cell.cn_iff.1 k).2))] at hr; subst hr
    simp -implicitDefEqProofs (maxDischargeDepth := 12) only [WW,List.replicate,e_splice,if_true,if_false,ite_true,ite_false,true_or,ne_eq,seval,h_putc,beq_self_eq_true,eq_self,exists_eq_left,exists_eq_left', h2, id_eq]
    exact frz_sc
  simp -implicitDefEqProofs (maxDischargeDepth := 12) only [WW,List.replicate,e_splice,if_true,if_false,ite_true,ite_false,true_or,ne_eq,seval,h_putc,beq_self_eq_true,eq_self,exists_eq_left,exists_eq_left', eq_true h2, id_eq]
  rw [decide_eq_true (Cell.cn_iff.2 ⟨h1, h2⟩)] at hr; subst hr
  exact frz_sc
theorem callee128 (args : List AV) : acallee prog 128 args = some (.call 128 args) := by kernel_rfl
theorem eqfCell_pv (hp : EqPol pol) (a b : Sl Cell) (ha : a.l.length < 1000000) (ht : ∀ x ∈ a.l, x.tame) : Pv prog pol 127 [slm Cell.enc a, slm Cell.enc b, .func (.func 128) [] []] (.sc (.bool (decide (a.l.map Cell.cn = b.l.map Cell.cn)))) :=
  eqFunc_pv (z := [.sc .nils, .sc .nils]) Cell.enc_closed Cell.enc_len (by decide) (fun x => take_self (Cell.enc_len x)) (fun x => rfl) (fun x => by simp -implicitDefEqProofs (maxDischargeDepth := 12) only [AV.ones, List.all_cons, List.all_nil, Cell.enc_eq, WW,List.replicate,e_splice,if_true,if_false,ite_true,ite_false,true_or,ne_eq,seval,h_putc,beq_self_eq_true,eq_self,exists_eq_left,exists_eq_left']) rfl callee128 (hp 128 (by decide)) Cell.tame (fun x y h => cEqual_pv hp x y h) ok127 a b ha ht
def Measure.fl (m : Measure) : AV := .agg ((m.enc.cells).take 20)
theorem Measure.fl_eq {x : Measure} : x.fl = .agg [.sc (.int .i64 x.id.site), .sc (.int .i64 x.id.number), .sc (.int .i64 x.metre.count), .sc (.int .i64 x.metre.unit), .sc (.int .i64 x.metre.g0), .sc (.int .i64 x.metre.g1), .sc (.int .i64 x.metre.g2), .sc (.int .i64 x.metre.g3), .sc (.int .i64 x.metre.g4), .sc (.int .i64 x.metre.g5), .sc (.int .i64 x.length), .sc (.int .i64 x.fifths), .sc (.bool x.rstart), .sc (.int .i64 x.rend), .sc (.int .i64 x.endings), .sc (.int .i64 x.jump), .sc (.int .i64 x.labels), .sc (.int .i64 x.swing), .sc (.int .i64 x.brk), .sc (.str x.rehearsal)] := rfl
def Measure.pl (m : Measure) : Measure := { m with tempi := none, cells := none }
theorem Measure.pl_iff {a b : Measure} : a.pl = b.pl ↔ a.id = b.id ∧ a.metre = b.metre ∧ a.length = b.length ∧ a.fifths = b.fifths ∧ a.rstart = b.rstart ∧ a.rend = b.rend ∧ a.endings = b.endings ∧ a.jump = b.jump ∧ a.labels = b.labels ∧ a.swing = b.swing ∧ a.brk = b.brk ∧ a.rehearsal = b.rehearsal := by
  unfold Measure.pl; simp only [Measure.mk.injEq, and_true]
theorem Measure.cn_iff {a b : Measure} : a.cn = b.cn ↔ a.pl = b.pl ∧ a.tempi.l = b.tempi.l ∧ a.cells.l.map Cell.cn = b.cells.l.map Cell.cn := by
  unfold Measure.cn Measure.pl; simp only [Measure.mk.injEq, of_inj, and_true, and_assoc]
theorem Measure.fl_cmp {a b : Measure} : (decide (a.id.site = b.id.site) && (decide (a.id.number = b.id.number) && (decide (a.metre.count = b.metre.count) && (decide (a.metre.unit = b.metre.unit) && (decide (a.metre.g0 = b.metre.g0) && (decide (a.metre.g1 = b.metre.g1) && (decide (a.metre.g2 = b.metre.g2) && (decide (a.metre.g3 = b.metre.g3) && (decide (a.metre.g4 = b.metre.g4) && (decide (a.metre.g5 = b.metre.g5) && (decide (a.length = b.length) && (decide (a.fifths = b.fifths) && ((a.rstart == b.rstart) && (decide (a.rend = b.rend) && (decide (a.endings = b.endings) && (decide (a.jump = b.jump) && (decide (a.labels = b.labels) && (decide (a.swing = b.swing) && (decide (a.brk = b.brk) && (a.rehearsal.toList == b.rehearsal.toList)))))))))))))))))))) = decide (a.pl = b.pl) := by
  rw [show decide (a.pl = b.pl) = decide (a.id = b.id ∧ a.metre = b.metre ∧ a.length = b.length ∧ a.fifths = b.fifths ∧ a.rstart = b.rstart ∧ a.rend = b.rend ∧ a.endings = b.endings ∧ a.jump = b.jump ∧ a.labels = b.labels ∧ a.swing = b.swing ∧ a.brk = b.brk ∧ a.rehearsal = b.rehearsal) from decide_eq_decide.2 Measure.pl_iff]
  simp only [Bool.decide_and, ← id_eq, ← metre_eq, ← bool_dec, ← toList_eq, Bool.and_assoc]
theorem fields_pv (a : Measure) : Pv prog pol 125 [a.enc] a.fl := by
  refine Pv_of' ok125 (by simp only [AV.closedBs, Measure.enc_closed, Bool.and_self]) ?_
  simp -implicitDefEqProofs (maxDischargeDepth := 12) only [wpF, cf125, WW,List.replicate,e_splice,if_true,if_false,ite_true,ite_false,true_or,ne_eq,seval,h_putc,beq_self_eq_true,eq_self,exists_eq_left,exists_eq_left', a.enc_eq]
  exact frz_plain rfl rfl
theorem mEqual_pv (hp : EqPol pol) (a b : Measure) (ha : a.tame) : Pv prog pol 90 [a.enc, b.enc] (.sc (.bool (decide (a.cn = b.cn)))) := by
  refine Pv_of' ok90 (by simp only [AV.closedBs, Measure.enc_closed, Bool.and_self]) ?_
  obtain ⟨b1, b2, b3⟩ := ha
  generalize hr : decide (a.cn = b.cn) = r
  simp -implicitDefEqProofs (maxDischargeDepth := 12) only [wpF, cf90, WW,List.replicate,e_splice,if_true,if_false,ite_true,ite_false,true_or,ne_eq,seval,h_putc,beq_self_eq_true,eq_self,exists_eq_left,exists_eq_left', a.enc_eq, b.enc_eq]
  rw [← a.enc_eq]
  refine wA_pure (hp _ (by decide)) (fields_pv a) ?_
  simp -implicitDefEqProofs (maxDischargeDepth := 12) only [WW,List.replicate,e_splice,if_true,if_false,ite_true,ite_false,true_or,ne_eq,seval,h_putc,beq_self_eq_true,eq_self,exists_eq_left,exists_eq_left', a.fl_eq]
  rw [← b.enc_eq]
  refine wA_pure (hp _ (by decide)) (fields_pv b) ?_
  simp -implicitDefEqProofs (maxDischargeDepth := 12) only [WW,List.replicate,e_splice,if_true,if_false,ite_true,ite_false,true_or,ne_eq,seval,h_putc,beq_self_eq_true,eq_self,exists_eq_left,exists_eq_left', b.fl_eq, Measure.fl_cmp, b.enc_eq]
  by_cases h1 : a.pl = b.pl
  rotate_left
  · rw [decide_eq_false (fun k : a.cn = b.cn => h1 ((Measure.cn_iff.1 k).1))] at hr; subst hr
    simp -implicitDefEqProofs (maxDischargeDepth := 12) only [WW,List.replicate,e_splice,if_true,if_false,ite_true,ite_false,true_or,ne_eq,seval,h_putc,beq_self_eq_true,eq_self,exists_eq_left,exists_eq_left', h1, Measure.fl_cmp]
    exact frz_sc
  simp -implicitDefEqProofs (maxDischargeDepth := 12) only [WW,List.replicate,e_splice,if_true,if_false,ite_true,ite_false,true_or,ne_eq,seval,h_putc,beq_self_eq_true,eq_self,exists_eq_left,exists_eq_left', eq_true h1, Measure.fl_cmp]
  refine wA_pure (hp _ (by decide)) (eqTempo_pv _ _ b1) ?_
  by_cases h2 : a.tempi.l = b.tempi.l
  rotate_left
  · rw [decide_eq_false (fun k : a.cn = b.cn => h2 ((Measure.cn_iff.1 k).2.1))] at hr; subst hr
    simp -implicitDefEqProofs (maxDischargeDepth := 12) only [WW,List.replicate,e_splice,if_true,if_false,ite_true,ite_false,true_or,ne_eq,seval,h_putc,beq_self_eq_true,eq_self,exists_eq_left,exists_eq_left', h2, Measure.fl_cmp]
    exact frz_sc
  simp -implicitDefEqProofs (maxDischargeDepth := 12) only [WW,List.replicate,e_splice,if_true,if_false,ite_true,ite_false,true_or,ne_eq,seval,h_putc,beq_self_eq_true,eq_self,exists_eq_left,exists_eq_left', eq_true h2, Measure.fl_cmp]
  refine wA_pure (hp _ (by decide)) (eqfCell_pv hp _ _ b2 b3) ?_
  by_cases h3 : a.cells.l.map Cell.cn = b.cells.l.map Cell.cn
  rotate_left
  · rw [decide_eq_false (fun k : a.cn = b.cn => h3 ((Measure.cn_iff.1 k).2.2))] at hr; subst hr
    simp -implicitDefEqProofs (maxDischargeDepth := 12) only [WW,List.replicate,e_splice,if_true,if_false,ite_true,ite_false,true_or,ne_eq,seval,h_putc,beq_self_eq_true,eq_self,exists_eq_left,exists_eq_left', h3, Measure.fl_cmp]
    exact frz_sc
  simp -implicitDefEqProofs (maxDischargeDepth := 12) only [WW,List.replicate,e_splice,if_true,if_false,ite_true,ite_false,true_or,ne_eq,seval,h_putc,beq_self_eq_true,eq_self,exists_eq_left,exists_eq_left', eq_true h3, Measure.fl_cmp]
  rw [decide_eq_true (Measure.cn_iff.2 ⟨h1, h2, h3⟩)] at hr; subst hr
  exact frz_sc
theorem callee90 (args : List AV) : acallee prog 90 args = some (.call 90 args) := by kernel_rfl
theorem eqfMeasure_pv (hp : EqPol pol) (a b : Sl Measure) (ha : a.l.length < 1000000) (ht : ∀ x ∈ a.l, x.tame) : Pv prog pol 89 [slm Measure.enc a, slm Measure.enc b, .func (.func 90) [] []] (.sc (.bool (decide (a.l.map Measure.cn = b.l.map Measure.cn)))) :=
  eqFunc_pv (z := [.sc (.int .i64 0), .sc (.int .i64 0), .sc (.int .i64 0), .sc (.int .i64 0), .sc (.int .i64 0), .sc (.int .i64 0), .sc (.int .i64 0), .sc (.int .i64 0), .sc (.int .i64 0), .sc (.int .i64 0), .sc (.int .i64 0), .sc (.int .i64 0), .sc (.bool false), .sc (.int .i64 0), .sc (.int .i64 0), .sc (.int .i64 0), .sc (.int .i64 0), .sc (.int .i64 0), .sc (.int .i64 0), .sc (.str ⟨#[]⟩), .sc .nils, .sc .nils]) Measure.enc_closed Measure.enc_len (by decide) (fun x => take_self (Measure.enc_len x)) (fun x => rfl) (fun x => by simp -implicitDefEqProofs (maxDischargeDepth := 12) only [AV.ones, List.all_cons, List.all_nil, Measure.enc_eq, WW,List.replicate,e_splice,if_true,if_false,ite_true,ite_false,true_or,ne_eq,seval,h_putc,beq_self_eq_true,eq_self,exists_eq_left,exists_eq_left']) rfl callee90 (hp 90 (by decide)) Measure.tame (fun x y h => mEqual_pv hp x y h) ok89 a b ha ht
theorem pEqual_pv (hp : EqPol pol) (a b : Part) (ha : a.tame) : Pv prog pol 86 [a.enc, b.enc] (.sc (.bool (decide (a.cn = b.cn)))) := by
  refine Pv_of' ok86 (by simp only [AV.closedBs, Part.enc_closed, Bool.and_self]) ?_
  generalize hr : decide (a.cn = b.cn) = r
  simp -implicitDefEqProofs (maxDischargeDepth := 12) only [wpF, cf86, WW,List.replicate,e_splice,if_true,if_false,ite_true,ite_false,true_or,ne_eq,seval,h_putc,beq_self_eq_true,eq_self,exists_eq_left,exists_eq_left', a.enc_eq, b.enc_eq, id_eq, interval_eq, toList_eq]
  by_cases h1 : a.id = b.id
  rotate_left
  · rw [decide_eq_false (fun k : a.cn = b.cn => h1 ((congrArg Part.id k : a.cn.id = b.cn.id)))] at hr; subst hr
    simp -implicitDefEqProofs (maxDischargeDepth := 12) only [WW,List.replicate,e_splice,if_true,if_false,ite_true,ite_false,true_or,ne_eq,seval,h_putc,beq_self_eq_true,eq_self,exists_eq_left,exists_eq_left', h1, id_eq, interval_eq, toList_eq]
    exact frz_sc
  simp -implicitDefEqProofs (maxDischargeDepth := 12) only [WW,List.replicate,e_splice,if_true,if_false,ite_true,ite_false,true_or,ne_eq,seval,h_putc,beq_self_eq_true,eq_self,exists_eq_left,exists_eq_left', eq_true h1, id_eq, interval_eq, toList_eq]
  by_cases h2 : a.name = b.name
  rotate_left
  · rw [decide_eq_false (fun k : a.cn = b.cn => h2 ((congrArg Part.name k : a.cn.name = b.cn.name)))] at hr; subst hr
    simp -implicitDefEqProofs (maxDischargeDepth := 12) only [WW,List.replicate,e_splice,if_true,if_false,ite_true,ite_false,true_or,ne_eq,seval,h_putc,beq_self_eq_true,eq_self,exists_eq_left,exists_eq_left', h2, id_eq, interval_eq, toList_eq]
    exact frz_sc
  simp -implicitDefEqProofs (maxDischargeDepth := 12) only [WW,List.replicate,e_splice,if_true,if_false,ite_true,ite_false,true_or,ne_eq,seval,h_putc,beq_self_eq_true,eq_self,exists_eq_left,exists_eq_left', eq_true h2, id_eq, interval_eq, toList_eq]
  by_cases h3 : a.transpose = b.transpose
  rotate_left
  · rw [decide_eq_false (fun k : a.cn = b.cn => h3 ((congrArg Part.transpose k : a.cn.transpose = b.cn.transpose)))] at hr; subst hr
    simp -implicitDefEqProofs (maxDischargeDepth := 12) only [WW,List.replicate,e_splice,if_true,if_false,ite_true,ite_false,true_or,ne_eq,seval,h_putc,beq_self_eq_true,eq_self,exists_eq_left,exists_eq_left', h3, id_eq, interval_eq, toList_eq]
    exact frz_sc
  simp -implicitDefEqProofs (maxDischargeDepth := 12) only [WW,List.replicate,e_splice,if_true,if_false,ite_true,ite_false,true_or,ne_eq,seval,h_putc,beq_self_eq_true,eq_self,exists_eq_left,exists_eq_left', eq_true h3, id_eq, interval_eq, toList_eq]
  refine wA_pure (hp _ (by decide)) (eqStaff_pv _ _ ha) ?_
  by_cases h4 : a.staves.l = b.staves.l
  rotate_left
  · rw [decide_eq_false (fun k : a.cn = b.cn => h4 (Part.cn_staves k))] at hr; subst hr
    simp -implicitDefEqProofs (maxDischargeDepth := 12) only [WW,List.replicate,e_splice,if_true,if_false,ite_true,ite_false,true_or,ne_eq,seval,h_putc,beq_self_eq_true,eq_self,exists_eq_left,exists_eq_left', h4, id_eq, interval_eq, toList_eq]
    exact frz_sc
  simp -implicitDefEqProofs (maxDischargeDepth := 12) only [WW,List.replicate,e_splice,if_true,if_false,ite_true,ite_false,true_or,ne_eq,seval,h_putc,beq_self_eq_true,eq_self,exists_eq_left,exists_eq_left', eq_true h4, id_eq, interval_eq, toList_eq]
  rw [decide_eq_true (Part.cn_mk h1 h2 h3 h4)] at hr; subst hr
  exact frz_sc
theorem callee86 (args : List AV) : acallee prog 86 args = some (.call 86 args) := by kernel_rfl
theorem eqfPart_pv (hp : EqPol pol) (a b : Sl Part) (ha : a.l.length < 1000000) (ht : ∀ x ∈ a.l, x.tame) : Pv prog pol 88 [slm Part.enc a, slm Part.enc b, .func (.func 86) [] []] (.sc (.bool (decide (a.l.map Part.cn = b.l.map Part.cn)))) :=
  eqFunc_pv (z := [.sc (.int .i64 0), .sc (.int .i64 0), .sc (.str ⟨#[]⟩), .sc (.int .i64 0), .sc (.int .i64 0), .sc .nils]) Part.enc_closed Part.enc_len (by decide) (fun x => take_self (Part.enc_len x)) (fun x => rfl) (fun x => by simp -implicitDefEqProofs (maxDischargeDepth := 12) only [AV.ones, List.all_cons, List.all_nil, Part.enc_eq, WW,List.replicate,e_splice,if_true,if_false,ite_true,ite_false,true_or,ne_eq,seval,h_putc,beq_self_eq_true,eq_self,exists_eq_left,exists_eq_left']) rfl callee86 (hp 86 (by decide)) Part.tame (fun x y h => pEqual_pv hp x y h) ok88 a b ha ht
theorem equal_pv (hp : EqPol pol) (a b : Score) (ha : a.tame) : Pv prog pol 40 [a.enc, b.enc] (.sc (.bool (decide (a.cn = b.cn)))) := by
  refine Pv_of' ok40 (by simp only [AV.closedBs, Score.enc_closed, Bool.and_self]) ?_
  obtain ⟨b1, b2, b3, b4, b5, b6⟩ := ha
  generalize hr : decide (a.cn = b.cn) = r
  simp -implicitDefEqProofs (maxDischargeDepth := 12) only [wpF, cf40, WW,List.replicate,e_splice,if_true,if_false,ite_true,ite_false,true_or,ne_eq,seval,h_putc,beq_self_eq_true,eq_self,exists_eq_left,exists_eq_left', a.enc_eq, b.enc_eq, bool_dec, toList_eq]
  by_cases h1 : a.title = b.title
  rotate_left
  · rw [decide_eq_false (fun k : a.cn = b.cn => h1 ((congrArg Score.title k : a.cn.title = b.cn.title)))] at hr; subst hr
    simp -implicitDefEqProofs (maxDischargeDepth := 12) only [WW,List.replicate,e_splice,if_true,if_false,ite_true,ite_false,true_or,ne_eq,seval,h_putc,beq_self_eq_true,eq_self,exists_eq_left,exists_eq_left', h1, bool_dec, toList_eq]
    exact frz_sc
  simp -implicitDefEqProofs (maxDischargeDepth := 12) only [WW,List.replicate,e_splice,if_true,if_false,ite_true,ite_false,true_or,ne_eq,seval,h_putc,beq_self_eq_true,eq_self,exists_eq_left,exists_eq_left', eq_true h1, bool_dec, toList_eq]
  by_cases h2 : a.written = b.written
  rotate_left
  · rw [decide_eq_false (fun k : a.cn = b.cn => h2 ((congrArg Score.written k : a.cn.written = b.cn.written)))] at hr; subst hr
    simp -implicitDefEqProofs (maxDischargeDepth := 12) only [WW,List.replicate,e_splice,if_true,if_false,ite_true,ite_false,true_or,ne_eq,seval,h_putc,beq_self_eq_true,eq_self,exists_eq_left,exists_eq_left', h2, bool_dec, toList_eq]
    exact frz_sc
  simp -implicitDefEqProofs (maxDischargeDepth := 12) only [WW,List.replicate,e_splice,if_true,if_false,ite_true,ite_false,true_or,ne_eq,seval,h_putc,beq_self_eq_true,eq_self,exists_eq_left,exists_eq_left', eq_true h2, bool_dec, toList_eq]
  refine wA_pure (hp _ (by decide)) (eqfPart_pv hp _ _ b1 b2) ?_
  by_cases h3 : a.parts.l.map Part.cn = b.parts.l.map Part.cn
  rotate_left
  · rw [decide_eq_false (fun k : a.cn = b.cn => h3 (Score.cn_parts k))] at hr; subst hr
    simp -implicitDefEqProofs (maxDischargeDepth := 12) only [WW,List.replicate,e_splice,if_true,if_false,ite_true,ite_false,true_or,ne_eq,seval,h_putc,beq_self_eq_true,eq_self,exists_eq_left,exists_eq_left', h3, bool_dec, toList_eq]
    exact frz_sc
  simp -implicitDefEqProofs (maxDischargeDepth := 12) only [WW,List.replicate,e_splice,if_true,if_false,ite_true,ite_false,true_or,ne_eq,seval,h_putc,beq_self_eq_true,eq_self,exists_eq_left,exists_eq_left', eq_true h3, bool_dec, toList_eq]
  refine wA_pure (hp _ (by decide)) (eqfMeasure_pv hp _ _ b3 b4) ?_
  by_cases h4 : a.measures.l.map Measure.cn = b.measures.l.map Measure.cn
  rotate_left
  · rw [decide_eq_false (fun k : a.cn = b.cn => h4 (Score.cn_measures k))] at hr; subst hr
    simp -implicitDefEqProofs (maxDischargeDepth := 12) only [WW,List.replicate,e_splice,if_true,if_false,ite_true,ite_false,true_or,ne_eq,seval,h_putc,beq_self_eq_true,eq_self,exists_eq_left,exists_eq_left', h4, bool_dec, toList_eq]
    exact frz_sc
  simp -implicitDefEqProofs (maxDischargeDepth := 12) only [WW,List.replicate,e_splice,if_true,if_false,ite_true,ite_false,true_or,ne_eq,seval,h_putc,beq_self_eq_true,eq_self,exists_eq_left,exists_eq_left', eq_true h4, bool_dec, toList_eq]
  refine wA_pure (hp _ (by decide)) (eqSpanner_pv _ _ b5) ?_
  by_cases h5 : a.spanners.l = b.spanners.l
  rotate_left
  · rw [decide_eq_false (fun k : a.cn = b.cn => h5 (Score.cn_spanners k))] at hr; subst hr
    simp -implicitDefEqProofs (maxDischargeDepth := 12) only [WW,List.replicate,e_splice,if_true,if_false,ite_true,ite_false,true_or,ne_eq,seval,h_putc,beq_self_eq_true,eq_self,exists_eq_left,exists_eq_left', h5, bool_dec, toList_eq]
    exact frz_sc
  simp -implicitDefEqProofs (maxDischargeDepth := 12) only [WW,List.replicate,e_splice,if_true,if_false,ite_true,ite_false,true_or,ne_eq,seval,h_putc,beq_self_eq_true,eq_self,exists_eq_left,exists_eq_left', eq_true h5, bool_dec, toList_eq]
  refine wA_pure (hp _ (by decide)) (eqID_pv _ _ b6) ?_
  by_cases h6 : a.last.l = b.last.l
  rotate_left
  · rw [decide_eq_false (fun k : a.cn = b.cn => h6 (Score.cn_last k))] at hr; subst hr
    simp -implicitDefEqProofs (maxDischargeDepth := 12) only [WW,List.replicate,e_splice,if_true,if_false,ite_true,ite_false,true_or,ne_eq,seval,h_putc,beq_self_eq_true,eq_self,exists_eq_left,exists_eq_left', h6, bool_dec, toList_eq]
    exact frz_sc
  simp -implicitDefEqProofs (maxDischargeDepth := 12) only [WW,List.replicate,e_splice,if_true,if_false,ite_true,ite_false,true_or,ne_eq,seval,h_putc,beq_self_eq_true,eq_self,exists_eq_left,exists_eq_left', eq_true h6, bool_dec, toList_eq]
  rw [decide_eq_true (Score.cn_mk h1 h2 h3 h4 h5 h6)] at hr; subst hr
  exact frz_sc
end Go.Hem
