/- Walks. -/
import Derived.Test.YtnlhhjmheghnnaaWalks1
import Derived.Test.YtnlhhjmheghnnaaWalks0
import Derived.Test.YtnlhhjmheghnnaaHemRange
/- Walks: what visit yields over a score that is owned. -/
set_option maxRecDepth 10000
set_option maxHeartbeats 4000000
set_option linter.unusedSimpArgs false
set_option linter.unusedVariables false
namespace Go.Hem
variable {pol : Pol}
structure SameShape (a s : Score) : Prop where
  parts : a.parts.l.length = s.parts.l.length
  staves : ∀ (i : Nat) p q, s.parts.l[i]? = some p → a.parts.l[i]? = some q → q.staves.l.length = p.staves.l.length
  measures : a.measures.l.length = s.measures.l.length
  cells : ∀ (m : Nat) y y', s.measures.l[m]? = some y → a.measures.l[m]? = some y' → y'.cells.l.length = y.cells.l.length
  voices : ∀ (m : Nat) y y' (c : Nat) q q', s.measures.l[m]? = some y → a.measures.l[m]? = some y' → y.cells.l[c]? = some q → y'.cells.l[c]? = some q' → q'.voices.l.length = q.voices.l.length
  events : ∀ (m : Nat) y y' (c : Nat) q q' (v : Nat) z z', s.measures.l[m]? = some y → a.measures.l[m]? = some y' → y.cells.l[c]? = some q → y'.cells.l[c]? = some q' → q.voices.l[v]? = some z → q'.voices.l[v]? = some z' → z'.events.l.length = z.events.l.length
  spanners : a.spanners.l.length = s.spanners.l.length
theorem same_at {α : Type} {l : List α} {x y : α} {i : Nat} (h : l[i]? = some x) (k : l[i]? = some y) : y = x := by rw [h] at k; cases k; rfl
theorem SameShape.refl (s : Score) : SameShape s s := by
  refine ⟨rfl, fun i p q h k => by rw [same_at h k], rfl, fun m y y' h k => by rw [same_at h k], fun m y y' c q q' h k h2 k2 => ?_, fun m y y' c q q' v z z' h k h2 k2 h3 k3 => ?_, rfl⟩
  · have := same_at h k; subst this; rw [same_at h2 k2]
  · have := same_at h k; subst this
    have := same_at h2 k2; subst this
    rw [same_at h3 k3]
theorem at_len {α β : Type} {l : List α} {l' : List β} {i : Nat} {x : α} (h : l'.length = l.length) (hx : l[i]? = some x) : ∃ y, l'[i]? = some y := ⟨_, List.getElem?_eq_getElem (by have := (List.getElem?_eq_some_iff.1 hx).1; omega)⟩
section
variable {a s : Score} (h : SameShape a s)
include h
theorem SameShape.getP {i : Nat} {p : Part} (hp : s.parts.l[i]? = some p) : ∃ q, a.parts.l[i]? = some q ∧ q.staves.l.length = p.staves.l.length := by
  obtain ⟨q, hq⟩ := at_len h.parts hp
  exact ⟨q, hq, h.staves _ _ _ hp hq⟩
theorem SameShape.getM {i : Nat} {p : Measure} (hp : s.measures.l[i]? = some p) : ∃ q, a.measures.l[i]? = some q ∧ q.cells.l.length = p.cells.l.length := by
  obtain ⟨q, hq⟩ := at_len h.measures hp
  exact ⟨q, hq, h.cells _ _ _ hp hq⟩
theorem SameShape.getC {m c : Nat} {y y' : Measure} {q : Cell} (hy : s.measures.l[m]? = some y) (hy' : a.measures.l[m]? = some y') (hq : y.cells.l[c]? = some q) : ∃ q', y'.cells.l[c]? = some q' ∧ q'.voices.l.length = q.voices.l.length := by
  obtain ⟨q', hq'⟩ := at_len (h.cells _ _ _ hy hy') hq
  exact ⟨q', hq', h.voices _ _ _ _ _ _ hy hy' hq hq'⟩
theorem SameShape.getV {m c v : Nat} {y y' : Measure} {q q' : Cell} {z : Voice} (hy : s.measures.l[m]? = some y) (hy' : a.measures.l[m]? = some y') (hq : y.cells.l[c]? = some q) (hq' : y'.cells.l[c]? = some q') (hz : q.voices.l[v]? = some z) : ∃ z', q'.voices.l[v]? = some z' ∧ z'.events.l.length = z.events.l.length := by
  obtain ⟨z', hz'⟩ := at_len (h.voices _ _ _ _ _ _ hy hy' hq hq') hz
  exact ⟨z', hz', h.events _ _ _ _ _ _ _ _ _ hy hy' hq hq' hz hz'⟩
end
section
variable {H : AHeap} {bS : Nat} {R : List Nat} {a : Score}
theorem foc_part {v : AV} {i : Nat} {p : Part} (h : Foc H bS R a v 2 (slm Part.enc a.parts)) (hp : a.parts.l[i]? = some p) :
    ∃ b o c z w, v = .slice b o a.parts.l.length c 6 ∧ H.cells b = some z ∧ z[o + i * 6 + 5]? = some w ∧ lenOf w = some (.sc (.int .i64 p.staves.l.length)) := by
  obtain ⟨f, h1, h2, h3⟩ := h
  obtain ⟨b1, o1, p1, z1, w, f2, a1, a2, a3, a4, a5, a6, a7, a8, a9⟩ := own_step row_Part (by decide) h1 hp (show (Part.enc p).cells[5]? = some (slm Staff.enc p.staves) from rfl)
  exact ⟨b1, o1, p1, z1, w, a1, a2, a4, (own_len a5).1⟩
theorem foc_meas {v : AV} {i : Nat} {p : Measure} (h : Foc H bS R a v 3 (slm Measure.enc a.measures)) (hp : a.measures.l[i]? = some p) :
    ∃ b o c z w, v = .slice b o a.measures.l.length c 22 ∧ H.cells b = some z ∧ z[o + i * 22 + 21]? = some w ∧ lenOf w = some (.sc (.int .i64 p.cells.l.length)) := by
  obtain ⟨f, h1, h2, h3⟩ := h
  obtain ⟨b1, o1, p1, z1, w, f2, a1, a2, a3, a4, a5, a6, a7, a8, a9⟩ := own_step row_Measure (by decide) h1 hp (show (Measure.enc p).cells[21]? = some (slm Cell.enc p.cells) from rfl)
  exact ⟨b1, o1, p1, z1, w, a1, a2, a4, (own_len a5).1⟩
theorem foc_cell {v : AV} {m c : Nat} {y : Measure} {q : Cell} (h : Foc H bS R a v 3 (slm Measure.enc a.measures)) (hy : a.measures.l[m]? = some y) (hq : y.cells.l[c]? = some q) :
    ∃ b1 o1 p1 z1 w1 b2 o2 p2 z2 w2, v = .slice b1 o1 a.measures.l.length p1 22 ∧ H.cells b1 = some z1 ∧ z1[o1 + m * 22 + 21]? = some w1 ∧ w1 = .slice b2 o2 y.cells.l.length p2 2 ∧ H.cells b2 = some z2 ∧ z2[o2 + c * 2 + 1]? = some w2 ∧ lenOf w2 = some (.sc (.int .i64 q.voices.l.length)) := by
  obtain ⟨f, h1, h2, h3⟩ := h
  obtain ⟨b1, o1, p1, z1, w1, f1, a1, a2, a3, a4, a5, a6, a7, a8, a9⟩ := own_step row_Measure (by decide) h1 hy (show (Measure.enc y).cells[21]? = some (slm Cell.enc y.cells) from rfl)
  obtain ⟨b2, o2, p2, z2, w2, f2, d1, d2, d3, d4, d5, d6, d7, d8, d9⟩ := own_step row_Cell (by decide) a5 hq (show (Cell.enc q).cells[1]? = some (slm Voice.enc q.voices) from rfl)
  exact ⟨b1, o1, p1, z1, w1, b2, o2, p2, z2, w2, a1, a2, a4, d1, d2, d4, (own_len d5).1⟩
theorem foc_voice {v : AV} {m c vv : Nat} {y : Measure} {q : Cell} {z : Voice} (h : Foc H bS R a v 3 (slm Measure.enc a.measures)) (hy : a.measures.l[m]? = some y) (hq : y.cells.l[c]? = some q) (hz : q.voices.l[vv]? = some z) :
    ∃ b1 o1 p1 z1 w1 b2 o2 p2 z2 w2 b3 o3 p3 z3 w3, v = .slice b1 o1 a.measures.l.length p1 22 ∧ H.cells b1 = some z1 ∧ z1[o1 + m * 22 + 21]? = some w1 ∧ w1 = .slice b2 o2 y.cells.l.length p2 2 ∧ H.cells b2 = some z2 ∧ z2[o2 + c * 2 + 1]? = some w2 ∧
      w2 = .slice b3 o3 q.voices.l.length p3 2 ∧ H.cells b3 = some z3 ∧ z3[o3 + vv * 2]? = some w3 ∧ lenOf w3 = some (.sc (.int .i64 z.events.l.length)) := by
  obtain ⟨f, h1, h2, h3⟩ := h
  obtain ⟨b1, o1, p1, z1, w1, f1, a1, a2, a3, a4, a5, a6, a7, a8, a9⟩ := own_step row_Measure (by decide) h1 hy (show (Measure.enc y).cells[21]? = some (slm Cell.enc y.cells) from rfl)
  obtain ⟨b2, o2, p2, z2, w2, f2, d1, d2, d3, d4, d5, d6, d7, d8, d9⟩ := own_step row_Cell (by decide) a5 hq (show (Cell.enc q).cells[1]? = some (slm Voice.enc q.voices) from rfl)
  obtain ⟨b3, o3, p3, z3, w3, f3, e1, e2, e3, e4, e5, e6, e7, e8, e9⟩ := own_step row_Voice (by decide) d5 hz (show (Voice.enc z).cells[0]? = some (slm Event.enc z.events) from rfl)
  exact ⟨b1, o1, p1, z1, w1, b2, o2, p2, z2, w2, b3, o3, p3, z3, w3, a1, a2, a4, d1, d2, d4, e1, e2, by simpa using e4, (own_len e5).1⟩
end
theorem visit_own (s : Score) (hT : Tame s) (l bs bS : Nat) (R : List Nat) (S : List Pos → Score) (J : List Pos → AHeap → Prop) (D : AHeap → Prop)
    (hJ : ∀ r H, J r H → H.cells bs = some [.ptr bS 0] ∧ OwnScore H bS R (S r) ∧ SameShape (S r) s)
    (hy : ∀ o r H p, J (o :: r) H → PtrTo H bS R (S (o :: r)) o p → Ev prog pol (.yield l [o.place.enc, p]) H fun q H' => (q = .val (.sc (.bool true)) ∧ J r H') ∨ (q = .val (.sc (.bool false)) ∧ D H'))
    {H : AHeap} (h0 : J (poss s) H) : Ev prog pol (.call 110 [.yield l, .ptr bs 0]) H fun q H' => ∃ v, q = .val v ∧ (J [] H' ∨ D H') := by
  obtain ⟨hs, hst, hl1, hl2, hl3, hT1, hT2, hT3⟩ := hT
  have fin : ∀ t H', J [] H' ∨ D H' → ∃ v, cresults t H' [] = some v ∧ (J [] H' ∨ D H') := fun t H' h => ⟨_, rfl, h⟩
  refine wpF_ok ok110 (Q := fun v H' => J [] H' ∨ D H') ?_
  obtain ⟨hB, hO, hSh⟩ := hJ _ _ h0
  obtain ⟨v2, v3, v4, v5, hS, F2, F3, F4, F5⟩ := own_open hO
  have L2 := F2.len
  have L3 := F3.len
  have L4 := F4.len
  rw [hSh.parts] at L2
  rw [hSh.measures] at L3
  rw [hSh.spanners] at L4
  simp -implicitDefEqProofs (maxDischargeDepth := 12) only [wpF, cf110, WW,List.replicate,e_splice,if_true,if_false,ite_true,ite_false,true_or,ne_eq,Nat.reduceAdd,Nat.reduceSub,Nat.reduceMul,Nat.reduceLeDiff,Nat.reduceEqDiff,Nat.reduceGT,Nat.reduceLT,Int.reduceLE,Int.reduceLT,Int.reduceToNat,Int.reduceAdd,reduceCtorEq,h_putc,beq_self_eq_true,eq_self,exists_eq_left,exists_eq_left', hB, hS, L2]
  refine wp_loop (Inv := fun k t H => ∃ (i : Nat), i + k = s.parts.l.length ∧ J (posParts i (stavesOf (s.parts.l.take i)) (s.parts.l.drop i) ++ (posMeasures 0 s.measures.l ++ posSpanners 0 s.spanners.l)) H ∧
    ∃ x : Nat → AV, t = [.yield l, .ptr bs 0, x 2, .sc (.int .i64 (stavesOf (s.parts.l.take i))), x 4, x 5, x 6, x 7, x 8, x 9, x 10, x 11, x 12, x 13, x 14, .sc (.int .i64 s.parts.l.length), .sc (.int .i64 i), x 17, x 18, x 19, x 20, x 21, x 22, x 23, x 24, x 25, x 26, x 27, x 28, x 29, x 30, x 31, x 32, x 33, x 34, x 35, x 36, x 37, x 38, x 39, x 40, x 41, x 42, x 43, x 44, x 45, x 46, x 47, x 48, x 49, x 50, x 51, x 52, x 53, x 54, x 55, x 56, x 57, x 58, x 59, x 60, x 61, x 62, x 63, x 64, x 65, x 66, x 67, x 68, x 69, x 70, x 71, x 72, x 73, x 74, x 75, x 76, x 77, x 78, x 79, x 80, x 81, x 82, x 83, x 84, x 85, x 86, x 87, x 88, x 89, x 90, x 91, x 92, x 93, x 94, x 95, x 96, x 97, x 98, x 99, x 100, x 101, x 102, x 103, x 104, x 105, x 106, x 107, x 108, x 109, x 110, x 111, x 112, x 113, x 114, x 115, x 116, x 117, x 118, x 119, x 120, x 121, x 122, x 123, x 124, x 125, x 126, x 127, x 128, x 129, x 130, x 131, x 132, x 133, x 134, x 135, x 136, x 137, x 138, x 139, x 140, x 141, x 142, x 143, x 144, x 145, x 146, x 147, x 148, x 149, x 150, x 151, x 152, x 153, x 154, x 155, x 156, x 157, x 158, x 159, x 160, x 161, x 162, x 163, x 164, x 165, x 166, x 167, x 168, x 169, x 170, x 171, x 172, x 173, x 174, x 175, x 176, x 177, x 178, x 179, x 180, x 181, x 182]) (k := s.parts.l.length) ?_
    ⟨0, by omega, h0, ex_x rfl⟩
  clear h0 hB hO hSh hS F2 F3 F4 F5 L2 L3 L4 v2 v3 v4 v5
  rintro k t H ⟨i, hk, h0, x, rfl⟩
  obtain ⟨hB, hO, hSh⟩ := hJ _ _ h0
  obtain ⟨v2, v3, v4, v5, hS, F2, F3, F4, F5⟩ := own_open hO
  have L2 := F2.len
  have L3 := F3.len
  have L4 := F4.len
  rw [hSh.parts] at L2
  rw [hSh.measures] at L3
  rw [hSh.spanners] at L4
  by_cases h1 : (i : Int) < (s.parts.l.length : Int)
  · obtain ⟨p, hp⟩ : ∃ y, s.parts.l[i]? = some y := ⟨_, List.getElem?_eq_getElem (by omega)⟩
    have e2 : IntKind.i64.wrap ((i : Int) + 1) = ((i + 1 : Nat) : Int) := by rw [w64 (by omega) (by omega)]; omega
    have n1 : i < s.parts.l.length := by omega
    have hst2 := stavesOf_at hp
    rw [drop_cons hp, posParts] at h0 hO hSh F2 F3 F4 F5
    obtain ⟨p', hp', hpl⟩ := hSh.getP hp
    obtain ⟨b, o, c, ds, e, hd, hl, hPt⟩ := ptr_part F2 hp'
    rw [hSh.parts] at e
    simp -implicitDefEqProofs (maxDischargeDepth := 12) only [WW,List.replicate,e_splice,if_true,if_false,ite_true,ite_false,true_or,ne_eq,Nat.reduceAdd,Nat.reduceSub,Nat.reduceMul,Nat.reduceLeDiff,Nat.reduceEqDiff,Nat.reduceGT,Nat.reduceLT,Int.reduceLE,Int.reduceLT,Int.reduceToNat,Int.reduceAdd,reduceCtorEq,h_putc,beq_self_eq_true,eq_self,exists_eq_left,exists_eq_left', hB, hS, h1, n1, e, e_cally]
    clear hp' hpl hd hl e
    refine wA_yield ((hy (.part i) _ _ _ h0 hPt).mono fun q H' h => ?_)
    rcases h with ⟨rfl, h⟩ | ⟨rfl, h⟩
    rotate_left
    · refine ⟨_, rfl, by simp only [k_nil], ?_⟩
      simp -implicitDefEqProofs (maxDischargeDepth := 12) only [WW,List.replicate,e_splice,if_true,if_false,ite_true,ite_false,true_or,ne_eq,Nat.reduceAdd,Nat.reduceSub,Nat.reduceMul,Nat.reduceLeDiff,Nat.reduceEqDiff,Nat.reduceGT,Nat.reduceLT,Int.reduceLE,Int.reduceLT,Int.reduceToNat,Int.reduceAdd,reduceCtorEq,h_putc,beq_self_eq_true,eq_self,exists_eq_left,exists_eq_left', cr_nil]
      exact .inr h
    refine ⟨_, rfl, by simp only [k_nil], ?_⟩
    clear hPt h0 hB hO hSh hS F2 F3 F4 F5 L2 L3 L4
    obtain ⟨hB, hO, hSh⟩ := hJ _ _ h
    obtain ⟨v2, v3, v4, v5, hS, F2, F3, F4, F5⟩ := own_open hO
    have L2 := F2.len
    have L3 := F3.len
    have L4 := F4.len
    rw [hSh.parts] at L2
    rw [hSh.measures] at L3
    rw [hSh.spanners] at L4
    obtain ⟨p', hp', hpl⟩ := hSh.getP hp
    obtain ⟨b, o, c, ds, w, e, hd, hw, hwl⟩ := foc_part F2 hp'
    rw [hSh.parts] at e
    rw [hpl] at hwl
    simp -implicitDefEqProofs (maxDischargeDepth := 12) only [WW,List.replicate,e_splice,if_true,if_false,ite_true,ite_false,true_or,ne_eq,Nat.reduceAdd,Nat.reduceSub,Nat.reduceMul,Nat.reduceLeDiff,Nat.reduceEqDiff,Nat.reduceGT,Nat.reduceLT,Int.reduceLE,Int.reduceLT,Int.reduceToNat,Int.reduceAdd,reduceCtorEq,h_putc,beq_self_eq_true,eq_self,exists_eq_left,exists_eq_left', hB, hS, n1, e, hd, hw, hwl]
    refine wp_loop (Inv := fun k t H => ∃ (j : Nat), j + k = p.staves.l.length ∧ J (posStaves i j (stavesOf (s.parts.l.take i) + j) (p.staves.l.drop j) ++ posParts (i + 1) (stavesOf (s.parts.l.take i) + p.staves.l.length) (s.parts.l.drop (i + 1)) ++ (posMeasures 0 s.measures.l ++ posSpanners 0 s.spanners.l)) H ∧
      ∃ x : Nat → AV, t = [.yield l, .ptr bs 0, x 2, .sc (.int .i64 ((stavesOf (s.parts.l.take i) + j : Nat) : Int)), .sc (.int .i64 i), x 5, x 6, x 7, x 8, x 9, x 10, x 11, x 12, x 13, x 14, .sc (.int .i64 s.parts.l.length), .sc (.int .i64 i), x 17, x 18, x 19, x 20, x 21, x 22, x 23, x 24, x 25, x 26, x 27, x 28, x 29, x 30, x 31, x 32, x 33, x 34, x 35, x 36, x 37, x 38, .sc (.int .i64 p.staves.l.length), .sc (.int .i64 j), x 41, x 42, x 43, x 44, x 45, x 46, x 47, x 48, x 49, x 50, x 51, x 52, x 53, x 54, x 55, x 56, x 57, x 58, x 59, x 60, x 61, x 62, x 63, x 64, x 65, x 66, x 67, x 68, x 69, x 70, x 71, x 72, x 73, x 74, x 75, x 76, x 77, x 78, x 79, x 80, x 81, x 82, x 83, x 84, x 85, x 86, x 87, x 88, x 89, x 90, x 91, x 92, x 93, x 94, x 95, x 96, x 97, x 98, x 99, x 100, x 101, x 102, x 103, x 104, x 105, x 106, x 107, x 108, x 109, x 110, x 111, x 112, x 113, x 114, x 115, x 116, x 117, x 118, x 119, x 120, x 121, x 122, x 123, x 124, x 125, x 126, x 127, x 128, x 129, x 130, x 131, x 132, x 133, x 134, x 135, x 136, x 137, x 138, x 139, x 140, x 141, x 142, x 143, x 144, x 145, x 146, x 147, x 148, x 149, x 150, x 151, x 152, x 153, x 154, x 155, x 156, x 157, x 158, x 159, x 160, x 161, x 162, x 163, x 164, x 165, x 166, x 167, x 168, x 169, x 170, x 171, x 172, x 173, x 174, x 175, x 176, x 177, x 178, x 179, x 180, x 181, x 182]) (k := p.staves.l.length) ?_
      ⟨0, by omega, by simpa using h, ex_x rfl⟩
    clear h hB hO hSh hS F2 F3 F4 F5 L2 L3 L4 v2 v3 v4 v5 x p' hp' hpl b o c ds w e hd hw hwl
    rintro k' t H ⟨j, hk', h0, x, rfl⟩
    obtain ⟨hB, hO, hSh⟩ := hJ _ _ h0
    obtain ⟨v2, v3, v4, v5, hS, F2, F3, F4, F5⟩ := own_open hO
    have L2 := F2.len
    have L3 := F3.len
    have L4 := F4.len
    rw [hSh.parts] at L2
    rw [hSh.measures] at L3
    rw [hSh.spanners] at L4
    by_cases h3 : (j : Int) < (p.staves.l.length : Int)
    · obtain ⟨q, hq⟩ : ∃ y, p.staves.l[j]? = some y := ⟨_, List.getElem?_eq_getElem (by omega)⟩
      have n3 : j < p.staves.l.length := by omega
      have e3 : IntKind.i64.wrap ((j : Int) + 1) = ((j + 1 : Nat) : Int) := by rw [w64 (by omega) (by omega)]; omega
      have e4 : IntKind.i64.wrap (((stavesOf (s.parts.l.take i) + j : Nat) : Int) + 1) = ((stavesOf (s.parts.l.take i) + (j + 1) : Nat) : Int) := by rw [w64 (by omega) (by omega)]; omega
      rw [drop_cons hq, posStaves] at h0 hO hSh F2 F3 F4 F5
      obtain ⟨p', hp', hpl⟩ := hSh.getP hp
      obtain ⟨q', hq'⟩ := at_len hpl hq
      obtain ⟨b1, o1, c1, z1, w, b, o, c, ds, e, hz1, hl1, hw, hwe, hd, hl, hPt⟩ := ptr_staff (st := stavesOf (s.parts.l.take i) + j) F2 hp' hq'
      rw [hSh.parts] at e
      rw [hpl] at hwe
      simp -implicitDefEqProofs (maxDischargeDepth := 12) only [WW,List.replicate,e_splice,if_true,if_false,ite_true,ite_false,true_or,ne_eq,Nat.reduceAdd,Nat.reduceSub,Nat.reduceMul,Nat.reduceLeDiff,Nat.reduceEqDiff,Nat.reduceGT,Nat.reduceLT,Int.reduceLE,Int.reduceLT,Int.reduceToNat,Int.reduceAdd,reduceCtorEq,h_putc,beq_self_eq_true,eq_self,exists_eq_left,exists_eq_left', hB, hS, h3, n1, n3, e, hz1, hw, hwe, e_cally]
      clear hp' hpl hq' e hz1 hl1 hw hwe hd hl
      refine wA_yield ((hy (.staff i j (stavesOf (s.parts.l.take i) + j)) _ _ _ h0 hPt).mono fun q H' h => ?_)
      rcases h with ⟨rfl, h⟩ | ⟨rfl, h⟩
      rotate_left
      · refine ⟨_, rfl, by simp only [k_nil], ?_⟩
        simp -implicitDefEqProofs (maxDischargeDepth := 12) only [WW,List.replicate,e_splice,if_true,if_false,ite_true,ite_false,true_or,ne_eq,Nat.reduceAdd,Nat.reduceSub,Nat.reduceMul,Nat.reduceLeDiff,Nat.reduceEqDiff,Nat.reduceGT,Nat.reduceLT,Int.reduceLE,Int.reduceLT,Int.reduceToNat,Int.reduceAdd,reduceCtorEq,h_putc,beq_self_eq_true,eq_self,exists_eq_left,exists_eq_left', cr_nil]
        exact .inr h
      refine ⟨_, rfl, by simp only [k_nil], ?_⟩
      clear hPt h0 hB hO hSh hS F2 F3 F4 F5 L2 L3 L4
      obtain ⟨hB, hO, hSh⟩ := hJ _ _ h
      obtain ⟨v2, v3, v4, v5, hS, F2, F3, F4, F5⟩ := own_open hO
      have L2 := F2.len
      have L3 := F3.len
      have L4 := F4.len
      rw [hSh.parts] at L2
      rw [hSh.measures] at L3
      rw [hSh.spanners] at L4
      simp -implicitDefEqProofs (maxDischargeDepth := 12) only [WW,List.replicate,e_splice,if_true,if_false,ite_true,ite_false,true_or,ne_eq,Nat.reduceAdd,Nat.reduceSub,Nat.reduceMul,Nat.reduceLeDiff,Nat.reduceEqDiff,Nat.reduceGT,Nat.reduceLT,Int.reduceLE,Int.reduceLT,Int.reduceToNat,Int.reduceAdd,reduceCtorEq,h_putc,beq_self_eq_true,eq_self,exists_eq_left,exists_eq_left', e3, e4]
      exact ⟨k' - 1, by omega, j + 1, by omega, by simpa [Nat.add_assoc] using h, ex_x rfl⟩
    · have hj : j = p.staves.l.length := by omega
      simp -implicitDefEqProofs (maxDischargeDepth := 12) only [WW,List.replicate,e_splice,if_true,if_false,ite_true,ite_false,true_or,ne_eq,Nat.reduceAdd,Nat.reduceSub,Nat.reduceMul,Nat.reduceLeDiff,Nat.reduceEqDiff,Nat.reduceGT,Nat.reduceLT,Int.reduceLE,Int.reduceLT,Int.reduceToNat,Int.reduceAdd,reduceCtorEq,h_putc,beq_self_eq_true,eq_self,exists_eq_left,exists_eq_left', h3, e2]
      rw [drop_end h3] at h0
      simp only [posStaves, List.nil_append] at h0
      rw [hj, ← stavesOf_take hp]
      rw [← stavesOf_take hp] at h0
      exact ⟨k - 1, by omega, i + 1, by omega, h0, ex_x rfl⟩
  · rw [drop_end h1] at h0
    simp only [posParts, List.nil_append] at h0
    simp -implicitDefEqProofs (maxDischargeDepth := 12) only [WW,List.replicate,e_splice,if_true,if_false,ite_true,ite_false,true_or,ne_eq,Nat.reduceAdd,Nat.reduceSub,Nat.reduceMul,Nat.reduceLeDiff,Nat.reduceEqDiff,Nat.reduceGT,Nat.reduceLT,Int.reduceLE,Int.reduceLT,Int.reduceToNat,Int.reduceAdd,reduceCtorEq,h_putc,beq_self_eq_true,eq_self,exists_eq_left,exists_eq_left', hB, hS, h1, L3]
    refine wp_loop (Inv := fun k t H => ∃ (m : Nat), m + k = s.measures.l.length ∧ J (posMeasures m (s.measures.l.drop m) ++ posSpanners 0 s.spanners.l) H ∧
      ∃ x : Nat → AV, t = [.yield l, .ptr bs 0, x 2, x 3, x 4, x 5, x 6, x 7, x 8, x 9, x 10, x 11, x 12, x 13, x 14, x 15, x 16, x 17, x 18, x 19, x 20, x 21, x 22, x 23, x 24, x 25, x 26, x 27, x 28, x 29, x 30, x 31, x 32, x 33, x 34, x 35, x 36, x 37, x 38, x 39, x 40, x 41, x 42, x 43, x 44, x 45, x 46, x 47, x 48, x 49, x 50, x 51, x 52, x 53, x 54, x 55, x 56, x 57, x 58, x 59, x 60, x 61, x 62, x 63, x 64, x 65, x 66, .sc (.int .i64 s.measures.l.length), .sc (.int .i64 m), x 69, x 70, x 71, x 72, x 73, x 74, x 75, x 76, x 77, x 78, x 79, x 80, x 81, x 82, x 83, x 84, x 85, x 86, x 87, x 88, x 89, x 90, x 91, x 92, x 93, x 94, x 95, x 96, x 97, x 98, x 99, x 100, x 101, x 102, x 103, x 104, x 105, x 106, x 107, x 108, x 109, x 110, x 111, x 112, x 113, x 114, x 115, x 116, x 117, x 118, x 119, x 120, x 121, x 122, x 123, x 124, x 125, x 126, x 127, x 128, x 129, x 130, x 131, x 132, x 133, x 134, x 135, x 136, x 137, x 138, x 139, x 140, x 141, x 142, x 143, x 144, x 145, x 146, x 147, x 148, x 149, x 150, x 151, x 152, x 153, x 154, x 155, x 156, x 157, x 158, x 159, x 160, x 161, x 162, x 163, x 164, x 165, x 166, x 167, x 168, x 169, x 170, x 171, x 172, x 173, x 174, x 175, x 176, x 177, x 178, x 179, x 180, x 181, x 182]) (k := s.measures.l.length) ?_
      ⟨0, by omega, by simpa using h0, ex_x rfl⟩
    clear h0 hB hO hSh hS F2 F3 F4 F5 L2 L3 L4 v2 v3 v4 v5 x h1 hk
    rintro k t H ⟨m, hk, h0, x, rfl⟩
    obtain ⟨hB, hO, hSh⟩ := hJ _ _ h0
    obtain ⟨v2, v3, v4, v5, hS, F2, F3, F4, F5⟩ := own_open hO
    have L2 := F2.len
    have L3 := F3.len
    have L4 := F4.len
    rw [hSh.parts] at L2
    rw [hSh.measures] at L3
    rw [hSh.spanners] at L4
    by_cases h1 : (m : Int) < (s.measures.l.length : Int)
    · obtain ⟨y, hy'⟩ : ∃ y, s.measures.l[m]? = some y := ⟨_, List.getElem?_eq_getElem (by omega)⟩
      have n1 : m < s.measures.l.length := by omega
      have e2 : IntKind.i64.wrap ((m : Int) + 1) = ((m + 1 : Nat) : Int) := by rw [w64 (by omega) (by omega)]; omega
      have b1 := hT1 _ _ hy'
      rw [drop_cons hy', posMeasures] at h0 hO hSh F2 F3 F4 F5
      obtain ⟨y', hq, hql⟩ := hSh.getM hy'
      obtain ⟨b, o, c, ds, e, hd, hl, hPt⟩ := ptr_measure F3 hq
      rw [hSh.measures] at e
      simp -implicitDefEqProofs (maxDischargeDepth := 12) only [WW,List.replicate,e_splice,if_true,if_false,ite_true,ite_false,true_or,ne_eq,Nat.reduceAdd,Nat.reduceSub,Nat.reduceMul,Nat.reduceLeDiff,Nat.reduceEqDiff,Nat.reduceGT,Nat.reduceLT,Int.reduceLE,Int.reduceLT,Int.reduceToNat,Int.reduceAdd,reduceCtorEq,h_putc,beq_self_eq_true,eq_self,exists_eq_left,exists_eq_left', hB, hS, h1, n1, e, e_cally]
      clear hq hql hd hl e
      refine wA_yield ((hy (.measure m) _ _ _ h0 hPt).mono fun q H' h => ?_)
      rcases h with ⟨rfl, h⟩ | ⟨rfl, h⟩
      rotate_left
      · refine ⟨_, rfl, by simp only [k_nil], ?_⟩
        simp -implicitDefEqProofs (maxDischargeDepth := 12) only [WW,List.replicate,e_splice,if_true,if_false,ite_true,ite_false,true_or,ne_eq,Nat.reduceAdd,Nat.reduceSub,Nat.reduceMul,Nat.reduceLeDiff,Nat.reduceEqDiff,Nat.reduceGT,Nat.reduceLT,Int.reduceLE,Int.reduceLT,Int.reduceToNat,Int.reduceAdd,reduceCtorEq,h_putc,beq_self_eq_true,eq_self,exists_eq_left,exists_eq_left', cr_nil]
        exact .inr h
      refine ⟨_, rfl, by simp only [k_nil], ?_⟩
      clear hPt h0 hB hO hSh hS F2 F3 F4 F5 L2 L3 L4
      obtain ⟨hB, hO, hSh⟩ := hJ _ _ h
      obtain ⟨v2, v3, v4, v5, hS, F2, F3, F4, F5⟩ := own_open hO
      have L2 := F2.len
      have L3 := F3.len
      have L4 := F4.len
      rw [hSh.parts] at L2
      rw [hSh.measures] at L3
      rw [hSh.spanners] at L4
      obtain ⟨y', hq, hql⟩ := hSh.getM hy'
      obtain ⟨b, o, c, ds, w, e, hd, hw, hwl⟩ := foc_meas F3 hq
      rw [hSh.measures] at e
      rw [hql] at hwl
      simp -implicitDefEqProofs (maxDischargeDepth := 12) only [WW,List.replicate,e_splice,if_true,if_false,ite_true,ite_false,true_or,ne_eq,Nat.reduceAdd,Nat.reduceSub,Nat.reduceMul,Nat.reduceLeDiff,Nat.reduceEqDiff,Nat.reduceGT,Nat.reduceLT,Int.reduceLE,Int.reduceLT,Int.reduceToNat,Int.reduceAdd,reduceCtorEq,h_putc,beq_self_eq_true,eq_self,exists_eq_left,exists_eq_left', hB, hS, n1, e, hd, hw, hwl]
      refine wp_loop (Inv := fun k t H => ∃ (c : Nat), c + k = y.cells.l.length ∧ J (posCells m c (y.cells.l.drop c) ++ posMeasures (m + 1) (s.measures.l.drop (m + 1)) ++ posSpanners 0 s.spanners.l) H ∧
        ∃ x : Nat → AV, t = [.yield l, .ptr bs 0, x 2, x 3, x 4, x 5, .sc (.int .i64 m), x 7, x 8, x 9, x 10, x 11, x 12, x 13, x 14, x 15, x 16, x 17, x 18, x 19, x 20, x 21, x 22, x 23, x 24, x 25, x 26, x 27, x 28, x 29, x 30, x 31, x 32, x 33, x 34, x 35, x 36, x 37, x 38, x 39, x 40, x 41, x 42, x 43, x 44, x 45, x 46, x 47, x 48, x 49, x 50, x 51, x 52, x 53, x 54, x 55, x 56, x 57, x 58, x 59, x 60, x 61, x 62, x 63, x 64, x 65, x 66, .sc (.int .i64 s.measures.l.length), .sc (.int .i64 m), x 69, x 70, x 71, x 72, x 73, x 74, x 75, x 76, x 77, x 78, x 79, x 80, x 81, x 82, x 83, x 84, x 85, x 86, x 87, x 88, x 89, x 90, .sc (.int .i64 y.cells.l.length), .sc (.int .i64 c), x 93, x 94, x 95, x 96, x 97, x 98, x 99, x 100, x 101, x 102, x 103, x 104, x 105, x 106, x 107, x 108, x 109, x 110, x 111, x 112, x 113, x 114, x 115, x 116, x 117, x 118, x 119, x 120, x 121, x 122, x 123, x 124, x 125, x 126, x 127, x 128, x 129, x 130, x 131, x 132, x 133, x 134, x 135, x 136, x 137, x 138, x 139, x 140, x 141, x 142, x 143, x 144, x 145, x 146, x 147, x 148, x 149, x 150, x 151, x 152, x 153, x 154, x 155, x 156, x 157, x 158, x 159, x 160, x 161, x 162, x 163, x 164, x 165, x 166, x 167, x 168, x 169, x 170, x 171, x 172, x 173, x 174, x 175, x 176, x 177, x 178, x 179, x 180, x 181, x 182]) (k := y.cells.l.length) ?_
        ⟨0, by omega, by simpa using h, ex_x rfl⟩
      clear h hB hO hSh hS F2 F3 F4 F5 L2 L3 L4 v2 v3 v4 v5 x y' hq hql b o c ds w e hd hw hwl
      rintro k' t H ⟨c, hk', h0, x, rfl⟩
      obtain ⟨hB, hO, hSh⟩ := hJ _ _ h0
      obtain ⟨v2, v3, v4, v5, hS, F2, F3, F4, F5⟩ := own_open hO
      have L2 := F2.len
      have L3 := F3.len
      have L4 := F4.len
      rw [hSh.parts] at L2
      rw [hSh.measures] at L3
      rw [hSh.spanners] at L4
      by_cases h3 : (c : Int) < (y.cells.l.length : Int)
      · obtain ⟨q, hq⟩ : ∃ q, y.cells.l[c]? = some q := ⟨_, List.getElem?_eq_getElem (by omega)⟩
        have n3 : c < y.cells.l.length := by omega
        have e3 : IntKind.i64.wrap ((c : Int) + 1) = ((c + 1 : Nat) : Int) := by rw [w64 (by omega) (by omega)]; omega
        have b2 := hT2 _ _ _ _ hy' hq
        rw [drop_cons hq, posCells] at h0 hO hSh F2 F3 F4 F5
        obtain ⟨y', hyy, hyl⟩ := hSh.getM hy'
        obtain ⟨q', hqq, hqql⟩ := hSh.getC hy' hyy hq
        obtain ⟨d1, o1, p1, z1, w1, d2, o2, p2, z2, w2, r1, r2, r3, r4, r5, r6, r7⟩ := foc_cell F3 hyy hqq
        rw [hSh.measures] at r1
        rw [hyl] at r4
        rw [hqql] at r7
        simp -implicitDefEqProofs (maxDischargeDepth := 12) only [WW,List.replicate,e_splice,if_true,if_false,ite_true,ite_false,true_or,ne_eq,Nat.reduceAdd,Nat.reduceSub,Nat.reduceMul,Nat.reduceLeDiff,Nat.reduceEqDiff,Nat.reduceGT,Nat.reduceLT,Int.reduceLE,Int.reduceLT,Int.reduceToNat,Int.reduceAdd,reduceCtorEq,h_putc,beq_self_eq_true,eq_self,exists_eq_left,exists_eq_left', hB, hS, h3, n1, n3, r1, r2, r3, r4, r5, r6, r7]
        refine wp_loop (Inv := fun k t H => ∃ (v : Nat), v + k = q.voices.l.length ∧ J (posVoices m c v (q.voices.l.drop v) ++ posCells m (c + 1) (y.cells.l.drop (c + 1)) ++ posMeasures (m + 1) (s.measures.l.drop (m + 1)) ++ posSpanners 0 s.spanners.l) H ∧
          ∃ x : Nat → AV, t = [.yield l, .ptr bs 0, x 2, x 3, x 4, x 5, .sc (.int .i64 m), .sc (.int .i64 c), x 8, x 9, x 10, x 11, x 12, x 13, x 14, x 15, x 16, x 17, x 18, x 19, x 20, x 21, x 22, x 23, x 24, x 25, x 26, x 27, x 28, x 29, x 30, x 31, x 32, x 33, x 34, x 35, x 36, x 37, x 38, x 39, x 40, x 41, x 42, x 43, x 44, x 45, x 46, x 47, x 48, x 49, x 50, x 51, x 52, x 53, x 54, x 55, x 56, x 57, x 58, x 59, x 60, x 61, x 62, x 63, x 64, x 65, x 66, .sc (.int .i64 s.measures.l.length), .sc (.int .i64 m), x 69, x 70, x 71, x 72, x 73, x 74, x 75, x 76, x 77, x 78, x 79, x 80, x 81, x 82, x 83, x 84, x 85, x 86, x 87, x 88, x 89, x 90, .sc (.int .i64 y.cells.l.length), .sc (.int .i64 c), x 93, x 94, x 95, x 96, x 97, x 98, x 99, x 100, x 101, x 102, x 103, x 104, x 105, x 106, .sc (.int .i64 q.voices.l.length), .sc (.int .i64 v), x 109, x 110, x 111, x 112, x 113, x 114, x 115, x 116, x 117, x 118, x 119, x 120, x 121, x 122, x 123, x 124, x 125, x 126, x 127, x 128, x 129, x 130, x 131, x 132, x 133, x 134, x 135, x 136, x 137, x 138, x 139, x 140, x 141, x 142, x 143, x 144, x 145, x 146, x 147, x 148, x 149, x 150, x 151, x 152, x 153, x 154, x 155, x 156, x 157, x 158, x 159, x 160, x 161, x 162, x 163, x 164, x 165, x 166, x 167, x 168, x 169, x 170, x 171, x 172, x 173, x 174, x 175, x 176, x 177, x 178, x 179, x 180, x 181, x 182]) (k := q.voices.l.length) ?_
          ⟨0, by omega, by simpa using h0, ex_x rfl⟩
        clear h0 hB hO hSh hS F2 F3 F4 F5 L2 L3 L4 v2 v3 v4 v5 x y' hyy hyl q' hqq hqql d1 o1 p1 z1 w1 d2 o2 p2 z2 w2 r1 r2 r3 r4 r5 r6 r7
        rintro k2 t H ⟨v, hk2, h0, x, rfl⟩
        obtain ⟨hB, hO, hSh⟩ := hJ _ _ h0
        obtain ⟨v2, v3, v4, v5, hS, F2, F3, F4, F5⟩ := own_open hO
        have L2 := F2.len
        have L3 := F3.len
        have L4 := F4.len
        rw [hSh.parts] at L2
        rw [hSh.measures] at L3
        rw [hSh.spanners] at L4
        by_cases h5 : (v : Int) < (q.voices.l.length : Int)
        · obtain ⟨z, hz⟩ : ∃ z, q.voices.l[v]? = some z := ⟨_, List.getElem?_eq_getElem (by omega)⟩
          have n5 : v < q.voices.l.length := by omega
          have e4 : IntKind.i64.wrap ((v : Int) + 1) = ((v + 1 : Nat) : Int) := by rw [w64 (by omega) (by omega)]; omega
          have b3 := hT3 _ _ _ _ _ _ hy' hq hz
          rw [drop_cons hz, posVoices] at h0 hO hSh F2 F3 F4 F5
          obtain ⟨y', hyy, hyl⟩ := hSh.getM hy'
          obtain ⟨q', hqq, hqql⟩ := hSh.getC hy' hyy hq
          obtain ⟨z', hzz, hzl⟩ := hSh.getV hy' hyy hq hqq hz
          obtain ⟨d1, o1, p1, z1, w1, d2, o2, p2, z2, w2, d3, o3, p3, z3, w3, r1, r2, r3, r4, r5, r6, r7, r8, r9, r10⟩ := foc_voice F3 hyy hqq hzz
          rw [hSh.measures] at r1
          rw [hyl] at r4
          rw [hqql] at r7
          rw [hzl] at r10
          simp -implicitDefEqProofs (maxDischargeDepth := 12) only [WW,List.replicate,e_splice,if_true,if_false,ite_true,ite_false,true_or,ne_eq,Nat.reduceAdd,Nat.reduceSub,Nat.reduceMul,Nat.reduceLeDiff,Nat.reduceEqDiff,Nat.reduceGT,Nat.reduceLT,Int.reduceLE,Int.reduceLT,Int.reduceToNat,Int.reduceAdd,reduceCtorEq,h_putc,beq_self_eq_true,eq_self,exists_eq_left,exists_eq_left', hB, hS, h5, n1, n3, n5, r1, r2, r3, r4, r5, r6, r7, r8, r9, r10]
          refine wp_loop (Inv := fun k t H => ∃ (e : Nat), e + k = z.events.l.length ∧ J (posEvents m c v e (z.events.l.drop e) ++ posVoices m c (v + 1) (q.voices.l.drop (v + 1)) ++ posCells m (c + 1) (y.cells.l.drop (c + 1)) ++ posMeasures (m + 1) (s.measures.l.drop (m + 1)) ++ posSpanners 0 s.spanners.l) H ∧
            ∃ x : Nat → AV, t = [.yield l, .ptr bs 0, x 2, x 3, x 4, x 5, .sc (.int .i64 m), .sc (.int .i64 c), .sc (.int .i64 v), x 9, x 10, x 11, x 12, x 13, x 14, x 15, x 16, x 17, x 18, x 19, x 20, x 21, x 22, x 23, x 24, x 25, x 26, x 27, x 28, x 29, x 30, x 31, x 32, x 33, x 34, x 35, x 36, x 37, x 38, x 39, x 40, x 41, x 42, x 43, x 44, x 45, x 46, x 47, x 48, x 49, x 50, x 51, x 52, x 53, x 54, x 55, x 56, x 57, x 58, x 59, x 60, x 61, x 62, x 63, x 64, x 65, x 66, .sc (.int .i64 s.measures.l.length), .sc (.int .i64 m), x 69, x 70, x 71, x 72, x 73, x 74, x 75, x 76, x 77, x 78, x 79, x 80, x 81, x 82, x 83, x 84, x 85, x 86, x 87, x 88, x 89, x 90, .sc (.int .i64 y.cells.l.length), .sc (.int .i64 c), x 93, x 94, x 95, x 96, x 97, x 98, x 99, x 100, x 101, x 102, x 103, x 104, x 105, x 106, .sc (.int .i64 q.voices.l.length), .sc (.int .i64 v), x 109, x 110, x 111, x 112, x 113, x 114, x 115, x 116, x 117, x 118, x 119, x 120, x 121, x 122, x 123, x 124, x 125, x 126, .sc (.int .i64 z.events.l.length), .sc (.int .i64 e), x 129, x 130, x 131, x 132, x 133, x 134, x 135, x 136, x 137, x 138, x 139, x 140, x 141, x 142, x 143, x 144, x 145, x 146, x 147, x 148, x 149, x 150, x 151, x 152, x 153, x 154, x 155, x 156, x 157, x 158, x 159, x 160, x 161, x 162, x 163, x 164, x 165, x 166, x 167, x 168, x 169, x 170, x 171, x 172, x 173, x 174, x 175, x 176, x 177, x 178, x 179, x 180, x 181, x 182]) (k := z.events.l.length) ?_
            ⟨0, by omega, by simpa using h0, ex_x rfl⟩
          clear h0 hB hO hSh hS F2 F3 F4 F5 L2 L3 L4 v2 v3 v4 v5 x y' hyy hyl q' hqq hqql z' hzz hzl d1 o1 p1 z1 w1 d2 o2 p2 z2 w2 d3 o3 p3 z3 w3 r1 r2 r3 r4 r5 r6 r7 r8 r9 r10
          rintro k3 t H ⟨e, hk3, h0, x, rfl⟩
          obtain ⟨hB, hO, hSh⟩ := hJ _ _ h0
          obtain ⟨v2, v3, v4, v5, hS, F2, F3, F4, F5⟩ := own_open hO
          have L2 := F2.len
          have L3 := F3.len
          have L4 := F4.len
          rw [hSh.parts] at L2
          rw [hSh.measures] at L3
          rw [hSh.spanners] at L4
          by_cases h7 : (e : Int) < (z.events.l.length : Int)
          · obtain ⟨w, hw⟩ : ∃ w, z.events.l[e]? = some w := ⟨_, List.getElem?_eq_getElem (by omega)⟩
            have n7 : e < z.events.l.length := by omega
            have e5 : IntKind.i64.wrap ((e : Int) + 1) = ((e + 1 : Nat) : Int) := by rw [w64 (by omega) (by omega)]; omega
            rw [drop_cons hw, posEvents] at h0 hO hSh F2 F3 F4 F5
            obtain ⟨y', hyy, hyl⟩ := hSh.getM hy'
            obtain ⟨q', hqq, hqql⟩ := hSh.getC hy' hyy hq
            obtain ⟨z', hzz, hzl⟩ := hSh.getV hy' hyy hq hqq hz
            obtain ⟨w', hww⟩ := at_len hzl hw
            obtain ⟨d1, o1, p1, z1, w1, d2, o2, p2, z2, w2, d3, o3, p3, z3, w3, b, o, cc, ds, r1, r2, r3, r4, r5, r6, r7, r8, r9, r10, hd, hl, hPt⟩ := ptr_event F3 hyy hqq hzz hww
            rw [hSh.measures] at r1
            rw [hyl] at r4
            rw [hqql] at r7
            rw [hzl] at r10
            simp -implicitDefEqProofs (maxDischargeDepth := 12) only [WW,List.replicate,e_splice,if_true,if_false,ite_true,ite_false,true_or,ne_eq,Nat.reduceAdd,Nat.reduceSub,Nat.reduceMul,Nat.reduceLeDiff,Nat.reduceEqDiff,Nat.reduceGT,Nat.reduceLT,Int.reduceLE,Int.reduceLT,Int.reduceToNat,Int.reduceAdd,reduceCtorEq,h_putc,beq_self_eq_true,eq_self,exists_eq_left,exists_eq_left', hB, hS, h7, n1, n3, n5, n7, r1, r2, r3, r4, r5, r6, r7, r8, r9, r10, e_cally]
            clear hyy hyl hqq hqql hzz hzl hww r1 r2 r3 r4 r5 r6 r7 r8 r9 r10 hd hl
            refine wA_yield ((hy (.event m c v e) _ _ _ h0 hPt).mono fun q H' h => ?_)
            rcases h with ⟨rfl, h⟩ | ⟨rfl, h⟩
            rotate_left
            · refine ⟨_, rfl, by simp only [k_nil], ?_⟩
              simp -implicitDefEqProofs (maxDischargeDepth := 12) only [WW,List.replicate,e_splice,if_true,if_false,ite_true,ite_false,true_or,ne_eq,Nat.reduceAdd,Nat.reduceSub,Nat.reduceMul,Nat.reduceLeDiff,Nat.reduceEqDiff,Nat.reduceGT,Nat.reduceLT,Int.reduceLE,Int.reduceLT,Int.reduceToNat,Int.reduceAdd,reduceCtorEq,h_putc,beq_self_eq_true,eq_self,exists_eq_left,exists_eq_left', cr_nil]
              exact .inr h
            refine ⟨_, rfl, by simp only [k_nil], ?_⟩
            clear hPt h0 hB hO hSh hS F2 F3 F4 F5 L2 L3 L4
            obtain ⟨hB, hO, hSh⟩ := hJ _ _ h
            obtain ⟨v2, v3, v4, v5, hS, F2, F3, F4, F5⟩ := own_open hO
            have L2 := F2.len
            have L3 := F3.len
            have L4 := F4.len
            rw [hSh.parts] at L2
            rw [hSh.measures] at L3
            rw [hSh.spanners] at L4
            simp -implicitDefEqProofs (maxDischargeDepth := 12) only [WW,List.replicate,e_splice,if_true,if_false,ite_true,ite_false,true_or,ne_eq,Nat.reduceAdd,Nat.reduceSub,Nat.reduceMul,Nat.reduceLeDiff,Nat.reduceEqDiff,Nat.reduceGT,Nat.reduceLT,Int.reduceLE,Int.reduceLT,Int.reduceToNat,Int.reduceAdd,reduceCtorEq,h_putc,beq_self_eq_true,eq_self,exists_eq_left,exists_eq_left', e5]
            exact ⟨k3 - 1, by omega, e + 1, by omega, by simpa using h, ex_x rfl⟩
          · rw [drop_end h7] at h0
            simp only [posEvents, List.nil_append] at h0
            simp -implicitDefEqProofs (maxDischargeDepth := 12) only [WW,List.replicate,e_splice,if_true,if_false,ite_true,ite_false,true_or,ne_eq,Nat.reduceAdd,Nat.reduceSub,Nat.reduceMul,Nat.reduceLeDiff,Nat.reduceEqDiff,Nat.reduceGT,Nat.reduceLT,Int.reduceLE,Int.reduceLT,Int.reduceToNat,Int.reduceAdd,reduceCtorEq,h_putc,beq_self_eq_true,eq_self,exists_eq_left,exists_eq_left', h7, e4]
            exact ⟨k2 - 1, by omega, v + 1, by omega, h0, ex_x rfl⟩
        · rw [drop_end h5] at h0
          simp only [posVoices, List.nil_append] at h0
          simp -implicitDefEqProofs (maxDischargeDepth := 12) only [WW,List.replicate,e_splice,if_true,if_false,ite_true,ite_false,true_or,ne_eq,Nat.reduceAdd,Nat.reduceSub,Nat.reduceMul,Nat.reduceLeDiff,Nat.reduceEqDiff,Nat.reduceGT,Nat.reduceLT,Int.reduceLE,Int.reduceLT,Int.reduceToNat,Int.reduceAdd,reduceCtorEq,h_putc,beq_self_eq_true,eq_self,exists_eq_left,exists_eq_left', h5, e3]
          exact ⟨k' - 1, by omega, c + 1, by omega, h0, ex_x rfl⟩
      · rw [drop_end h3] at h0
        simp only [posCells, List.nil_append] at h0
        simp -implicitDefEqProofs (maxDischargeDepth := 12) only [WW,List.replicate,e_splice,if_true,if_false,ite_true,ite_false,true_or,ne_eq,Nat.reduceAdd,Nat.reduceSub,Nat.reduceMul,Nat.reduceLeDiff,Nat.reduceEqDiff,Nat.reduceGT,Nat.reduceLT,Int.reduceLE,Int.reduceLT,Int.reduceToNat,Int.reduceAdd,reduceCtorEq,h_putc,beq_self_eq_true,eq_self,exists_eq_left,exists_eq_left', h3, e2]
        exact ⟨k - 1, by omega, m + 1, by omega, h0, ex_x rfl⟩
    · rw [drop_end h1] at h0
      simp only [posMeasures, List.nil_append] at h0
      simp -implicitDefEqProofs (maxDischargeDepth := 12) only [WW,List.replicate,e_splice,if_true,if_false,ite_true,ite_false,true_or,ne_eq,Nat.reduceAdd,Nat.reduceSub,Nat.reduceMul,Nat.reduceLeDiff,Nat.reduceEqDiff,Nat.reduceGT,Nat.reduceLT,Int.reduceLE,Int.reduceLT,Int.reduceToNat,Int.reduceAdd,reduceCtorEq,h_putc,beq_self_eq_true,eq_self,exists_eq_left,exists_eq_left', hB, hS, h1, L4]
      refine wp_loop (Inv := fun k t H => ∃ (i : Nat), i + k = s.spanners.l.length ∧ J (posSpanners i (s.spanners.l.drop i)) H ∧
        ∃ x : Nat → AV, t = [.yield l, .ptr bs 0, x 2, x 3, x 4, x 5, x 6, x 7, x 8, x 9, x 10, x 11, x 12, x 13, x 14, x 15, x 16, x 17, x 18, x 19, x 20, x 21, x 22, x 23, x 24, x 25, x 26, x 27, x 28, x 29, x 30, x 31, x 32, x 33, x 34, x 35, x 36, x 37, x 38, x 39, x 40, x 41, x 42, x 43, x 44, x 45, x 46, x 47, x 48, x 49, x 50, x 51, x 52, x 53, x 54, x 55, x 56, x 57, x 58, x 59, x 60, x 61, x 62, x 63, x 64, x 65, x 66, x 67, x 68, x 69, x 70, x 71, x 72, x 73, x 74, x 75, x 76, x 77, x 78, x 79, x 80, x 81, x 82, x 83, x 84, x 85, x 86, x 87, x 88, x 89, x 90, x 91, x 92, x 93, x 94, x 95, x 96, x 97, x 98, x 99, x 100, x 101, x 102, x 103, x 104, x 105, x 106, x 107, x 108, x 109, x 110, x 111, x 112, x 113, x 114, x 115, x 116, x 117, x 118, x 119, x 120, x 121, x 122, x 123, x 124, x 125, x 126, x 127, x 128, x 129, x 130, x 131, x 132, x 133, x 134, x 135, x 136, x 137, x 138, x 139, x 140, x 141, x 142, x 143, x 144, x 145, x 146, x 147, x 148, x 149, x 150, x 151, x 152, x 153, x 154, x 155, x 156, x 157, x 158, x 159, x 160, x 161, x 162, x 163, x 164, x 165, .sc (.int .i64 s.spanners.l.length), .sc (.int .i64 i), x 168, x 169, x 170, x 171, x 172, x 173, x 174, x 175, x 176, x 177, x 178, x 179, x 180, x 181, x 182]) (k := s.spanners.l.length) ?_
        ⟨0, by omega, by simpa using h0, ex_x rfl⟩
      clear h0 hB hO hSh hS F2 F3 F4 F5 L2 L3 L4 v2 v3 v4 v5 x
      rintro k t H ⟨i, hk, h0, x, rfl⟩
      obtain ⟨hB, hO, hSh⟩ := hJ _ _ h0
      obtain ⟨v2, v3, v4, v5, hS, F2, F3, F4, F5⟩ := own_open hO
      have L2 := F2.len
      have L3 := F3.len
      have L4 := F4.len
      rw [hSh.parts] at L2
      rw [hSh.measures] at L3
      rw [hSh.spanners] at L4
      by_cases h1 : (i : Int) < (s.spanners.l.length : Int)
      · obtain ⟨y, hy'⟩ : ∃ y, s.spanners.l[i]? = some y := ⟨_, List.getElem?_eq_getElem (by omega)⟩
        have n1 : i < s.spanners.l.length := by omega
        have e2 : IntKind.i64.wrap ((i : Int) + 1) = ((i + 1 : Nat) : Int) := by rw [w64 (by omega) (by omega)]; omega
        rw [drop_cons hy', posSpanners] at h0 hO hSh F2 F3 F4 F5
        obtain ⟨y', hq⟩ := at_len hSh.spanners hy'
        obtain ⟨b, o, c, ds, e, hd, hl, hPt⟩ := ptr_spanner F4 hq
        rw [hSh.spanners] at e
        simp -implicitDefEqProofs (maxDischargeDepth := 12) only [WW,List.replicate,e_splice,if_true,if_false,ite_true,ite_false,true_or,ne_eq,Nat.reduceAdd,Nat.reduceSub,Nat.reduceMul,Nat.reduceLeDiff,Nat.reduceEqDiff,Nat.reduceGT,Nat.reduceLT,Int.reduceLE,Int.reduceLT,Int.reduceToNat,Int.reduceAdd,reduceCtorEq,h_putc,beq_self_eq_true,eq_self,exists_eq_left,exists_eq_left', hB, hS, h1, n1, e, e_cally]
        clear hq hd hl e
        refine wA_yield ((hy (.spanner i) _ _ _ h0 hPt).mono fun q H' h => ?_)
        rcases h with ⟨rfl, h⟩ | ⟨rfl, h⟩
        rotate_left
        · refine ⟨_, rfl, by simp only [k_nil], ?_⟩
          simp -implicitDefEqProofs (maxDischargeDepth := 12) only [WW,List.replicate,e_splice,if_true,if_false,ite_true,ite_false,true_or,ne_eq,Nat.reduceAdd,Nat.reduceSub,Nat.reduceMul,Nat.reduceLeDiff,Nat.reduceEqDiff,Nat.reduceGT,Nat.reduceLT,Int.reduceLE,Int.reduceLT,Int.reduceToNat,Int.reduceAdd,reduceCtorEq,h_putc,beq_self_eq_true,eq_self,exists_eq_left,exists_eq_left', cr_nil]
          exact .inr h
        refine ⟨_, rfl, by simp only [k_nil], ?_⟩
        clear hPt h0 hB hO hSh hS F2 F3 F4 F5 L2 L3 L4
        obtain ⟨hB, hO, hSh⟩ := hJ _ _ h
        obtain ⟨v2, v3, v4, v5, hS, F2, F3, F4, F5⟩ := own_open hO
        have L2 := F2.len
        have L3 := F3.len
        have L4 := F4.len
        rw [hSh.parts] at L2
        rw [hSh.measures] at L3
        rw [hSh.spanners] at L4
        simp -implicitDefEqProofs (maxDischargeDepth := 12) only [WW,List.replicate,e_splice,if_true,if_false,ite_true,ite_false,true_or,ne_eq,Nat.reduceAdd,Nat.reduceSub,Nat.reduceMul,Nat.reduceLeDiff,Nat.reduceEqDiff,Nat.reduceGT,Nat.reduceLT,Int.reduceLE,Int.reduceLT,Int.reduceToNat,Int.reduceAdd,reduceCtorEq,h_putc,beq_self_eq_true,eq_self,exists_eq_left,exists_eq_left', e2]
        exact ⟨k - 1, by omega, i + 1, by omega, by simpa using h, ex_x rfl⟩
      · rw [drop_end h1] at h0
        simp only [posSpanners] at h0
        simp -implicitDefEqProofs (maxDischargeDepth := 12) only [WW,List.replicate,e_splice,if_true,if_false,ite_true,ite_false,true_or,ne_eq,Nat.reduceAdd,Nat.reduceSub,Nat.reduceMul,Nat.reduceLeDiff,Nat.reduceEqDiff,Nat.reduceGT,Nat.reduceLT,Int.reduceLE,Int.reduceLT,Int.reduceToNat,Int.reduceAdd,reduceCtorEq,h_putc,beq_self_eq_true,eq_self,exists_eq_left,exists_eq_left', h1, cr_nil]
        exact .inl h0
end Go.Hem
/- Walks: IndexFunc and DeleteFunc over the spanners of a copy. -/
set_option maxRecDepth 10000
set_option maxHeartbeats 4000000
set_option linter.unusedSimpArgs false
set_option linter.unusedVariables false
namespace Go.Hem
variable {pol : Pol}
def badSp (ids : List ID) (x : Spanner) : Bool := !decide (x.from_ ∈ ids) || !decide (x.to ∈ ids)
def idxAV : Option Nat → AV
  | some i => .sc (.int .i64 i)
  | none => .sc (.int .i64 (-1))
theorem own_scs {I : Bool} {d : Nat} {H : AHeap} {vs us : List AV} {fp : List Nat} (h : OwnL (OwnX I d) H vs us fp) : (∀ u ∈ us, ∃ x, u = .sc x) → vs = us ∧ fp = [] := by
  induction h with
  | nil => intro _; exact ⟨rfl, rfl⟩
  | cons h1 h2 h3 ih =>
    rename_i v u vs us f g
    intro k
    obtain ⟨x, rfl⟩ := k u (by simp)
    obtain ⟨rfl, rfl⟩ := own_sc h1
    obtain ⟨rfl, rfl⟩ := ih fun u hu => k u (by simp [hu])
    exact ⟨rfl, rfl⟩
theorem sp_scs (x : Spanner) : ∀ u ∈ (Spanner.enc x).cells, ∃ y, u = .sc y := by
  intro u hu
  simp only [x.enc_eq, c_agg, List.mem_cons, List.not_mem_nil, or_false] at hu
  rcases hu with rfl | rfl | rfl | rfl | rfl | rfl | rfl <;> exact ⟨_, rfl⟩
theorem own_sp {H : AHeap} {v : AV} {d i : Nat} {s : Sl Spanner} {fp : List Nat} {x : Spanner} (h : OwnX false (d + 1) H v (slm Spanner.enc s) fp) (hi : s.l[i]? = some x) :
    ∃ b off cap cs, v = .slice b off s.l.length cap 7 ∧ H.cells b = some cs ∧ off + s.l.length * 7 ≤ cs.length ∧ b ∈ fp ∧ (cs.drop (off + i * 7)).take 7 = x.enc.cells := by
  obtain ⟨b, off, cap, cs, fp', h1, h2, h3, h4, h5, h6⟩ := own_elem row_Spanner (by decide) h hi
  exact ⟨b, off, cap, cs, h1, h2, h3, h4, (own_scs h5 (sp_scs x)).1⟩
theorem index_own (hp : pol.pure 70 = false) {H0 : AHeap} {bq m d : Nat} {v : AV} {s : Sl Spanner} {fp : List Nat} {ids : List ID} (hv : OwnX false (d + 1) H0 v (slm Spanner.enc s) fp) (hq : H0.cells bq = some [.map m]) (hm : H0.map m = some (idsOf ids)) (hl : s.l.length < 1000000) :
    Ev prog pol (.call 114 [v, .func (.func 70) [] [.ptr bq 0]]) H0 fun o H' => o = .val (idxAV (s.l.findIdx? (badSp ids))) ∧ Keep H0.next H0 H' ∧ H'.map m = some (idsOf ids) ∧ H0.next ≤ H'.next := by
  refine (wpF_ok ok114 (Q := fun v H' => v = idxAV (s.l.findIdx? (badSp ids)) ∧ Keep H0.next H0 H' ∧ H'.map m = some (idsOf ids) ∧ H0.next ≤ H'.next) ?_).mono ?_
  rotate_left
  · rintro o H' ⟨v, rfl, rfl, h⟩
    exact ⟨rfl, h⟩
  have b2 := h_lt hq
  simp -implicitDefEqProofs (maxDischargeDepth := 12) only [wpF, cf114, WW,List.replicate,e_splice,if_true,if_false,ite_true,ite_false,true_or,ne_eq,Nat.reduceAdd,Nat.reduceSub,Nat.reduceMul,Nat.reduceLeDiff,Nat.reduceEqDiff,Nat.reduceGT,Nat.reduceLT,Int.reduceLE,Int.reduceLT,Int.reduceToNat,Int.reduceAdd,reduceCtorEq,h_putc,beq_self_eq_true,eq_self,exists_eq_left,exists_eq_left', (own_len hv).1]
  refine wp_loop (Inv := fun k t H => ∃ (i : Nat), i + k = s.l.length ∧ Keep H0.next H0 H ∧ H.map m = some (idsOf ids) ∧ H0.next ≤ H.next ∧ (∀ j x, j < i → s.l[j]? = some x → badSp ids x = false) ∧
    ∃ x : Nat → AV, t = [v, .func (.func 70) [] [.ptr bq 0], x 2, x 3, .sc (.int .i64 0), x 5, v, .sc (.int .i64 s.l.length), .sc (.int .i64 i), x 9, x 10, x 11, x 12, x 13, x 14, x 15, x 16, x 17, x 18]) (k := s.l.length) ?_
    ⟨0, by omega, Keep.refl, hm, Nat.le_refl _, by simp, ex_x rfl⟩
  rintro k t H ⟨i, hk, hK, hm', hn, hbad, x, rfl⟩
  have c2 := hK.cells hq b2
  by_cases h1 : (i : Int) < (s.l.length : Int)
  · obtain ⟨y, hy⟩ : ∃ y, s.l[i]? = some y := ⟨_, List.getElem?_eq_getElem (by omega)⟩
    have e2 : IntKind.i64.wrap ((i : Int) + 1) = ((i + 1 : Nat) : Int) := by rw [w64 (by omega) (by omega)]; omega
    obtain ⟨b, off, cap, cs, rfl, hb, hle, hbf, he4⟩ := own_sp hv hy
    have c1 := hK.cells hb (h_lt hb)
    have h1n : i < s.l.length := by omega
    have he3 : off + i * 7 + 7 ≤ cs.length := by omega
    have hsp : AV.agg y.enc.cells = y.enc := rfl
    simp -implicitDefEqProofs (maxDischargeDepth := 12) only [WW,List.replicate,e_splice,if_true,if_false,ite_true,ite_false,true_or,ne_eq,Nat.reduceAdd,Nat.reduceSub,Nat.reduceMul,Nat.reduceLeDiff,Nat.reduceEqDiff,Nat.reduceGT,Nat.reduceLT,Int.reduceLE,Int.reduceLT,Int.reduceToNat,Int.reduceAdd,reduceCtorEq,h_putc,beq_self_eq_true,eq_self,exists_eq_left,exists_eq_left', h1, h1n, c1, he3, he4]
    rw [show callvOf prog (.func (.func 70) [] [.ptr bq 0]) [AV.agg y.enc.cells] = some (.call 70 [y.enc, .ptr bq 0]) from rfl]
    refine wA_call hp ((prune1_ok c2 hm' y).mono fun o H' h => ?_)
    obtain ⟨rfl, hK2, hm2, hn2⟩ := h
    refine ⟨_, rfl, by simp only [k_nil], ?_⟩
    have hK3 : Keep H0.next H0 H' := hK.trans (hK2.le hn)
    rw [show (!decide (y.from_ ∈ ids) || !decide (y.to ∈ ids)) = badSp ids y from rfl]
    cases hbb : badSp ids y with
    | true =>
      have hyes : s.l.findIdx? (badSp ids) = some i := by
        rw [List.findIdx?_eq_some_iff_getElem]
        refine ⟨h1n, by rw [(List.getElem?_eq_some_iff.1 hy).2]; exact hbb, fun j hj => ?_⟩
        have := hbad j (s.l[j]'(by omega)) hj (List.getElem?_eq_getElem (by omega))
        simp [this]
      simp -implicitDefEqProofs (maxDischargeDepth := 12) only [WW,List.replicate,e_splice,if_true,if_false,ite_true,ite_false,true_or,ne_eq,Nat.reduceAdd,Nat.reduceSub,Nat.reduceMul,Nat.reduceLeDiff,Nat.reduceEqDiff,Nat.reduceGT,Nat.reduceLT,Int.reduceLE,Int.reduceLT,Int.reduceToNat,Int.reduceAdd,reduceCtorEq,h_putc,beq_self_eq_true,eq_self,exists_eq_left,exists_eq_left', e2]
      exact ⟨by rw [hyes]; rfl, hK3, hm2, by omega⟩
    | false =>
      simp -implicitDefEqProofs (maxDischargeDepth := 12) only [WW,List.replicate,e_splice,if_true,if_false,ite_true,ite_false,true_or,ne_eq,Nat.reduceAdd,Nat.reduceSub,Nat.reduceMul,Nat.reduceLeDiff,Nat.reduceEqDiff,Nat.reduceGT,Nat.reduceLT,Int.reduceLE,Int.reduceLT,Int.reduceToNat,Int.reduceAdd,reduceCtorEq,h_putc,beq_self_eq_true,eq_self,exists_eq_left,exists_eq_left', e2]
      refine ⟨k - 1, by omega, i + 1, by omega, hK3, hm2, by omega, fun j z hj hz => ?_, ex_x rfl⟩
      by_cases hji : j = i
      · subst hji; rw [hy] at hz; cases hz; exact hbb
      · exact hbad j z (by omega) hz
  · simp -implicitDefEqProofs (maxDischargeDepth := 12) only [WW,List.replicate,e_splice,if_true,if_false,ite_true,ite_false,true_or,ne_eq,Nat.reduceAdd,Nat.reduceSub,Nat.reduceMul,Nat.reduceLeDiff,Nat.reduceEqDiff,Nat.reduceGT,Nat.reduceLT,Int.reduceLE,Int.reduceLT,Int.reduceToNat,Int.reduceAdd,reduceCtorEq,h_putc,beq_self_eq_true,eq_self,exists_eq_left,exists_eq_left', h1]
    have hno : s.l.findIdx? (badSp ids) = none := by
      rw [List.findIdx?_eq_none_iff]
      intro z hz
      obtain ⟨j, hj⟩ := List.getElem?_of_mem hz
      have := (List.getElem?_eq_some_iff.1 hj).1
      exact hbad j z (by omega) hj
    exact ⟨by rw [hno]; rfl, hK, hm', hn⟩
end Go.Hem
/- Walks: DeleteFunc over the spanners of a copy. -/
set_option maxRecDepth 10000
set_option maxHeartbeats 4000000
set_option linter.unusedSimpArgs false
set_option linter.unusedVariables false
namespace Go.Hem
variable {pol : Pol}
theorem own_cap {d b off len cap n : Nat} {H : AHeap} {u : AV} {fp : List Nat} (h : OwnX false (d + 1) H (.slice b off len cap n) u fp) : len ≤ cap := by
  simp only [OwnX] at h
  rcases h with ⟨h, _⟩ | ⟨_, _, _, _, h, _⟩
  · omega
  · exact h.2
theorem splice_off {cs ys : List AV} {off p : Nat} (h : off + p + ys.length ≤ cs.length) : (splice cs (off + p) ys).drop off = splice (cs.drop off) p ys := by
  unfold splice
  rw [List.append_assoc, List.drop_append_of_le_length (by simp; omega), List.append_assoc, List.drop_drop, List.drop_take, Nat.add_sub_cancel_left, Nat.add_assoc]
/-- What DeleteFunc leaves. -/
def DelPost (H0 : AHeap) (m d : Nat) (s : Sl Spanner) (ids : List ID) (fp : List Nat) (v : AV) (H' : AHeap) : Prop :=
  ∃ fp', OwnX false (d + 2) H' v (slm Spanner.enc (s.map fun l => l.filter fun x => !badSp ids x)) fp' ∧ (∀ c ∈ fp', c ∈ fp) ∧ (∀ c, c ∉ fp → c < H0.next → H'.cells c = H0.cells c) ∧ H'.map m = some (idsOf ids) ∧ H0.next ≤ H'.next
theorem del_fin {H0 H' : AHeap} {m d b off cap : Nat} {l : List Spanner} {ids : List ID} {fp : List Nat} {cs : List AV} (hb : H'.cells b = some cs) (hbf : b ∈ fp) (hl : off + (l.filter fun x => !badSp ids x).length * 7 ≤ cs.length) (hcap : (l.filter fun x => !badSp ids x).length ≤ cap)
    (ht : (cs.drop off).take ((l.filter fun x => !badSp ids x).length * 7) = (l.filter fun x => !badSp ids x).flatMap fun x => x.enc.cells) (hk : ∀ c, c ∉ fp → c < H0.next → H'.cells c = H0.cells c) (hm : H'.map m = some (idsOf ids)) (hn : H0.next ≤ H'.next) :
    DelPost H0 m d (some l) ids fp (.slice b off (l.filter fun x => !badSp ids x).length cap 7) H' := by
  by_cases h0 : (l.filter fun x => !badSp ids x).length = 0
  · refine ⟨[], ?_, fun c hc => by simp at hc, hk, hm, hn⟩
    unfold OwnX
    refine .inl ⟨h0, ?_, rfl⟩
    rw [List.length_eq_zero_iff] at h0
    simp only [Option.map_some, h0, slm, List.map_nil]
  · refine ⟨[b], ?_, fun c hc => by simp only [List.mem_singleton] at hc; subst hc; exact hbf, hk, hm, hn⟩
    simp only [OwnX]
    refine .inr ⟨cs, (l.filter fun x => !badSp ids x).flatMap fun x => x.enc.cells, [], hb, ⟨by decide, hcap⟩, h0, hl, ?_, by simp, fun h => by omega, ?_, rfl⟩
    · rw [ht]
      refine OwnL.scal ?_
      rw [List.all_eq_true]
      intro u hu
      obtain ⟨x, _, hx⟩ := List.mem_flatMap.1 hu
      obtain ⟨y, rfl⟩ := sp_scs x u hx
      rfl
    · rw [Option.map_some]
      show slm Spanner.enc (some _) = _
      rw [rows_map row_Spanner]; rfl
theorem delete_own (hp : pol.pure 70 = false) (hp2 : pol.pure 114 = false) {H0 : AHeap} {bq m d : Nat} {v : AV} {s : Sl Spanner} {fp : List Nat} {ids : List ID} (hv : OwnX false (d + 2) H0 v (slm Spanner.enc s) fp) (hq : H0.cells bq = some [.map m]) (hqb : bq ∉ fp) (hm : H0.map m = some (idsOf ids)) (hl : s.l.length < 1000000) :
    Ev prog pol (.call 69 [v, .func (.func 70) [] [.ptr bq 0]]) H0 fun o H' => ∃ v', o = .val v' ∧ DelPost H0 m d s ids fp v' H' := by
  refine wpF_ok ok69 (Q := DelPost H0 m d s ids fp) ?_
  have b2 := h_lt hq
  simp -implicitDefEqProofs (maxDischargeDepth := 12) only [wpF, cf69, WW,List.replicate,e_splice,if_true,if_false,ite_true,ite_false,true_or,ne_eq,Nat.reduceAdd,Nat.reduceSub,Nat.reduceMul,Nat.reduceLeDiff,Nat.reduceEqDiff,Nat.reduceGT,Nat.reduceLT,Int.reduceLE,Int.reduceLT,Int.reduceToNat,Int.reduceAdd,reduceCtorEq,h_putc,beq_self_eq_true,eq_self,exists_eq_left,exists_eq_left']
  refine wA_call hp2 ((index_own hp hv hq hm hl).mono fun o H1 h => ?_)
  obtain ⟨rfl, hK, hm1, hn1⟩ := h
  refine ⟨_, rfl, by simp only [k_nil], ?_⟩
  have c2 := hK.cells hq b2
  cases hx : s.l.findIdx? (badSp ids) with
  | none =>
    rw [List.findIdx?_eq_none_iff] at hx
    have hr : s.map (fun l => l.filter (fun x => !badSp ids x)) = s := by
      cases s with
      | none => rfl
      | some l =>
        rw [Option.map_some, List.filter_eq_self.2 fun x h => by simp [hx x h]]
    simp -implicitDefEqProofs (maxDischargeDepth := 12) only [idxAV, WW,List.replicate,e_splice,if_true,if_false,ite_true,ite_false,true_or,ne_eq,Nat.reduceAdd,Nat.reduceSub,Nat.reduceMul,Nat.reduceLeDiff,Nat.reduceEqDiff,Nat.reduceGT,Nat.reduceLT,Int.reduceLE,Int.reduceLT,Int.reduceToNat,Int.reduceAdd,reduceCtorEq,h_putc,beq_self_eq_true,eq_self,exists_eq_left,exists_eq_left']
    exact ⟨fp, by rw [hr]; exact hv.keep hK, fun _ h => h, fun c _ h => hK c h, hm1, hn1⟩
  | some i0 =>
    rw [List.findIdx?_eq_some_iff_getElem] at hx
    obtain ⟨hi0, hx1, hx2⟩ := hx
    obtain ⟨y0, hy0⟩ : ∃ y, s.l[i0]? = some y := ⟨_, List.getElem?_eq_getElem (by omega)⟩
    have hs : s = some s.l := by cases s with
      | none => simp [Sl.l] at hi0
      | some l => rfl
    generalize hll : s.l = l at *
    subst hs
    obtain ⟨b, off, cap, cs, rfl, hb, hle, hbf, -⟩ := own_sp hv hy0
    simp only [l_some] at *
    have hcap := own_cap hv
    have he : ∀ (i : Nat) x, l[i]? = some x → (cs.drop (off + i * 7)).take 7 = x.enc.cells := fun i x hx => by
      obtain ⟨b', off', cap', cs', e, e1, e2, e3, e4⟩ := own_sp hv (x := x) (i := i) hx
      simp only [l_some, AV.slice.injEq, true_and, and_true] at e
      obtain ⟨rfl, rfl, rfl⟩ := e
      rw [hb] at e1; cases e1
      exact e4
    have hpre : ∀ i, i ≤ l.length → (cs.drop off).take (i * 7) = (l.take i).flatMap fun x => x.enc.cells := by
      intro i
      induction i with
      | zero => intro _; simp
      | succ i ih =>
        intro hi
        obtain ⟨y, hy⟩ : ∃ y, l[i]? = some y := ⟨_, List.getElem?_eq_getElem (by omega)⟩
        rw [List.take_add_one, hy, List.flatMap_append, ← ih (by omega), Nat.succ_mul, List.take_add, List.drop_drop, he i y hy]
        simp
    have b1 := h_lt hb
    have c1 := hK.cells hb b1
    have hqb' : bq ≠ b := fun e => hqb (e ▸ hbf)
    have e0 : ¬ ((i0 : Int) = -1) := by omega
    have e1 : IntKind.i64.wrap ((i0 : Int) + 1) = ((i0 + 1 : Nat) : Int) := by rw [w64 (by omega) (by omega)]; omega
    simp -implicitDefEqProofs (maxDischargeDepth := 12) only [idxAV, WW,List.replicate,e_splice,if_true,if_false,ite_true,ite_false,true_or,ne_eq,Nat.reduceAdd,Nat.reduceSub,Nat.reduceMul,Nat.reduceLeDiff,Nat.reduceEqDiff,Nat.reduceGT,Nat.reduceLT,Int.reduceLE,Int.reduceLT,Int.reduceToNat,Int.reduceAdd,reduceCtorEq,h_putc,beq_self_eq_true,eq_self,exists_eq_left,exists_eq_left', e0, e1]
    have hf0 : (l.take (i0 + 1)).filter (fun x => !badSp ids x) = l.take i0 := by
      rw [List.take_add_one, List.getElem?_eq_getElem hi0, List.filter_append, List.filter_eq_self.2 (fun x h => ?_)]
      · simp [hx1]
      · obtain ⟨j, hj⟩ := List.getElem?_of_mem h
        rw [List.getElem?_take] at hj
        split at hj
        · rename_i hji
          have := hx2 j hji
          rw [(List.getElem?_eq_some_iff.1 hj).2] at this
          simpa using this
        · cases hj
    refine wp_loop (Inv := fun k t H => ∃ (i j : Nat) (cs' : List AV), j + k = l.length ∧ i < j ∧ i = ((l.take j).filter (fun x => !badSp ids x)).length ∧ H.cells b = some cs' ∧ cs'.length = cs.length ∧ (cs'.drop off).take (i * 7) = (((l.take j).filter (fun x => !badSp ids x)).flatMap fun x => x.enc.cells) ∧ (∀ q, off + j * 7 ≤ q → cs'.drop q = cs.drop q) ∧ (∀ c, c ≠ b → c < H0.next → H.cells c = H0.cells c) ∧ H.map m = some (idsOf ids) ∧ H0.next ≤ H.next ∧
      ∃ x : Nat → AV, t = [.slice b off l.length cap 7, .func (.func 70) [] [.ptr bq 0], x 2, x 3, x 4, .sc (.int .i64 i), .sc (.int .i64 j), x 7, x 8, x 9, x 10, x 11, x 12, x 13, x 14, x 15, x 16, x 17, x 18, x 19, x 20, x 21, x 22, x 23, x 24, x 25, x 26, x 27, x 28, x 29, x 30, x 31, x 32, x 33, x 34, x 35, x 36, x 37, x 38, x 39, x 40, x 41]) (k := l.length - (i0 + 1)) ?_
      ⟨i0, i0 + 1, cs, by omega, by omega, by rw [hf0, List.length_take]; omega, c1, rfl, by rw [hf0]; exact hpre _ (by omega), fun _ _ => rfl, fun c _ h => hK c h, hm1, hn1, ex_x rfl⟩
    clear hf0 hx2 hx1 e0 e1 hm1 hn1 c1 c2
    rintro k t H ⟨i, j, cs', hk, hij, hi, hb', hlen', htk, hdr, hkeep, hm', hn', x, rfl⟩
    have c2 : H.cells bq = some [.map m] := (hkeep bq hqb' b2).trans hq
    by_cases h1 : (j : Int) < (l.length : Int)
    · obtain ⟨y, hy⟩ : ∃ y, l[j]? = some y := ⟨_, List.getElem?_eq_getElem (by omega)⟩
      have h1n : j < l.length := by omega
      have e2 : IntKind.i64.wrap ((j : Int) + 1) = ((j + 1 : Nat) : Int) := by rw [w64 (by omega) (by omega)]; omega
      have e3 : IntKind.i64.wrap ((i : Int) + 1) = ((i + 1 : Nat) : Int) := by rw [w64 (by omega) (by omega)]; omega
      have he3 : off + j * 7 + 7 ≤ cs'.length := by rw [hlen']; omega
      have he4 : (cs'.drop (off + j * 7)).take 7 = y.enc.cells := by rw [hdr _ (Nat.le_refl _)]; exact he j y hy
      have o1 : y.enc.cells.length = 7 := Spanner.enc_len y
      have o2 : AV.ones y.enc.cells = true := rfl
      have o4 : List.take 7 y.enc.cells = y.enc.cells := rfl
      have nb : ¬ (b = H.next) := by have := h_lt hb'; omega
      have ml : m < H.next := by
        refine Nat.lt_of_not_le fun h => ?_
        have : H.get m = none := AHeap.get_ge h
        simp [AHeap.map, this] at hm'
      simp -implicitDefEqProofs (maxDischargeDepth := 12) only [WW,List.replicate,e_splice,if_true,if_false,ite_true,ite_false,true_or,ne_eq,Nat.reduceAdd,Nat.reduceSub,Nat.reduceMul,Nat.reduceLeDiff,Nat.reduceEqDiff,Nat.reduceGT,Nat.reduceLT,Int.reduceLE,Int.reduceLT,Int.reduceToNat,Int.reduceAdd,reduceCtorEq,h_putc,beq_self_eq_true,eq_self,exists_eq_left,exists_eq_left', h1, h1n, hb', he3, he4, o1, o2, o4]
      rw [show callvOf prog (.func (.func 70) [] [.ptr bq 0]) [AV.agg y.enc.cells] = some (.call 70 [y.enc, .ptr bq 0]) from rfl]
      generalize hH2 : AHeap.put _ _ _ = H2
      have ek : ∀ c, c < H.next → H2.get c = H.get c := fun c hc => by
        rw [← hH2, AHeap.get_put_ne _ _ (show c ≠ H.next by omega), AHeap.get_alloc_ne _ _ (show c ≠ H.next by omega)]
      have en : H.next < H2.next := by rw [← hH2, AHeap.next_put, AHeap.next_alloc]; omega
      have es : H2.cells H.next = some y.enc.cells := by
        rw [← hH2]
        refine h_put_self (y := List.replicate 7 (.sc (.int .i64 0))) ?_
        simp -implicitDefEqProofs (maxDischargeDepth := 12) only [WW,List.replicate,e_splice,if_true,if_false,ite_true,ite_false,true_or,ne_eq,Nat.reduceAdd,Nat.reduceSub,Nat.reduceMul,Nat.reduceLeDiff,Nat.reduceEqDiff,Nat.reduceGT,Nat.reduceLT,Int.reduceLE,Int.reduceLT,Int.reduceToNat,Int.reduceAdd,reduceCtorEq,h_putc,beq_self_eq_true,eq_self,exists_eq_left,exists_eq_left', List.replicate]
      have d1 : H2.cells bq = some [.map m] := by rw [cells_of_get (ek _ (h_lt c2))]; exact c2
      have d2 : H2.cells b = some cs' := by rw [cells_of_get (ek _ (h_lt hb'))]; exact hb'
      have d3 : H2.map m = some (idsOf ids) := by rw [AHeap.map, ek _ ml]; exact hm'
      refine wA_call hp ((prune1_ok d1 d3 y).mono fun o H3 h => ?_)
      obtain ⟨rfl, hK2, hm3, hn3⟩ := h
      refine ⟨_, rfl, by simp only [k_nil], ?_⟩
      have g1 := hK2.cells d2 (h_lt d2)
      have g2 := hK2.cells es en
      have g3 : ∀ c, c ≠ b → c < H0.next → H3.cells c = H0.cells c := fun c hc hc2 => by
        rw [hK2 c (by omega), cells_of_get (ek c (by omega)), hkeep c hc hc2]
      rw [show (!decide (y.from_ ∈ ids) || !decide (y.to ∈ ids)) = badSp ids y from rfl]
      have hf1 : (l.take (j + 1)).filter (fun x => !badSp ids x) = (l.take j).filter (fun x => !badSp ids x) ++ (if badSp ids y then [] else [y]) := by
        rw [List.take_add_one, hy, List.filter_append]
        cases h : badSp ids y <;> simp [h]
      cases hbb : badSp ids y with
      | true =>
        rw [hbb, if_pos rfl, List.append_nil] at hf1
        simp -implicitDefEqProofs (maxDischargeDepth := 12) only [WW,List.replicate,e_splice,if_true,if_false,ite_true,ite_false,true_or,ne_eq,Nat.reduceAdd,Nat.reduceSub,Nat.reduceMul,Nat.reduceLeDiff,Nat.reduceEqDiff,Nat.reduceGT,Nat.reduceLT,Int.reduceLE,Int.reduceLT,Int.reduceToNat,Int.reduceAdd,reduceCtorEq,h_putc,beq_self_eq_true,eq_self,exists_eq_left,exists_eq_left', e2]
        exact ⟨k - 1, by omega, i, j + 1, cs', by omega, by omega, by rw [hf1]; exact hi, g1, hlen', by rw [hf1]; exact htk, fun q hq => hdr q (by omega), g3, hm3, by omega, ex_x rfl⟩
      | false =>
        rw [hbb, if_neg Bool.false_ne_true] at hf1
        have hin : i < l.length := by omega
        have hib : off + i * 7 + 7 ≤ cs'.length := by rw [hlen']; omega
        have q1 := splice_len2 (cs := cs') (ys := y.enc.cells) (o := off + i * 7) (by rw [o1]; exact hib)
        have q2 : ((splice cs' (off + i * 7) y.enc.cells).drop off).take (i * 7 + 7) = (cs'.drop off).take (i * 7) ++ y.enc.cells := by
          rw [splice_off (by rw [o1]; exact hib)]
          have := splice_take (cs := cs'.drop off) (ys := y.enc.cells) (o := i * 7) (by rw [o1, List.length_drop]; omega)
          rwa [o1] at this
        have q3 : ∀ q, off + (j + 1) * 7 ≤ q → (splice cs' (off + i * 7) y.enc.cells).drop q = cs.drop q := fun q hq => by
          rw [splice_drop (by rw [o1]; exact hib) (by rw [o1]; omega), hdr q (by omega)]
        simp -implicitDefEqProofs (maxDischargeDepth := 12) only [WW,List.replicate,if_true,if_false,ite_true,ite_false,true_or,ne_eq,Nat.reduceAdd,Nat.reduceSub,Nat.reduceMul,Nat.reduceLeDiff,Nat.reduceEqDiff,Nat.reduceGT,Nat.reduceLT,Int.reduceLE,Int.reduceLT,Int.reduceToNat,Int.reduceAdd,reduceCtorEq,beq_self_eq_true,eq_self,exists_eq_left,exists_eq_left', e2, e3, g1, g2, o1, o2, o4, hin, hib]
        have mb : m ≠ b := fun h => by
          subst h
          have a := hm3
          have c := g1
          unfold AHeap.map at a
          unfold AHeap.cells at c
          cases hg : H3.get m with
          | none => simp [hg] at a
          | some v => cases v <;> simp [hg] at a c
        refine ⟨k - 1, by omega, i + 1, j + 1, _, by omega, by omega, ?_, h_put_self g1, q1.trans hlen', ?_, q3, fun c hc h2 => by rw [h_put_ne hc]; exact g3 c hc h2, ?_, by omega, ex_x rfl⟩
        · rw [hf1, List.length_append]; simp only [List.length_cons, List.length_nil]; omega
        · rw [hf1, List.flatMap_append, ← htk, show (i + 1) * 7 = i * 7 + 7 by omega, q2]; simp
        · rw [AHeap.map, AHeap.get_put_ne _ _ mb]; exact hm3
    · have hj : j = l.length := by omega
      subst hj
      rw [List.take_length] at hi htk
      have hil : i ≤ l.length := by omega
      have h0 : ¬ (l.length - i = 0) := by omega
      have h2 : ¬ (i = cap) := by omega
      have h3 : ¬ (0 = cap) := by omega
      have h4 : i ≤ cap := by omega
      have hz2 : off + i * 7 + (l.length - i) * 7 ≤ cs'.length := by rw [hlen']; omega
      have hr : ∀ z : List AV, z.length = 7 → off + i * 7 + (rep (l.length - i) z).length ≤ cs'.length := fun z hz => by rw [rep_len, hz]; exact hz2
      have mb : m ≠ b := fun h => by
        subst h
        have a := hm'
        have c := hb'
        unfold AHeap.map at a
        unfold AHeap.cells at c
        cases hg : H.get m with
        | none => simp [hg] at a
        | some v => cases v <;> simp [hg] at a c
      simp -implicitDefEqProofs (maxDischargeDepth := 12) only [WW,List.replicate,if_true,if_false,ite_true,ite_false,true_or,ne_eq,Nat.reduceAdd,Nat.reduceSub,Nat.reduceMul,Nat.reduceLeDiff,Nat.reduceEqDiff,Nat.reduceGT,Nat.reduceLT,Int.reduceLE,Int.reduceLT,Int.reduceToNat,Int.reduceAdd,reduceCtorEq,beq_self_eq_true,eq_self,exists_eq_left,exists_eq_left', s_clr, clrTo, h1, hil, h0, hb', hz2, hcap, h2, h3, h4]
      have hx' : ∀ z : List AV, z.length = 7 → DelPost H0 m d (some l) ids fp (.slice b off i cap 7) (H.put b (some (.cells (splice cs' (off + i * 7) (rep (l.length - i) z))))) := fun z hz => by
        rw [hi]
        rw [← hi]
        have := del_fin (H0 := H0) (H' := H.put b (some (.cells (splice cs' (off + i * 7) (rep (l.length - i) z))))) (m := m) (d := d) (b := b) (off := off) (cap := cap) (l := l) (ids := ids) (fp := fp) (h_put_self hb') hbf (by rw [← hi, splice_len2 (hr _ hz)]; omega) (by rw [← hi]; exact h4)
          (by rw [← hi, splice_off (hr _ hz), splice_take0 (by rw [rep_len, hz, List.length_drop]; omega) (Nat.le_refl _)]; exact htk)
          (fun c hc h2 => by
            have hcb : c ≠ b := fun e => hc (e.symm ▸ hbf)
            rw [h_put_ne hcb]; exact hkeep c hcb h2) (by rw [AHeap.map, AHeap.get_put_ne _ _ mb]; exact hm') (by rw [AHeap.next_put]; exact hn')
        rw [← hi] at this
        exact this
      exact hx' _ rfl
end Go.Hem
/- What a copy lists; the ids of events. -/
set_option linter.unusedSimpArgs false
set_option linter.unusedVariables false
namespace Go.Hem
theorem objVoices_cl (m c : Nat) : ∀ (l : List Voice) (v : Nat), objVoices m c v (l.map Voice.cl) = objVoices m c v l
  | [], _ => rfl
  | x :: l, v => by
    have e : x.cl.events.l = x.events.l := l_of
    simp only [List.map_cons, objVoices, objVoices_cl m c l, e]
theorem objCells_cl (m : Nat) : ∀ (l : List Cell) (c : Nat), objCells m c (l.map Cell.cl) = objCells m c l
  | [], _ => rfl
  | x :: l, c => by
    have e : x.cl.voices.l = x.voices.l.map Voice.cl := l_of
    simp only [List.map_cons, objCells, objCells_cl m l, e, objVoices_cl]
theorem objMeasures_cl : ∀ (l : List Measure) (m : Nat), objMeasures m (l.map Measure.cl) = objMeasures m l
  | [], _ => rfl
  | x :: l, m => by
    have e : x.cl.cells.l = x.cells.l.map Cell.cl := l_of
    have e2 : oMeasure m x.cl = oMeasure m x := rfl
    simp only [List.map_cons, objMeasures, objMeasures_cl l, e, e2, objCells_cl]
theorem objs_cl (s : Score) : objs s.cl = objs s := by
  have e : s.cl.measures.l = s.measures.l.map Measure.cl := rfl
  have e2 : s.cl.parts.l = s.parts.l := rfl
  have e3 : s.cl.spanners = s.spanners := rfl
  unfold objs
  rw [e, e2, e3, objMeasures_cl]
theorem map_at {α β : Type} {f : α → β} {l : List α} {i : Nat} {y : β} (h : (l.map f)[i]? = some y) : ∃ x, l[i]? = some x ∧ y = f x := by
  rw [List.getElem?_map] at h
  cases hx : l[i]? with
  | none => rw [hx] at h; cases h
  | some x => rw [hx] at h; cases h; exact ⟨x, rfl, rfl⟩
theorem Tame_cl {s : Score} (h : Tame s) : Tame s.cl := by
  have e : s.cl.measures.l = s.measures.l.map Measure.cl := rfl
  have ec : ∀ y : Measure, y.cl.cells.l = y.cells.l.map Cell.cl := fun y => l_of
  have ev : ∀ y : Cell, y.cl.voices.l = y.voices.l.map Voice.cl := fun y => l_of
  have ee : ∀ y : Voice, y.cl.events.l = y.events.l := fun y => l_of
  refine ⟨by rw [objs_cl]; exact h.objs, h.staves, h.parts, by rw [e, List.length_map]; exact h.measures, h.spanners, fun m y hy => ?_, fun m y c q hy hq => ?_, fun m y c q v z hy hq hz => ?_⟩
  · rw [e] at hy
    obtain ⟨y0, h0, rfl⟩ := map_at hy
    rw [ec, List.length_map]; exact h.cells _ _ h0
  · rw [e] at hy
    obtain ⟨y0, h0, rfl⟩ := map_at hy
    rw [ec] at hq
    obtain ⟨q0, h1, rfl⟩ := map_at hq
    rw [ev, List.length_map]; exact h.voices _ _ _ _ h0 h1
  · rw [e] at hy
    obtain ⟨y0, h0, rfl⟩ := map_at hy
    rw [ec] at hq
    obtain ⟨q0, h1, rfl⟩ := map_at hq
    rw [ev] at hz
    obtain ⟨z0, h2, rfl⟩ := map_at hz
    rw [ee]; exact h.events _ _ _ _ _ _ h0 h1 h2

/-- The id of the event at a place. -/
def Score.evId (a : Score) : Pos → Option ID
  | .event m c v e => ((((a.measures.l[m]?).bind fun y => y.cells.l[c]?).bind fun q => q.voices.l[v]?).bind fun z => z.events.l[e]?).map (·.id)
  | _ => none
def evO (o : O) : Option ID := if o.place.kind = 4 then some o.id else none
theorem isEv_iff {l : List O} {id : ID} : isEv l id = true ↔ id ∈ l.filterMap evO := by
  simp only [isEv, List.any_eq_true, List.mem_filterMap, Bool.and_eq_true, decide_eq_true_eq, evO]
  constructor
  · rintro ⟨o, h1, h2, h3⟩; exact ⟨o, h1, by rw [if_pos h2, h3]⟩
  · rintro ⟨o, h1, h2⟩
    split at h2
    · rename_i h; cases h2; exact ⟨o, h1, h, rfl⟩
    · cases h2
section
variable (a : Score)
theorem ev_staves (i : Nat) : ∀ (l : List Staff) (k st : Nat), (posStaves i k st l).filterMap a.evId = [] ∧ (objStaves st l).filterMap evO = []
  | [], _, _ => ⟨rfl, rfl⟩
  | x :: l, k, st => by
    obtain ⟨h1, h2⟩ := ev_staves i l (k + 1) (st + 1)
    constructor
    · rw [posStaves, List.filterMap_cons, h1]; rfl
    · rw [objStaves, List.filterMap_cons, h2]; rfl
theorem ev_parts : ∀ (l : List Part) (i st : Nat), (posParts i st l).filterMap a.evId = [] ∧ (objParts i st l).filterMap evO = []
  | [], _, _ => ⟨rfl, rfl⟩
  | x :: l, i, st => by
    obtain ⟨h1, h2⟩ := ev_parts l (i + 1) (st + x.staves.l.length)
    constructor
    · rw [posParts, List.filterMap_cons, List.filterMap_append, h1, (ev_staves a i _ _ _).1]; rfl
    · rw [objParts, List.filterMap_cons, List.filterMap_append, h2, (ev_staves a i x.staves.l 0 st).2]; rfl
theorem ev_spanners : ∀ (l : List Spanner) (i : Nat), (posSpanners i l).filterMap a.evId = [] ∧ (objSpanners i l).filterMap evO = []
  | [], _ => ⟨rfl, rfl⟩
  | x :: l, i => by
    obtain ⟨h1, h2⟩ := ev_spanners l (i + 1)
    constructor
    · rw [posSpanners, List.filterMap_cons, h1]; rfl
    · rw [objSpanners, List.filterMap_cons, h2]; rfl
theorem ev_events (m c v : Nat) : ∀ (r : List Event) (e : Nat), (∀ (i : Nat) x, r[i]? = some x → a.evId (.event m c v (e + i)) = some x.id) → (posEvents m c v e r).filterMap a.evId = (objEvents m c v e r).filterMap evO
  | [], _, _ => rfl
  | x :: r, e, h => by
    have ih := ev_events m c v r (e + 1) fun i y hy => by rw [Nat.add_right_comm, Nat.add_assoc]; exact h (i + 1) y (by simpa using hy)
    have h0 := h 0 x rfl
    rw [Nat.add_zero] at h0
    rw [posEvents, objEvents, List.filterMap_cons, List.filterMap_cons, h0, ih]; rfl
theorem ev_voices (m c : Nat) : ∀ (r : List Voice) (v : Nat), (∀ (i : Nat) x, r[i]? = some x → ∀ (j : Nat) w, x.events.l[j]? = some w → a.evId (.event m c (v + i) j) = some w.id) → (posVoices m c v r).filterMap a.evId = (objVoices m c v r).filterMap evO
  | [], _, _ => rfl
  | x :: r, v, h => by
    have ih := ev_voices m c r (v + 1) fun i y hy => by rw [Nat.add_right_comm, Nat.add_assoc]; exact h (i + 1) y (by simpa using hy)
    have h0 := ev_events a m c v x.events.l 0 fun j w hw => by rw [Nat.zero_add]; exact h 0 x rfl j w hw
    rw [posVoices, objVoices, List.filterMap_append, List.filterMap_append, h0, ih]
theorem ev_cells (m : Nat) : ∀ (r : List Cell) (c : Nat), (∀ (k : Nat) y, r[k]? = some y → ∀ (i : Nat) x, y.voices.l[i]? = some x → ∀ (j : Nat) w, x.events.l[j]? = some w → a.evId (.event m (c + k) i j) = some w.id) → (posCells m c r).filterMap a.evId = (objCells m c r).filterMap evO
  | [], _, _ => rfl
  | x :: r, c, h => by
    have ih := ev_cells m r (c + 1) fun i y hy => by rw [Nat.add_right_comm, Nat.add_assoc]; exact h (i + 1) y (by simpa using hy)
    have h0 := ev_voices a m c x.voices.l 0 fun j w hw k z hz => by rw [Nat.zero_add]; exact h 0 x rfl j w hw k z hz
    rw [posCells, objCells, List.filterMap_append, List.filterMap_append, h0, ih]
theorem ev_measures : ∀ (r : List Measure) (m : Nat), (∀ (q : Nat) z, r[q]? = some z → ∀ (k : Nat) y, z.cells.l[k]? = some y → ∀ (i : Nat) x, y.voices.l[i]? = some x → ∀ (j : Nat) w, x.events.l[j]? = some w → a.evId (.event (m + q) k i j) = some w.id) → (posMeasures m r).filterMap a.evId = (objMeasures m r).filterMap evO
  | [], _, _ => rfl
  | x :: r, m, h => by
    have ih := ev_measures r (m + 1) fun i y hy => by rw [Nat.add_right_comm, Nat.add_assoc]; exact h (i + 1) y (by simpa using hy)
    have h0 := ev_cells a m x.cells.l 0 fun j w hw k z hz k2 z2 hz2 => by rw [Nat.zero_add]; exact h 0 x rfl j w hw k z hz k2 z2 hz2
    rw [posMeasures, objMeasures, List.filterMap_cons, List.filterMap_cons, List.filterMap_append, List.filterMap_append, h0, ih]; rfl
theorem ev_poss : (poss a).filterMap a.evId = (objs a).filterMap evO := by
  unfold poss objs
  simp only [List.filterMap_append, (ev_parts a _ _ _).1, (ev_parts a _ _ _).2, (ev_spanners a _ _).1, (ev_spanners a _ _).2]
  congr 2
  refine ev_measures a _ _ fun q z hz k y hy i x hx j w hw => ?_
  simp only [Nat.zero_add, Score.evId, hz, hy, hx, hw, Option.bind_some, Option.map_some]
end
theorem idAt_event {a : Score} {m c v e : Nat} {id : ID} {g : ID → Score} (h : IdAt a (.event m c v e) id g) : a.evId (.event m c v e) = some id := by
  cases h with
  | event h1 h2 h3 h4 => simp only [Score.evId, h1, h2, h3, h4, Option.bind_some, Option.map_some]
/-- What Prune returns. -/
def Score.pr (s : Score) : Score := { s.cl with spanners := s.spanners.map fun l => l.filter fun x => isEv (objs s) x.from_ && isEv (objs s) x.to }
theorem Score.pr_cn (s : Score) : s.pr.cn = s.pruned.cn := by
  have h := s.cl_cn
  have e1 : s.pr.spanners.l = s.spanners.l.filter fun x => isEv (objs s) x.from_ && isEv (objs s) x.to := by
    show Sl.l (s.spanners.map _) = _
    cases s.spanners <;> rfl
  have e2 : s.pruned.spanners.l = s.spanners.l.filter fun x => isEv (objs s) x.from_ && isEv (objs s) x.to := l_of
  unfold Score.cn at h ⊢
  rw [e1, e2]
  simp only [Score.mk.injEq] at h
  obtain ⟨h1, h2, h3, h4, h5, h6⟩ := h
  show Score.mk _ _ _ _ _ _ = Score.mk _ _ _ _ _ _
  rw [Score.mk.injEq]
  exact ⟨h1, h2, h3, h4, rfl, h6⟩
end Go.Hem
/- Walks: what visit yields. -/
set_option maxRecDepth 10000
set_option maxHeartbeats 4000000
set_option linter.unusedSimpArgs false
set_option linter.unusedVariables false
namespace Go.Hem
variable {pol : Pol}
end Go.Hem
/- Walks: score.IDs. -/
set_option maxRecDepth 10000
set_option maxHeartbeats 4000000
set_option linter.unusedSimpArgs false
set_option linter.unusedVariables false
namespace Go.Hem
variable {pol : Pol}
theorem callee110 (args : List AV) : acallee prog 110 args = some (.call 110 args) := by kernel_rfl
theorem visit0_ok (H : AHeap) (v : AV) (hv : v.one = true) (hc : v.cells = [v]) {Q : Out → AHeap → Prop} (h : Q (.val (.func (.func 110) [] [.ptr H.next 0])) (H.alloc (.cells [v]))) : Ev prog pol (.call 63 [v]) H Q := by
  refine (wpF_ok ok63 (Q := fun u H' => u = .func (.func 110) [] [.ptr H.next 0] ∧ H' = H.alloc (.cells [v])) ?_).mono ?_
  · simp -implicitDefEqProofs (maxDischargeDepth := 12) only [wpF, cf63, WW,List.replicate,e_splice,if_true,if_false,ite_true,ite_false,true_or,ne_eq,Nat.reduceAdd,Nat.reduceSub,Nat.reduceMul,Nat.reduceLeDiff,Nat.reduceEqDiff,Nat.reduceGT,Nat.reduceLT,Int.reduceLE,Int.reduceLT,Int.reduceToNat,Int.reduceAdd,reduceCtorEq,h_putc,beq_self_eq_true,eq_self,exists_eq_left,exists_eq_left', hv, hc]
  · rintro o H' ⟨u, rfl, rfl, rfl⟩; exact h
end Go.Hem
/- Walks: score.Prune. -/
set_option maxRecDepth 10000
set_option maxHeartbeats 4000000
set_option linter.unusedSimpArgs false
set_option linter.unusedVariables false
namespace Go.Hem
variable {pol : Pol}
theorem o_map {b : Nat} : AV.one (.map b) = true := rfl
theorem c_map {b : Nat} : AV.cells (.map b) = [.map b] := rfl
theorem splice_full {z cs : List AV} (h : z.length = cs.length) : splice z 0 cs = cs := by
  unfold splice
  rw [List.take_zero, List.nil_append, List.drop_of_length_le (by omega), List.append_nil]
theorem map_of_get {H H' : AHeap} {b : Nat} (h : H'.get b = H.get b) : H'.map b = H.map b := by unfold AHeap.map; rw [h]
theorem get_of_map {H : AHeap} {b : Nat} {l : List (AV × AV)} (h : H.map b = some l) : H.get b = some (.map l) := by
  unfold AHeap.map at h
  split at h
  · rename_i q; cases h; exact q
  · cases h
theorem get_two {cs : List AV} {off : Nat} {x y : AV} (h1 : cs[off]? = some x) (h2 : cs[off + 1]? = some y) : (cs.drop off).take 2 = [x, y] := by
  obtain ⟨l1, e1⟩ := List.getElem?_eq_some_iff.1 h1
  obtain ⟨l2, e2⟩ := List.getElem?_eq_some_iff.1 h2
  rw [List.drop_eq_getElem_cons l1, List.take_succ_cons, List.drop_eq_getElem_cons l2, List.take_succ_cons, List.take_zero, e1, e2]
def PrPol (pol : Pol) : Prop := ClPol pol ∧ pol.pure 63 = false ∧ pol.pure 69 = false ∧ pol.pure 70 = false ∧ pol.pure 114 = false
theorem prune_pv (hp : PrPol pol) (s : Score) (hx : s.tame) (hT : Tame s) : Pv prog pol 29 [s.enc] (s.pr.enc) := by
  obtain ⟨hc, hp63, hp69, hp70, hp114⟩ := hp
  refine Pv_of' ok29 (by simp only [AV.closedBs, Score.enc_closed, Bool.and_self]) ?_
  simp -implicitDefEqProofs (maxDischargeDepth := 12) only [wpF, cf29, WW,List.replicate,e_splice,if_true,if_false,ite_true,ite_false,true_or,ne_eq,Nat.reduceAdd,Nat.reduceSub,Nat.reduceMul,Nat.reduceLeDiff,Nat.reduceEqDiff,Nat.reduceGT,Nat.reduceLT,Int.reduceLE,Int.reduceLT,Int.reduceToNat,Int.reduceAdd,reduceCtorEq,h_putc,beq_self_eq_true,eq_self,exists_eq_left,exists_eq_left', s.enc_eq]
  rw [← s.enc_eq]
  refine wA_call (hc _ (by decide)) ((sClone_ok hc s hx _).mono ?_)
  rintro o H1 ⟨cs, fp, rfl, ho, hl, hones, hF, hN, hK⟩
  refine ⟨_, rfl, by simp only [k_nil], ?_⟩
  simp -implicitDefEqProofs (maxDischargeDepth := 12) only [WW,List.replicate,e_splice,if_true,if_false,ite_true,ite_false,true_or,ne_eq,Nat.reduceAdd,Nat.reduceSub,Nat.reduceMul,Nat.reduceLeDiff,Nat.reduceEqDiff,Nat.reduceGT,Nat.reduceLT,Int.reduceLE,Int.reduceLT,Int.reduceToNat,Int.reduceAdd,reduceCtorEq,h_putc,beq_self_eq_true,eq_self,exists_eq_left,exists_eq_left'] at hF hN
  have g1 : H1.cells 1 = some [.sc (.str ⟨#[]⟩), .sc (.bool false), .sc .nils, .sc .nils, .sc .nils, .sc .nils] := (hK 1 (show 1 < 2 by decide)).trans (by simp -implicitDefEqProofs (maxDischargeDepth := 12) only [WW,List.replicate,e_splice,if_true,if_false,ite_true,ite_false,true_or,ne_eq,Nat.reduceAdd,Nat.reduceSub,Nat.reduceMul,Nat.reduceLeDiff,Nat.reduceEqDiff,Nat.reduceGT,Nat.reduceLT,Int.reduceLE,Int.reduceLT,Int.reduceToNat,Int.reduceAdd,reduceCtorEq,h_putc,beq_self_eq_true,eq_self,exists_eq_left,exists_eq_left'])
  generalize hq : H1.next = q
  have hq2 : 2 ≤ q := by rw [← hq]; exact hN
  have hlt := ho.lts
  have hsp : splice [.sc (.str ⟨#[]⟩), .sc (.bool false), .sc .nils, .sc .nils, .sc .nils, .sc .nils] 0 cs = cs := splice_full hl.symm
  simp -implicitDefEqProofs (maxDischargeDepth := 12) only [WW,List.replicate,if_true,if_false,ite_true,ite_false,true_or,ne_eq,Nat.reduceAdd,Nat.reduceSub,Nat.reduceMul,Nat.reduceLeDiff,Nat.reduceEqDiff,Nat.reduceGT,Nat.reduceLT,Int.reduceLE,Int.reduceLT,Int.reduceToNat,Int.reduceAdd,reduceCtorEq,beq_self_eq_true,eq_self,exists_eq_left,exists_eq_left', hones, hl, s_mkmap, hq, hsp, o_map, c_map]
  generalize hH2 : AHeap.put _ (q + 1 + 1) _ = H2
  have n2 : H2.next = q + 3 := by subst hH2; simp only [AHeap.next_put, AHeap.next_alloc, hq]
  have a0 : ∀ b, b < q → H2.cells b = H1.cells b := fun b hb => by
    subst hH2
    rw [c_put_ne (by omega), c_alloc_ne (by simp only [AHeap.next_put, AHeap.next_alloc, hq]; omega), c_alloc_ne (by simp only [AHeap.next_put, AHeap.next_alloc, hq]; omega), c_put_ne (by omega), c_alloc_ne (by omega)]
  have aq : H2.cells q = some cs := by
    subst hH2
    rw [c_put_ne (by omega), c_alloc_ne (by simp only [AHeap.next_put, AHeap.next_alloc, hq]; omega), c_alloc_ne (by simp only [AHeap.next_put, AHeap.next_alloc, hq]; omega)]
    refine h_put_self (y := [.sc (.str ⟨#[]⟩), .sc (.bool false), .sc .nils, .sc .nils, .sc .nils, .sc .nils]) ?_
    rw [h_alloc, if_pos hq.symm]
  have am : H2.map (q + 1) = some [] := by
    subst hH2
    rw [AHeap.map, g_put_ne (by omega), g_alloc_ne (by simp only [AHeap.next_put, AHeap.next_alloc, hq]; omega)]
    have e : q + 1 = ((H1.alloc (Blk.cells [AV.sc (Sc.str { data := #[] }), AV.sc (Sc.bool false), AV.sc Sc.nils, AV.sc Sc.nils, AV.sc Sc.nils, AV.sc Sc.nils])).put q (some (Blk.cells cs))).next := by simp only [AHeap.next_put, AHeap.next_alloc, hq]
    rw [e, g_alloc]
  have ab : H2.cells (q + 2) = some [.map (q + 1)] := by
    subst hH2
    refine h_put_self (y := [.sc .nilm]) ?_
    rw [h_alloc, if_pos (by simp only [AHeap.next_put, AHeap.next_alloc, hq])]
  clear hH2
  refine wA_call hp63 (visit0_ok _ _ rfl rfl ⟨_, rfl, by simp only [k_nil], ?_⟩)
  simp -implicitDefEqProofs (maxDischargeDepth := 12) only [WW,List.replicate,e_splice,if_true,if_false,ite_true,ite_false,true_or,ne_eq,Nat.reduceAdd,Nat.reduceSub,Nat.reduceMul,Nat.reduceLeDiff,Nat.reduceEqDiff,Nat.reduceGT,Nat.reduceLT,Int.reduceLE,Int.reduceLT,Int.reduceToNat,Int.reduceAdd,reduceCtorEq,h_putc,beq_self_eq_true,eq_self,exists_eq_left,exists_eq_left', n2]
  refine ev_range rfl (callee110 _) ?_
  intro A B hA hB
  simp -implicitDefEqProofs (maxDischargeDepth := 12) only [WW,List.replicate,e_splice,if_true,if_false,ite_true,ite_false,true_or,ne_eq,Nat.reduceAdd,Nat.reduceSub,Nat.reduceMul,Nat.reduceLeDiff,Nat.reduceEqDiff,Nat.reduceGT,Nat.reduceLT,Int.reduceLE,Int.reduceLT,Int.reduceToNat,Int.reduceAdd,reduceCtorEq,h_putc,beq_self_eq_true,eq_self,exists_eq_left,exists_eq_left', n2]
  have hTc := Tame_cl hT
  have hR : ∀ b ∈ fp, b < q := fun b hb => by have := hlt b hb; omega
  have hR2 : ∀ b ∈ fp, 2 ≤ b := hF
  generalize hLB : Blk.loop LoopState.ready none _ [11, 12] A B = LB
  refine Ev.mono (visit_own (pol := pol) s.cl hTc (q + 3 + 1) (q + 3) q fp (fun _ => s.cl) (fun r H => H.cells (q + 3) = some [.ptr q 0] ∧ (∀ b, b < q + 1 → H.cells b = H2.cells b) ∧ H.get (q + 3 + 1) = some LB ∧ H.cells (q + 2) = some [.map (q + 1)] ∧
      ∃ l, H.map (q + 1) = some (idsOf l) ∧ ∀ x, (x ∈ l ∨ x ∈ r.filterMap s.cl.evId) ↔ x ∈ (poss s.cl).filterMap s.cl.evId) (fun _ => False) ?_ ?_ ?_) ?_
  · rintro r H ⟨h1, h2, -, -, -⟩
    refine ⟨h1, ⟨cs, fp, by rw [h2 q (by omega)]; exact aq, ho.fr fun b hb => ?_, fun _ h => h⟩, SameShape.refl _⟩
    have := hR b hb
    rw [h2 b (by omega), a0 b this]
  · rintro o r H p ⟨h1, h2, hl, hb, l, hm, hx⟩ ⟨b, off, ds, id, g, rfl, hbR, hds, hl2, hs0, hs1, hI, -⟩
    subst hLB
    have hn := hg_lt hl
    have hbq := hR b hbR
    generalize hpl : o.place = pl
    have q1 : ¬ (b = H.next) := by omega
    have q2 : ¬ (H.next = q + 3 + 1) := by omega
    refine ev_round2 (t1 := ?t1) (H1 := ?H1) hl rfl hA hB ?_ ?_ ?_
    case t1 => exact ((([s.enc, .ptr 0 0, .ptr 1 0, .ptr q 0, .ptr (q + 1 + 1) 0, .sc .undef, .sc .undef, s.enc, .agg cs, .map (q + 1), .func (.func 110) [] [.ptr (q + 3) 0], .sc .undef, .sc .undef, .sc .undef, .sc .undef, .sc .undef, .sc .undef, .sc .undef, .sc .undef, .sc .undef, .sc .undef, .sc .undef, .sc .undef, .sc .undef, .sc .undef, .sc .undef].set 11 pl.enc).set 12 (AV.ptr b off)).set 5 (.ptr H.next 0)) |>.set 6 (.ptr b off)
    case H1 => exact (H.alloc (.cells [.sc (.int .i64 0), .sc (.int .i64 0), .sc (.int .i64 0), .sc (.int .i64 0), .sc (.int .i64 0), .sc (.int .i64 0), .sc (.int .i64 0)])).put H.next (some (.cells pl.enc.cells))
    · simp -implicitDefEqProofs (maxDischargeDepth := 12) only [WW,List.replicate,e_splice,if_true,if_false,ite_true,ite_false,true_or,ne_eq,Nat.reduceAdd,Nat.reduceSub,Nat.reduceMul,Nat.reduceLeDiff,Nat.reduceEqDiff,Nat.reduceGT,Nat.reduceLT,Int.reduceLE,Int.reduceLT,Int.reduceToNat,Int.reduceAdd,reduceCtorEq,h_putc,beq_self_eq_true,eq_self,exists_eq_left,exists_eq_left', pl.enc_eq]
    · rw [g_put_ne (by omega), g_alloc_ne (by omega)]; exact hl
    generalize hH3 : AHeap.put (AHeap.alloc H _) _ _ = H3
    have k0 : ∀ c, c ≠ H.next → H3.get c = H.get c := fun c hc => by subst hH3; rw [g_put_ne hc, g_alloc_ne hc]
    have k1 : H3.cells H.next = some [.sc (.int .i64 pl.kind), .sc (.int .i64 pl.part), .sc (.int .i64 pl.staff), .sc (.int .i64 pl.measure), .sc (.int .i64 pl.voice), .sc (.int .i64 pl.event), .sc (.int .i64 pl.spanner)] := by
      subst hH3
      exact h_put_self (by rw [h_alloc, if_pos rfl])
    have k2 := (k0 (q + 3 + 1) (by omega)).trans hl
    have k3 : H3.cells b = some ds := (cells_of_get (k0 b (by omega))).trans hds
    have k4 : H3.cells (q + 1 + 1) = some [.map (q + 1)] := (cells_of_get (k0 (q + 2) (by omega))).trans hb
    have k5 : H3.map (q + 1) = some (idsOf l) := (map_of_get (k0 (q + 1) (by omega))).trans hm
    have k6 : ∀ c x, c ≠ q + 3 + 1 → (H3.put (q + 3 + 1) (some x)).get c = H3.get c := fun c x hc => g_put_ne hc
    clear hH3
    generalize hH4 : AHeap.put H3 _ _ = H4
    have m0 : ∀ c, c ≠ q + 3 + 1 → H4.get c = H3.get c := fun c hc => by subst hH4; exact g_put_ne hc
    have m1 : H4.get (q + 3 + 1) = some (.loop .busy none [s.enc, .ptr 0 0, .ptr 1 0, .ptr q 0, .ptr (q + 1 + 1) 0, .sc .undef, .sc .undef, s.enc, .agg cs, .map (q + 1), .func (.func 110) [] [.ptr (q + 3) 0], .sc .undef, .sc .undef, .sc .undef, .sc .undef, .sc .undef, .sc .undef, .sc .undef, .sc .undef, .sc .undef, .sc .undef, .sc .undef, .sc .undef, .sc .undef, .sc .undef, .sc .undef] [11, 12] A B) := by subst hH4; exact g_put k2
    have m2 := (cells_of_get (m0 H.next (by omega))).trans k1
    have m3 := (cells_of_get (m0 b (by omega))).trans k3
    have m4 := (cells_of_get (m0 (q + 1 + 1) (by omega))).trans k4
    have m5 := (map_of_get (m0 (q + 1) (by omega))).trans k5
    clear hH4
    have fin : ∀ (H5 : AHeap) (l' : List ID) (x : Blk), (∀ c, c ≠ q + 1 → c ≠ q + 3 + 1 → c ≠ H.next → H5.get c = H.get c) → H5.get (q + 3 + 1) = some x → H5.map (q + 1) = some (idsOf l') → (∀ x, (x ∈ l' ∨ x ∈ r.filterMap s.cl.evId) ↔ x ∈ (poss s.cl).filterMap s.cl.evId) →
      (H5.cells (q + 3) = some [.ptr q 0] ∧ (∀ b, b < q + 1 → H5.cells b = H2.cells b) ∧ H5.get (q + 3 + 1) = some x ∧ H5.cells (q + 2) = some [.map (q + 1)] ∧ ∃ l, H5.map (q + 1) = some (idsOf l) ∧ ∀ x, (x ∈ l ∨ x ∈ r.filterMap s.cl.evId) ↔ x ∈ (poss s.cl).filterMap s.cl.evId) := fun H5 l' x e1 e2 e3 e4 =>
      ⟨(cells_of_get (e1 _ (by omega) (by omega) (by omega))).trans h1, fun c hc => (cells_of_get (e1 _ (by omega) (by omega) (by omega))).trans (h2 c hc), e2, (cells_of_get (e1 _ (by omega) (by omega) (by omega))).trans hb, l', e3, e4⟩
    have hid : (ds.drop off).take 2 = [.sc (.int .i64 id.site), .sc (.int .i64 id.number)] := get_two hs0 hs1
    by_cases hk : pl.kind = 4
    · have hev : s.cl.evId o = some id := by
        cases o <;> first | exact idAt_event hI | (subst hpl; simp [Pos.place] at hk)
      rw [List.filterMap_cons, hev] at hx
      obtain ⟨l', hp1, hp2⟩ := put_ids m5 id
      simp only [id.enc_eq] at hp1
      simp -implicitDefEqProofs (maxDischargeDepth := 12) only [WW,List.replicate,if_true,if_false,ite_true,ite_false,true_or,ne_eq,Nat.reduceAdd,Nat.reduceSub,Nat.reduceMul,Nat.reduceLeDiff,Nat.reduceEqDiff,Nat.reduceGT,Nat.reduceLT,Int.reduceLE,Int.reduceLT,Int.reduceToNat,Int.reduceAdd,reduceCtorEq,beq_self_eq_true,eq_self,exists_eq_left,exists_eq_left', m2, m3, m4, hk, hl2, hid, s_mpup, wA_memM, hp1]
      refine ⟨(g_put_ne (by omega)).trans m1, rfl, fin _ l' _ (fun c c1 c2 c3 => by rw [g_put_ne c2, g_put_ne c1, m0 c c2, k0 c c3]) (g_put ((g_put_ne (by omega)).trans m1)) ?_ fun x => ?_⟩
      · rw [AHeap.map, g_put_ne (by omega), g_put (get_of_map m5)]
      · rw [hp2 x, ← hx x]
        simp only [List.mem_cons, or_assoc]
    · have hev : s.cl.evId o = none := by
        cases o <;> first | rfl | (subst hpl; simp [Pos.place] at hk)
      rw [List.filterMap_cons, hev] at hx
      simp -implicitDefEqProofs (maxDischargeDepth := 12) only [WW,List.replicate,if_true,if_false,ite_true,ite_false,true_or,ne_eq,Nat.reduceAdd,Nat.reduceSub,Nat.reduceMul,Nat.reduceLeDiff,Nat.reduceEqDiff,Nat.reduceGT,Nat.reduceLT,Int.reduceLE,Int.reduceLT,Int.reduceToNat,Int.reduceAdd,reduceCtorEq,beq_self_eq_true,eq_self,exists_eq_left,exists_eq_left', m2, hk]
      refine ⟨m1, rfl, fin _ l _ (fun c c1 c2 c3 => by rw [g_put_ne c2, m0 c c2, k0 c c3]) (g_put m1) ?_ hx⟩
      rw [AHeap.map, g_put_ne (by omega)]
      exact m5
  · refine ⟨?_, fun b hb => ?_, ?_, ?_, [], ?_, fun x => by simp⟩
    · rw [c_alloc_ne (by rw [AHeap.next_alloc, n2]; omega), h_alloc, if_pos n2.symm]
    · rw [c_alloc_ne (by rw [AHeap.next_alloc, n2]; omega), c_alloc_ne (by rw [n2]; omega)]
    · have e : q + 3 + 1 = (H2.alloc (.cells [.ptr q 0])).next := by rw [AHeap.next_alloc, n2]
      rw [e, g_alloc]
    · rw [c_alloc_ne (by rw [AHeap.next_alloc, n2]; omega), c_alloc_ne (by rw [n2]; omega)]; exact ab
    · rw [AHeap.map, g_alloc_ne (by rw [AHeap.next_alloc, n2]; omega), g_alloc_ne (by rw [n2]; omega)]; exact am
  · rintro o H' ⟨v, rfl, ⟨h1, h2, hl, hb, l, hm, hx⟩ | h⟩
    rotate_left
    · exact h.elim
    subst hLB
    have hn := hg_lt hl
    refine ⟨v, rfl, _, _, _, _, _, _, _, hl, by simp, rfl, ?_⟩
    generalize hH4 : AHeap.put H' _ _ = H4
    have m0 : ∀ c, c ≠ q + 3 + 1 → H4.get c = H'.get c := fun c hc => by subst hH4; exact g_put_ne hc
    have mn : H4.next = H'.next := by subst hH4; rw [AHeap.next_put]
    clear hH4
    have ho4 : OwnL (OwnX false 7) H4 cs s.cl.enc.cells fp := ho.fr fun b hb => by
      have := hR b hb
      rw [cells_of_get (m0 b (by omega)), h2 b (by omega), a0 b this]
    have hS : H4.cells q = some cs := by rw [cells_of_get (m0 q (by omega)), h2 q (by omega)]; exact aq
    have h14 := ((cells_of_get (m0 1 (by omega))).trans ((h2 1 (by omega)).trans (a0 1 (by omega)))).trans g1
    obtain ⟨v2, v3, v4, v5, f2, f3, f4, f5, rfl, c2, c3, c4, c5, s2, s3, s4, s5⟩ := own6 ho4
    obtain ⟨v, f4, e4, w1, w2, w3⟩ := ho4.fit (j := 4) (u := slm Spanner.enc s.cl.spanners) rfl
    cases e4
    simp -implicitDefEqProofs (maxDischargeDepth := 12) only [WW,List.replicate,if_true,if_false,ite_true,ite_false,true_or,ne_eq,Nat.reduceAdd,Nat.reduceSub,Nat.reduceMul,Nat.reduceLeDiff,Nat.reduceEqDiff,Nat.reduceGT,Nat.reduceLT,Int.reduceLE,Int.reduceLT,Int.reduceToNat,Int.reduceAdd,reduceCtorEq,beq_self_eq_true,eq_self,exists_eq_left,exists_eq_left', hS]
    refine wA_call hp69 ((delete_own (d := 5) hp70 hp114 w1 (bq := q + 1 + 1) (m := q + 1) ((cells_of_get (m0 (q + 2) (by omega))).trans hb) (fun h => by have := hR _ (w2 _ h); omega) ((map_of_get (m0 (q + 1) (by omega))).trans hm) hTc.spanners).mono ?_)
    rintro o H5 ⟨v', rfl, f5, x1, x2, x3, x4, x5⟩
    refine ⟨_, rfl, by simp only [k_nil], ?_⟩
    obtain ⟨fp', y1, y2⟩ := w3 v' _ H5 f5 x1 (fun b hb hb2 => x3 b hb2 (by have := hR b hb; omega)) (fun b hb => .inl (x2 b hb))
    have hfp' : ∀ b ∈ fp', 2 ≤ b ∧ b < q := fun b hb => by
      rcases y2 b hb with h | ⟨h, _⟩
      · have := w2 b (x2 b h); exact ⟨hR2 b this, hR b this⟩
      · exact ⟨hR2 b h, hR b h⟩
    have z1 := (x3 q (fun h => by have := hR _ (w2 _ h); omega) (by omega)).trans hS
    have z2 := (x3 1 (fun h => by have := hR2 _ (w2 _ h); omega) (by omega)).trans h14
    have hbad : (fun x => !badSp l x) = fun x : Spanner => isEv (objs s) x.from_ && isEv (objs s) x.to := by
      have key : ∀ x, decide (x ∈ l) = isEv (objs s) x := fun x => by
        have e : x ∈ l ↔ isEv (objs s) x = true := by
          rw [isEv_iff, ← objs_cl s, ← ev_poss, ← hx x]
          simp
        cases hb : isEv (objs s) x with
        | true => simp [e.2 hb]
        | false => simp only [decide_eq_false_iff_not]; intro h; rw [e.1 h] at hb; cases hb
      funext x
      simp only [badSp, key, Bool.not_or, Bool.not_not]
    rw [hbad] at y1
    have nq : ¬ 1 = q := by omega
    simp -implicitDefEqProofs (maxDischargeDepth := 12) only [WW,List.replicate,e_splice,if_true,if_false,ite_true,ite_false,true_or,ne_eq,Nat.reduceAdd,Nat.reduceSub,Nat.reduceMul,Nat.reduceLeDiff,Nat.reduceEqDiff,Nat.reduceGT,Nat.reduceLT,Int.reduceLE,Int.reduceLT,Int.reduceToNat,Int.reduceAdd,reduceCtorEq,h_putc,beq_self_eq_true,eq_self,exists_eq_left,exists_eq_left', z1, z2, nq, (own_len c2).2.1, (own_len c3).2.1, (own_len c4).2.1, (own_len c5).2.1, (own_len x1).2.1, (own_len x1).2.2]
    refine OwnX.frz (I := false) (d := 8) (fp := fp') ?_ (by decide)
    refine ⟨s.pr.enc.cells, rfl, ?_⟩
    refine (show OwnL (OwnX false 7) H5 _ s.pr.enc.cells fp' from y1).fr fun b hb => ?_
    have := hfp' b hb
    rw [c_put_ne (by omega), c_put_ne (by omega)]
end Go.Hem
/- Walks: with, and the closures of SetMeasure and SetCell. -/
set_option maxRecDepth 10000
set_option maxHeartbeats 4000000
set_option linter.unusedSimpArgs false
set_option linter.unusedVariables false
namespace Go.Hem
variable {pol : Pol}
section
variable {H : AHeap} {bS : Nat} {R : List Nat}
/-- The end of a path: an element is written. -/
theorem store_fin {α : Type} {f : α → AV} {v w : AV} {d n i : Nat} {g1 g2 : List Nat} {s : Sl α} {x : α} (row : RowOf n f) (hn1 : n ≠ 1) (hw : OwnX false (d + 1) H w (slm f s) g2) (hi : s.l[i]? = some x) (hg12 : ∀ b ∈ g2, b ∈ g1) (hg1 : ∀ b ∈ g1, b ∈ R) (hRS : bS ∉ R) :
    ∃ b off cap ds, w = .slice b off s.l.length cap n ∧ H.cells b = some ds ∧ off + i * n + n ≤ ds.length ∧ b ∈ R ∧ ∀ (x' : α) (U : AV) (a' : Score),
      Fit H g1 g2 (fun H' f' => OwnX false (d + 1) H' w (slm f (some (s.l.set i x'))) f') (fun H' f' => OwnX false 7 H' v U f') →
      (∀ H' f' R', OwnX false 7 H' v U f' → H'.cells bS = H.cells bS → (∀ b ∈ R, b ∉ g1 → H'.cells b = H.cells b) → (∀ b ∈ f', b ∈ g1 ∨ b ∉ R) → (∀ b ∈ R, b ∈ R') → (∀ b ∈ f', b ∈ R') → OwnScore H' bS R' a') →
      ∀ H1 ws g, (∀ c ∈ R, H1.cells c = H.cells c) → H1.cells bS = H.cells bS → ws.length = n → OwnL (OwnX false d) H1 ws (f x').cells g → (∀ c ∈ g, c ∉ R) → OwnScore (H1.put b (some (.cells (splice ds (off + i * n) ws)))) bS (R ++ g) a' := by
  obtain ⟨b, off, cap, cs, fp1, h1, h2, h3, h4, h5, h6, h7, h8⟩ := own_elem_fit row hn1 hw hi
  have hbR := hg1 b (hg12 b h4)
  have nb : bS ≠ b := fun e => hRS (e ▸ hbR)
  refine ⟨b, off, cap, cs, h1, h2, h3, hbR, fun x' U a' hF hT H1 ws g k1 k2 k3 k4 k5 => ?_⟩
  have hb1 : H1.cells b = some cs := (k1 b hbR).trans h2
  have hgb : b ∉ g := fun h => k5 b h hbR
  obtain ⟨f', r1, r2⟩ := h8 x' (H1.put b (some (.cells (splice cs (off + i * n) ws)))) (b :: g) ⟨ws, g, h_put_self hb1, k3, k4.fr fun c hc => c_put_ne fun e => hgb (e ▸ hc), hgb, rfl⟩
    (fun c hc hc2 => by rw [c_put_ne fun e => hc2 (by simp [e]), k1 c (hg1 c (hg12 c hc))]) (fun c hc => by
      rcases List.mem_cons.1 hc with rfl | hc
      · exact .inl (by simp)
      · exact .inr fun h => k5 c hc (hg1 c (hg12 c h)))
  have hf' : ∀ c ∈ f', c ∈ g2 ∨ c ∈ g := fun c hc => by
    rcases r2 c hc with h | ⟨h, _⟩
    · rcases List.mem_cons.1 h with rfl | h
      · exact .inl h4
      · exact .inr h
    · exact .inl h
  have hk : ∀ c, c ∈ R → c ≠ b → (H1.put b (some (.cells (splice cs (off + i * n) ws)))).cells c = H.cells c := fun c hc hcb => by rw [c_put_ne hcb, k1 c hc]
  obtain ⟨f'', q1, q2⟩ := hF _ f' r1 (fun c hc hc2 => hk c (hg1 c hc) fun e => hc2 (e ▸ h4)) (fun c hc => by
    rcases hf' c hc with h | h
    · exact .inl h
    · exact .inr fun h2 => k5 c h (hg1 c h2))
  have hf'' : ∀ c ∈ f'', c ∈ g1 ∨ c ∈ g := fun c hc => by
    rcases q2 c hc with h | ⟨h, _⟩
    · exact (hf' c h).imp (hg12 c) id
    · exact .inl h
  refine hT _ f'' (R ++ g) q1 (by rw [c_put_ne nb, k2]) (fun c hc hc2 => hk c hc fun e => hc2 (e ▸ hg12 b h4)) (fun c hc => (hf'' c hc).imp id (k5 c)) (fun c hc => List.mem_append.2 (.inl hc)) (fun c hc => ?_)
  rcases hf'' c hc with h | h
  · exact List.mem_append.2 (.inl (hg1 c h))
  · exact List.mem_append.2 (.inr h)

theorem store_event {a : Score} {v : AV} {m c vv e : Nat} {y : Measure} {q : Cell} {z : Voice} {x : Event} (h : Foc H bS R a v 3 (slm Measure.enc a.measures)) (hy : a.measures.l[m]? = some y) (hq : y.cells.l[c]? = some q) (hz : q.voices.l[vv]? = some z) (hx : z.events.l[e]? = some x) (hRS : bS ∉ R) :
    ∃ b1 o1 p1 z1 w1 b2 o2 p2 z2 w2 b3 o3 p3 z3 w3 b off cap ds, v = .slice b1 o1 a.measures.l.length p1 22 ∧ H.cells b1 = some z1 ∧ z1[o1 + m * 22 + 21]? = some w1 ∧ w1 = .slice b2 o2 y.cells.l.length p2 2 ∧ H.cells b2 = some z2 ∧ z2[o2 + c * 2 + 1]? = some w2 ∧
      w2 = .slice b3 o3 q.voices.l.length p3 2 ∧ H.cells b3 = some z3 ∧ z3[o3 + vv * 2]? = some w3 ∧ w3 = .slice b off z.events.l.length cap 13 ∧ H.cells b = some ds ∧ off + e * 13 + 13 ≤ ds.length ∧ b ∈ R ∧ ∀ (x : Event) H1 ws g, (∀ c ∈ R, H1.cells c = H.cells c) → H1.cells bS = H.cells bS → ws.length = 13 → OwnL (OwnX false 3) H1 ws x.enc.cells g → (∀ c ∈ g, c ∉ R) →
      OwnScore (H1.put b (some (.cells (splice ds (off + e * 13) ws)))) bS (R ++ g) (a.setM m (y.setC c (q.setV vv (z.setE e x)))) := by
  obtain ⟨f, h1, h2, h3⟩ := h
  obtain ⟨b1, o1, p1, z1, w1, f1, a1, a2, a3, a4, a5, a6, a7, a8, a9⟩ := own_step row_Measure (by decide) h1 hy (show (Measure.enc y).cells[21]? = some (slm Cell.enc y.cells) from rfl)
  obtain ⟨b2, o2, p2, z2, w2, f2, d1, d2, d3, d4, d5, d6, d7, d8, d9⟩ := own_step row_Cell (by decide) a5 hq (show (Cell.enc q).cells[1]? = some (slm Voice.enc q.voices) from rfl)
  obtain ⟨b3, o3, p3, z3, w3, f3, e1, e2, e3, e4, e5, e6, e7, e8, e9⟩ := own_step row_Voice (by decide) d5 hz (show (Voice.enc z).cells[0]? = some (slm Event.enc z.events) from rfl)
  have s2 : ∀ b ∈ f3, b ∈ f1 := fun b hb => d6 b (e6 b hb)
  obtain ⟨b, off, cap, ds, g1, g2, g3, g4, g5⟩ := store_fin (g1 := f) (v := v) row_Event (by decide) e5 hx (fun b hb => a6 b (s2 b hb)) h2 hRS
  exact ⟨b1, o1, p1, z1, w1, b2, o2, p2, z2, w2, b3, o3, p3, z3, w3, b, off, cap, ds, a1, a2, a4, d1, d2, d4, e1, e2, by simpa using e4, g1, g2, g3, g4, fun x => g5 x _ _
    (Fit.trans (a9 _ (y.setC c (q.setV vv (z.setE e x))) rfl) (Fit.trans (d9 _ (q.setV vv (z.setE e x)) rfl) (e9 _ (z.setE e x) rfl) d6 e6) a6 s2) (h3 (a.setM m (y.setC c (q.setV vv (z.setE e x)))) _ rfl)⟩
end
/-- What the change of a score does. -/
def Chg (pol : Pol) (g : FuncId) (cap : List AV) (H0 : AHeap) (s a : Score) : Prop := ∀ (H : AHeap) (q : Nat) (R : List Nat), Keep H0.next H0 H → H0.next ≤ q → q < H.next → q ∉ R → (∀ b ∈ R, H0.next ≤ b ∧ b < H.next) → OwnScore H q R s.cl →
  Ev prog pol (.call g ([.ptr q 0] ++ cap)) H fun o H' => ∃ v R', o = .val v ∧ OwnScore H' q R' a ∧ (∀ b ∈ R', b ∈ R ∨ H.next ≤ b) ∧ (∀ b, b < H.next → b ∉ R → H'.cells b = H.cells b) ∧ H.next ≤ H'.next
theorem with_ok (hp : PrPol pol) (h29 : pol.pure 29 = true) (s : Score) (hx : s.tame) (a : Score) (ha : a.tame) (hT : Tame a) (l : List Part) (hl : a.parts = some l) (H0 : AHeap) (g : FuncId) (cap : List AV) (hg : pol.pure g = false) (hcal : ∀ args, acallee prog g args = some (.call g args)) (hchg : Chg pol g cap H0 s a) :
    Ev prog pol (.call 93 [s.enc, .func (.func g) [] cap]) H0 fun o H' => o = .val a.pr.enc ∧ Keep H0.next H0 H' := by
  refine (wpF_ok ok93 (Q := fun v H' => v = a.pr.enc ∧ Keep H0.next H0 H') ?_).mono ?_
  rotate_left
  · rintro o H' ⟨v, rfl, rfl, h⟩
    exact ⟨rfl, h⟩
  generalize hn0 : H0.next = n
  simp -implicitDefEqProofs (maxDischargeDepth := 12) only [wpF, cf93, WW,List.replicate,e_splice,if_true,if_false,ite_true,ite_false,true_or,ne_eq,Nat.reduceAdd,Nat.reduceSub,Nat.reduceMul,Nat.reduceLeDiff,Nat.reduceEqDiff,Nat.reduceGT,Nat.reduceLT,Int.reduceLE,Int.reduceLT,Int.reduceToNat,Int.reduceAdd,reduceCtorEq,h_putc,beq_self_eq_true,eq_self,exists_eq_left,exists_eq_left', s.enc_eq, hn0, nq1, mq1, addq, nq2, mq2, mq12, mq21]
  rw [← s.enc_eq]
  refine wA_call (hp.1 _ (by decide)) ((sClone_ok hp.1 s hx _).mono ?_)
  rintro o H1 ⟨cs, fp, rfl, ho, hlen, hones, hF, hN, hK⟩
  refine ⟨_, rfl, by simp only [k_nil], ?_⟩
  simp only [AHeap.next_alloc, hn0] at hF hN hK
  have g1 : H1.cells (n + 1) = some [.sc (.str ⟨#[]⟩), .sc (.bool false), .sc .nils, .sc .nils, .sc .nils, .sc .nils] := (hK (n + 1) (by omega)).trans (by simp -implicitDefEqProofs (maxDischargeDepth := 12) only [WW,List.replicate,e_splice,if_true,if_false,ite_true,ite_false,true_or,ne_eq,Nat.reduceAdd,Nat.reduceSub,Nat.reduceMul,Nat.reduceLeDiff,Nat.reduceEqDiff,Nat.reduceGT,Nat.reduceLT,Int.reduceLE,Int.reduceLT,Int.reduceToNat,Int.reduceAdd,reduceCtorEq,h_putc,beq_self_eq_true,eq_self,exists_eq_left,exists_eq_left', hn0])
  have hK1 : Keep n H0 H1 := fun b hb => by rw [hK b (by omega), c_alloc_ne (by simp only [AHeap.next_alloc, hn0]; omega), c_alloc_ne (by omega)]
  generalize hq : H1.next = q
  have hlt := ho.lts
  have hsp : splice [.sc (.str ⟨#[]⟩), .sc (.bool false), .sc .nils, .sc .nils, .sc .nils, .sc .nils] 0 cs = cs := splice_full hlen.symm
  simp -implicitDefEqProofs (maxDischargeDepth := 12) only [WW,List.replicate,if_true,if_false,ite_true,ite_false,true_or,ne_eq,Nat.reduceAdd,Nat.reduceSub,Nat.reduceMul,Nat.reduceLeDiff,Nat.reduceEqDiff,Nat.reduceGT,Nat.reduceLT,Int.reduceLE,Int.reduceLT,Int.reduceToNat,Int.reduceAdd,reduceCtorEq,beq_self_eq_true,eq_self,exists_eq_left,exists_eq_left', hones, hlen, hq, hsp]
  rw [e_callf, hcal]
  generalize hH2 : AHeap.put _ q _ = H2
  have n2 : H2.next = q + 1 := by subst hH2; simp only [AHeap.next_put, AHeap.next_alloc, hq]
  have a0 : ∀ b, b < q → H2.cells b = H1.cells b := fun b hb => by
    subst hH2
    rw [c_put_ne (by omega), c_alloc_ne (by omega)]
  have aq : H2.cells q = some cs := by
    subst hH2
    refine h_put_self (y := [.sc (.str ⟨#[]⟩), .sc (.bool false), .sc .nils, .sc .nils, .sc .nils, .sc .nils]) ?_
    rw [h_alloc, if_pos hq.symm]
  clear hH2
  have hfl : ∀ b ∈ fp, n + 2 ≤ b ∧ b < q := fun b hb => ⟨hF b hb, by have := hlt b hb; omega⟩
  refine wA_call hg ((hchg H2 q fp (fun b hb => by rw [a0 b (by omega), hK1 b (by omega)]) (by omega) (by omega) (fun h => by have := hfl _ h; omega) (fun b hb => by have := hfl b hb; omega) ⟨cs, fp, aq, ho.fr fun b hb => a0 b (hfl b hb).2, fun _ h => h⟩).mono ?_)
  rintro o H3 ⟨v, R', rfl, ⟨cs3, fp3, hS3, ho3, hR3⟩, x2, x3, x4⟩
  refine ⟨_, rfl, by simp only [k_nil], ?_⟩
  have hfp3 : ∀ b ∈ fp3, n + 2 ≤ b ∧ b ≠ q := fun b hb => by
    rcases x2 b (hR3 b hb) with h | h
    · have := hfl b h; omega
    · omega
  have z1 : H3.cells (n + 1) = _ := ((x3 (n + 1) (by omega) (fun h => by have := hfl _ h; omega)).trans (a0 _ (by omega))).trans g1
  have hl3 := ho3.len
  have hl3 : cs3.length = 6 := hl3
  have hcs3 : List.take 6 cs3 = cs3 := List.take_of_length_le (by omega)
  have hle3 : 6 ≤ cs3.length := by omega
  simp -implicitDefEqProofs (maxDischargeDepth := 12) only [WW,List.replicate,e_splice,if_true,if_false,ite_true,ite_false,true_or,ne_eq,Nat.reduceAdd,Nat.reduceSub,Nat.reduceMul,Nat.reduceLeDiff,Nat.reduceEqDiff,Nat.reduceGT,Nat.reduceLT,Int.reduceLE,Int.reduceLT,Int.reduceToNat,Int.reduceAdd,reduceCtorEq,h_putc,beq_self_eq_true,eq_self,exists_eq_left,exists_eq_left', hS3, hcs3, hle3]
  have o1 : Own 20 H3 (.agg cs3) a.enc fp3 := ⟨_, rfl, ho3.le fun _ _ _ a => (a.up).mono (by decide)⟩
  have hcl : AV.closedBs cs3 = false := by
    obtain ⟨v2, v3, v4, v5, f2, f3, f4, f5, rfl, c2, c3, c4, c5, s2, s3, s4, s5⟩ := own6 ho3
    rw [hl] at c2
    simp only [AV.closedBs, AV.closedB, own_some c2, Bool.false_and, Bool.and_false]
  refine wA_pvf h29 (pvf_ownA (fp := fp3 ++ []) (by simp only [AV.closedBs, AV.closedB, hcl, Bool.false_and]) (.cons o1 .nil Apart.nil_right) (prune_pv hp a ha hT) fun H4 hless => ?_)
  rw [List.append_nil] at hless
  refine ⟨by simp only [k_nil], ?_⟩
  have z4 := (cells_of_get (hless (n + 1) (fun h => by have := hfp3 _ h; omega))).trans z1
  have k4 : Keep n H0 H4 := fun b hb => by rw [cells_of_get (hless b (fun h => by have := hfp3 _ h; omega)), x3 b (by omega) (fun h => by have := hfl _ h; omega), a0 b (by omega), hK1 b hb]
  simp -implicitDefEqProofs (maxDischargeDepth := 12) only [WW,List.replicate,e_splice,if_true,if_false,ite_true,ite_false,true_or,ne_eq,Nat.reduceAdd,Nat.reduceSub,Nat.reduceMul,Nat.reduceLeDiff,Nat.reduceEqDiff,Nat.reduceGT,Nat.reduceLT,Int.reduceLE,Int.reduceLT,Int.reduceToNat,Int.reduceAdd,reduceCtorEq,h_putc,beq_self_eq_true,eq_self,exists_eq_left,exists_eq_left', z4, a.pr.enc_eq]
  exact k4.put (by omega)
end Go.Hem
/- Walks: SetMeasure and SetCell. -/
set_option maxRecDepth 10000
set_option maxHeartbeats 4000000
set_option linter.unusedSimpArgs false
set_option linter.unusedVariables false
namespace Go.Hem
variable {pol : Pol}
def Score.none : Score := ⟨⟨#[]⟩, false, Option.none, Option.none, Option.none, Option.none⟩
def okAV (s : Score) : AV := .tup [s.enc, .sc (.int .i64 0)]
def erAV (e : Int) : AV := .tup [Score.none.enc, .sc (.int .i64 e)]
theorem cl_at {s : Score} {i : Nat} {y : Measure} (hy : s.measures.l[i]? = some y) : s.cl.measures.l[i]? = some y.cl := by
  show (s.measures.l.map Measure.cl)[i]? = _
  rw [List.getElem?_map, hy]; rfl
theorem cl_at2 {y : Measure} {j : Nat} {c : Cell} (hc : y.cells.l[j]? = some c) : y.cl.cells.l[j]? = some c.cl := by
  have e : y.cl.cells.l = y.cells.l.map Cell.cl := l_of
  rw [e, List.getElem?_map, hc]; rfl
theorem plain_er (e : Int) : (erAV e).plain = true := rfl
theorem plain_ok (s : Score) : (okAV s).plain = true := by
  show ([s.enc, AV.sc (.int .i64 0)].all AV.plain2) = true
  simp only [List.all_cons, List.all_nil, s.enc_plain, Bool.true_and, Bool.and_true]; rfl
end Go.Hem
/- Walks: score.Find. -/
set_option maxRecDepth 10000
set_option maxHeartbeats 4000000
set_option linter.unusedSimpArgs false
set_option linter.unusedVariables false
namespace Go.Hem
variable {pol : Pol}
end Go.Hem
/- The law ScoreObjects, by the interpreter. -/
set_option maxRecDepth 10000
set_option maxHeartbeats 4000000
set_option linter.unusedSimpArgs false
set_option linter.unusedVariables false
namespace Go.Hem
/-- What is short is tame. -/
theorem tame_short (s : Score) : Tame s.short := by
  have e1 : s.short.parts.l = (s.parts.l.take 4).map Part.short := l_of
  have e2 : s.short.measures.l = (s.measures.l.take 5).map Measure.short := l_of
  have len_map : ∀ {α : Type} {x : Sl α} {n : Nat}, Sl.l (x.map (·.take n)) = x.l.take n := by intro α x n; cases x <;> simp [Sl.l]
  have e3 : s.short.spanners.l = s.spanners.l.take 6 := len_map
  have mm : ∀ (m : Nat) y, s.short.measures.l[m]? = some y → ∃ x : Measure, y = x.short := by
    intro m y h
    rw [e2, List.getElem?_map] at h
    cases hx : (s.measures.l.take 5)[m]? with
    | none => rw [hx] at h; cases h
    | some x => rw [hx] at h; cases h; exact ⟨x, rfl⟩
  have cc : ∀ (x : Measure) (c : Nat) q, x.short.cells.l[c]? = some q → ∃ y : Cell, q = y.short := by
    intro x c q h
    rw [show x.short.cells.l = (x.cells.l.take 6).map Cell.short from l_of, List.getElem?_map] at h
    cases hx : (x.cells.l.take 6)[c]? with
    | none => rw [hx] at h; cases h
    | some x => rw [hx] at h; cases h; exact ⟨x, rfl⟩
  have vv : ∀ (x : Cell) (c : Nat) q, x.short.voices.l[c]? = some q → ∃ y : Voice, q = y.short := by
    intro x c q h
    rw [show x.short.voices.l = (x.voices.l.take 3).map Voice.short from l_of, List.getElem?_map] at h
    cases hx : (x.voices.l.take 3)[c]? with
    | none => rw [hx] at h; cases h
    | some x => rw [hx] at h; cases h; exact ⟨x, rfl⟩
  have b1 : ∀ x : Measure, x.short.cells.l.length ≤ 6 := fun x => by rw [show x.short.cells.l = (x.cells.l.take 6).map Cell.short from l_of]; simp; omega
  have b2 : ∀ x : Cell, x.short.voices.l.length ≤ 3 := fun x => by rw [show x.short.voices.l = (x.voices.l.take 3).map Voice.short from l_of]; simp; omega
  have b3 : ∀ x : Voice, x.short.events.l.length ≤ 5 := fun x => by rw [show x.short.events.l = (x.events.l.take 5).map Event.short from l_of]; simp; omega
  have b4 : ∀ x : Part, x.short.staves.l.length ≤ 3 := fun x => by rw [show x.short.staves.l = x.staves.l.take 3 from len_map]; simp; omega
  have l1 : ∀ (l : List Staff) st, (objStaves st l).length = l.length := by intro l; induction l with
    | nil => intro _; rfl
    | cons x l ih => intro st; simp [objStaves, ih]
  have l2 : ∀ (l : List Part) i st, (objParts i st (l.map Part.short)).length ≤ 4 * l.length := by intro l; induction l with
    | nil => intro _ _; simp [objParts]
    | cons x l ih => intro i st; have := ih (i + 1) (st + x.short.staves.l.length); have := b4 x; simp [objParts, l1]; omega
  have l3 : ∀ (l : List Event) m c v e, (objEvents m c v e l).length = l.length := by intro l; induction l with
    | nil => intro _ _ _ _; rfl
    | cons x l ih => intro m c v e; simp [objEvents, ih]
  have l4 : ∀ (l : List Voice) m c v, (objVoices m c v (l.map Voice.short)).length ≤ 5 * l.length := by intro l; induction l with
    | nil => intro _ _ _; simp [objVoices]
    | cons x l ih => intro m c v; have := ih m c (v + 1); have := b3 x; simp [objVoices, l3]; omega
  have l5 : ∀ (l : List Cell) m c, (objCells m c (l.map Cell.short)).length ≤ 15 * l.length := by intro l; induction l with
    | nil => intro _ _; simp [objCells]
    | cons x l ih =>
      intro m c; have h1 := ih m (c + 1); have h2 := l4 (x.voices.l.take 3) m c 0
      rw [← show x.short.voices.l = (x.voices.l.take 3).map Voice.short from l_of] at h2
      simp only [List.length_take] at h2
      simp only [List.map_cons, objCells, List.length_append, List.length_cons]; omega
  have l6 : ∀ (l : List Measure) m, (objMeasures m (l.map Measure.short)).length ≤ 91 * l.length := by intro l; induction l with
    | nil => intro _; simp [objMeasures]
    | cons x l ih =>
      intro m; have h1 := ih (m + 1); have h2 := l5 (x.cells.l.take 6) m 0
      rw [← show x.short.cells.l = (x.cells.l.take 6).map Cell.short from l_of] at h2
      simp only [List.length_take] at h2
      simp only [List.map_cons, objMeasures, List.length_append, List.length_cons]; omega
  have l7 : ∀ (l : List Spanner) i, (objSpanners i l).length = l.length := by intro l; induction l with
    | nil => intro _; rfl
    | cons x l ih => intro i; simp [objSpanners, ih]
  have b5 : stavesOf s.short.parts.l ≤ 12 := by
    have : ∀ l : List Part, stavesOf (l.map Part.short) ≤ 3 * l.length := by
      intro l; induction l with
      | nil => simp [stavesOf]
      | cons p l ih =>
        have e : stavesOf ((p :: l).map Part.short) = p.short.staves.l.length + stavesOf (l.map Part.short) := by simp [stavesOf]
        have := b4 p; simp only [List.length_cons]; omega
    rw [e1]; have := this (s.parts.l.take 4); simp only [List.length_take] at this; omega
  refine ⟨?_, by omega, by rw [e1]; simp; omega, by rw [e2]; simp; omega, by rw [e3]; simp; omega, ?_, ?_, ?_⟩
  · unfold objs
    have h2 := l2 (s.parts.l.take 4) 0 0
    have h6 := l6 (s.measures.l.take 5) 0
    rw [← e1] at h2
    rw [← e2] at h6
    simp only [List.length_take] at h2 h6
    simp only [List.length_append, l7, e3, List.length_take]; omega
  · intro m y h; obtain ⟨x, rfl⟩ := mm m y h; have := b1 x; omega
  · intro m y c q h h'; obtain ⟨x, rfl⟩ := mm m y h; obtain ⟨z, rfl⟩ := cc _ _ _ h'; have := b2 z; omega
  · intro m y c q v z h h' h''; obtain ⟨x, rfl⟩ := mm m y h; obtain ⟨u, rfl⟩ := cc _ _ _ h'; obtain ⟨w, rfl⟩ := vv _ _ _ h''; have := b3 w; omega
end Go.Hem
/- What is small is tame; what is equal up to the kind of an empty list. -/
set_option linter.unusedSimpArgs false
set_option linter.unusedVariables false
namespace Go.Hem
def Voice.small (v : Voice) : Prop := v.events.l.length ≤ 5 ∧ v.tuplets.l.length ≤ 10 ∧ ∀ e ∈ v.events.l, e.tame
def Cell.small (c : Cell) : Prop := c.clefs.l.length ≤ 10 ∧ c.voices.l.length ≤ 3 ∧ ∀ v ∈ c.voices.l, v.small
def Measure.small (m : Measure) : Prop := m.tempi.l.length ≤ 10 ∧ m.cells.l.length ≤ 50 ∧ ∀ c ∈ m.cells.l, c.small
structure Score.small (s : Score) : Prop where
  parts : s.parts.l.length ≤ 40
  staves : ∀ p ∈ s.parts.l, p.staves.l.length ≤ 10
  measures : s.measures.l.length ≤ 20
  meas : ∀ m ∈ s.measures.l, m.small
  spanners : s.spanners.l.length ≤ 10
  last : s.last.l.length ≤ 10
theorem Voice.small.tame {v : Voice} (h : v.small) : v.tame := ⟨by have := h.1; omega, by have := h.2.1; omega, h.2.2⟩
theorem Cell.small.tame {v : Cell} (h : v.small) : v.tame := ⟨by have := h.1; omega, by have := h.2.1; omega, fun v hv => (h.2.2 v hv).tame⟩
theorem Measure.small.tame {v : Measure} (h : v.small) : v.tame := ⟨by have := h.1; omega, by have := h.2.1; omega, fun v hv => (h.2.2 v hv).tame⟩
theorem Score.small.tame {s : Score} (h : s.small) : s.tame := by
  obtain ⟨h1, h2, h3, h4, h5, h6⟩ := h
  exact ⟨by omega, fun p hp => by have := h2 p hp; unfold Part.tame; omega, by omega, fun m hm => (h4 m hm).tame, by omega, by omega⟩
theorem len_staves : ∀ (l : List Staff) st, (objStaves st l).length = l.length
  | [], _ => rfl
  | x :: l, st => by simp [objStaves, len_staves l]
theorem len_parts : ∀ (l : List Part) i st, (∀ p ∈ l, p.staves.l.length ≤ 10) → (objParts i st l).length ≤ 11 * l.length
  | [], _, _, _ => by simp [objParts]
  | x :: l, i, st, h => by
    have := len_parts l (i + 1) (st + x.staves.l.length) fun p hp => h p (by simp [hp])
    have := h x (by simp)
    simp only [objParts, List.length_cons, List.length_append, len_staves]; omega
theorem len_events : ∀ (l : List Event) m c v e, (objEvents m c v e l).length = l.length
  | [], _, _, _, _ => rfl
  | x :: l, m, c, v, e => by simp [objEvents, len_events l]
theorem len_voices : ∀ (l : List Voice) m c v, (∀ p ∈ l, p.small) → (objVoices m c v l).length ≤ 5 * l.length
  | [], _, _, _, _ => by simp [objVoices]
  | x :: l, m, c, v, h => by
    have := len_voices l m c (v + 1) fun p hp => h p (by simp [hp])
    have := (h x (by simp)).1
    simp only [objVoices, List.length_append, List.length_cons, len_events]; omega
theorem len_cells : ∀ (l : List Cell) m c, (∀ p ∈ l, p.small) → (objCells m c l).length ≤ 15 * l.length
  | [], _, _, _ => by simp [objCells]
  | x :: l, m, c, h => by
    have := len_cells l m (c + 1) fun p hp => h p (by simp [hp])
    obtain ⟨_, h1, h2⟩ := h x (by simp)
    have := len_voices x.voices.l m c 0 h2
    simp only [objCells, List.length_append, List.length_cons]; omega
theorem len_measures : ∀ (l : List Measure) m, (∀ p ∈ l, p.small) → (objMeasures m l).length ≤ 751 * l.length
  | [], _, _ => by simp [objMeasures]
  | x :: l, m, h => by
    have := len_measures l (m + 1) fun p hp => h p (by simp [hp])
    obtain ⟨_, h1, h2⟩ := h x (by simp)
    have := len_cells x.cells.l m 0 h2
    simp only [objMeasures, List.length_append, List.length_cons]; omega
theorem len_spanners : ∀ (l : List Spanner) i, (objSpanners i l).length = l.length
  | [], _ => rfl
  | x :: l, i => by simp [objSpanners, len_spanners l]
theorem staves_le : ∀ l : List Part, (∀ p ∈ l, p.staves.l.length ≤ 10) → stavesOf l ≤ 10 * l.length
  | [], _ => by simp [stavesOf]
  | p :: l, h => by
    have := staves_le l fun q hq => h q (by simp [hq])
    have := h p (by simp)
    have e : stavesOf (p :: l) = p.staves.l.length + stavesOf l := by simp [stavesOf]
    simp only [List.length_cons]; omega
theorem Score.small.Tame {s : Score} (h : s.small) : Tame s := by
  obtain ⟨h1, h2, h3, h4, h5, h6⟩ := h
  refine ⟨?_, by have := staves_le _ h2; omega, by omega, by omega, by omega, fun m y hy => ?_, fun m y c q hy hq => ?_, fun m y c q v z hy hq hz => ?_⟩
  · have := len_parts _ 0 0 h2
    have := len_measures _ 0 h4
    have := len_spanners s.spanners.l 0
    simp only [objs, List.length_append]; omega
  · have := (h4 y (List.mem_of_getElem? hy)).2.1; omega
  · have := ((h4 y (List.mem_of_getElem? hy)).2.2 q (List.mem_of_getElem? hq)).2.1; omega
  · have := (((h4 y (List.mem_of_getElem? hy)).2.2 q (List.mem_of_getElem? hq)).2.2 z (List.mem_of_getElem? hz)).1; omega
theorem Voice.small_short (v : Voice) : v.short.small := by
  have e : v.short.events.l = (v.events.l.take 5).map Event.short := l_of
  have e2 : v.short.tuplets.l = v.tuplets.l.take 3 := sl_take_len
  refine ⟨by rw [e]; simp; omega, by rw [e2]; simp; omega, fun x hx => ?_⟩
  rw [e] at hx
  obtain ⟨w, _, rfl⟩ := List.mem_map.1 hx
  exact w.tame_short
theorem Cell.small_short (v : Cell) : v.short.small := by
  have e : v.short.voices.l = (v.voices.l.take 3).map Voice.short := l_of
  have e2 : v.short.clefs.l = v.clefs.l.take 3 := sl_take_len
  refine ⟨by rw [e2]; simp; omega, by rw [e]; simp; omega, fun x hx => ?_⟩
  rw [e] at hx
  obtain ⟨w, _, rfl⟩ := List.mem_map.1 hx
  exact w.small_short
theorem Measure.small_short (v : Measure) : v.short.small := by
  have e : v.short.cells.l = (v.cells.l.take 6).map Cell.short := l_of
  have e2 : v.short.tempi.l = v.tempi.l.take 3 := sl_take_len
  refine ⟨by rw [e2]; simp; omega, by rw [e]; simp; omega, fun x hx => ?_⟩
  rw [e] at hx
  obtain ⟨w, _, rfl⟩ := List.mem_map.1 hx
  exact w.small_short
theorem Score.small_short (s : Score) : s.short.small := by
  have e1 : s.short.parts.l = (s.parts.l.take 4).map Part.short := l_of
  have e2 : s.short.measures.l = (s.measures.l.take 5).map Measure.short := l_of
  have e3 : s.short.spanners.l = s.spanners.l.take 6 := sl_take_len
  have e4 : s.short.last.l = s.last.l.take 4 := sl_take_len
  refine ⟨by rw [e1]; simp; omega, fun p hp => ?_, by rw [e2]; simp; omega, fun m hm => ?_, by rw [e3, List.length_take]; omega, by rw [e4, List.length_take]; omega⟩
  · rw [e1] at hp
    obtain ⟨w, _, rfl⟩ := List.mem_map.1 hp
    have : w.short.staves.l = w.staves.l.take 3 := sl_take_len
    rw [this, List.length_take]; omega
  · rw [e2] at hm
    obtain ⟨w, _, rfl⟩ := List.mem_map.1 hm
    exact w.small_short
theorem Voice.small_cl {v : Voice} (h : v.small) : v.cl.small := by
  obtain ⟨h1, h2, h3⟩ := h
  have e1 : v.cl.events.l = v.events.l := l_of
  have e2 : v.cl.tuplets.l = v.tuplets.l := l_of
  exact ⟨by rw [e1]; exact h1, by rw [e2]; exact h2, by rw [e1]; exact h3⟩
theorem Cell.small_cl {v : Cell} (h : v.small) : v.cl.small := by
  obtain ⟨h1, h2, h3⟩ := h
  have e1 : v.cl.voices.l = v.voices.l.map Voice.cl := l_of
  refine ⟨h1, by rw [e1, List.length_map]; exact h2, fun x hx => ?_⟩
  rw [e1] at hx
  obtain ⟨w, hw, rfl⟩ := List.mem_map.1 hx
  exact Voice.small_cl (h3 w hw)
theorem Measure.small_cl {v : Measure} (h : v.small) : v.cl.small := by
  obtain ⟨h1, h2, h3⟩ := h
  have e1 : v.cl.cells.l = v.cells.l.map Cell.cl := l_of
  refine ⟨h1, by rw [e1, List.length_map]; exact h2, fun x hx => ?_⟩
  rw [e1] at hx
  obtain ⟨w, hw, rfl⟩ := List.mem_map.1 hx
  exact Cell.small_cl (h3 w hw)
theorem Score.small_cl {v : Score} (h : v.small) : v.cl.small := by
  obtain ⟨h1, h2, h3, h4, h5, h6⟩ := h
  have e1 : v.cl.measures.l = v.measures.l.map Measure.cl := rfl
  refine ⟨h1, h2, by rw [e1, List.length_map]; exact h3, fun x hx => ?_, h5, h6⟩
  rw [e1] at hx
  obtain ⟨w, hw, rfl⟩ := List.mem_map.1 hx
  exact Measure.small_cl (h4 w hw)
theorem mem_set' {α : Type} {l : List α} {i : Nat} {x y : α} (h : y ∈ l.set i x) : y ∈ l ∨ y = x := by
  rcases List.mem_or_eq_of_mem_set h with h | h
  · exact .inl h
  · exact .inr h
theorem Voice.small_set {v : Voice} (h : v.small) {i : Nat} {e : Event} (he : e.tame) : (v.setE i e).small := by
  obtain ⟨h1, h2, h3⟩ := h
  refine ⟨by show (v.events.l.set i e).length ≤ 5; rw [List.length_set]; exact h1, h2, fun x hx => ?_⟩
  rcases mem_set' (show x ∈ v.events.l.set i e from hx) with h | rfl
  · exact h3 x h
  · exact he
theorem Cell.small_set {v : Cell} (h : v.small) {i : Nat} {e : Voice} (he : e.small) : (v.setV i e).small := by
  obtain ⟨h1, h2, h3⟩ := h
  refine ⟨h1, by show (v.voices.l.set i e).length ≤ 3; rw [List.length_set]; exact h2, fun x hx => ?_⟩
  rcases mem_set' (show x ∈ v.voices.l.set i e from hx) with h | rfl
  · exact h3 x h
  · exact he
theorem Measure.small_set {v : Measure} (h : v.small) {i : Nat} {e : Cell} (he : e.small) : (v.setC i e).small := by
  obtain ⟨h1, h2, h3⟩ := h
  refine ⟨h1, by show (v.cells.l.set i e).length ≤ 50; rw [List.length_set]; exact h2, fun x hx => ?_⟩
  rcases mem_set' (show x ∈ v.cells.l.set i e from hx) with h | rfl
  · exact h3 x h
  · exact he
theorem Score.small_set {v : Score} (h : v.small) {i : Nat} {e : Measure} (he : e.small) : (v.setM i e).small := by
  obtain ⟨h1, h2, h3, h4, h5, h6⟩ := h
  refine ⟨h1, h2, by show (v.measures.l.set i e).length ≤ 20; rw [List.length_set]; exact h3, fun x hx => ?_, h5, h6⟩
  rcases mem_set' (show x ∈ v.measures.l.set i e from hx) with h | rfl
  · exact h4 x h
  · exact he
theorem Score.small_pr {v : Score} (h : v.small) : v.pr.small := by
  obtain ⟨h1, h2, h3, h4, h5, h6⟩ := Score.small_cl h
  refine ⟨h1, h2, h3, h4, ?_, h6⟩
  have e1 : v.pr.spanners.l = v.spanners.l.filter fun x => isEv (objs v) x.from_ && isEv (objs v) x.to := by
    show Sl.l (v.spanners.map _) = _
    cases v.spanners <;> rfl
  rw [e1]
  exact Nat.le_trans (List.length_filter_le _ _) h5
theorem Score.small_none : Score.none.small := by
  refine ⟨by decide, fun p hp => ?_, by decide, fun p hp => ?_, by decide, by decide⟩
  · simp [Score.none, Sl.l] at hp
  · simp [Score.none, Sl.l] at hp

/-! ### Equal up to the kind of an empty list -/
theorem objVoices_cn (m c : Nat) : ∀ (l : List Voice) (v : Nat), objVoices m c v (l.map Voice.cn) = objVoices m c v l
  | [], _ => rfl
  | x :: l, v => by
    have e : x.cn.events.l = x.events.l.map Event.cn := l_of
    have e2 : ∀ (l : List Event) i, objEvents m c v i (l.map Event.cn) = objEvents m c v i l := by
      intro l
      induction l with
      | nil => intro i; rfl
      | cons y l ih => intro i; simp only [List.map_cons, objEvents, ih]; rfl
    simp only [List.map_cons, objVoices, objVoices_cn m c l, e, e2]
theorem objCells_cn (m : Nat) : ∀ (l : List Cell) (c : Nat), objCells m c (l.map Cell.cn) = objCells m c l
  | [], _ => rfl
  | x :: l, c => by
    have e : x.cn.voices.l = x.voices.l.map Voice.cn := l_of
    simp only [List.map_cons, objCells, objCells_cn m l, e, objVoices_cn]
theorem objMeasures_cn : ∀ (l : List Measure) (m : Nat), objMeasures m (l.map Measure.cn) = objMeasures m l
  | [], _ => rfl
  | x :: l, m => by
    have e : x.cn.cells.l = x.cells.l.map Cell.cn := l_of
    have e2 : oMeasure m x.cn = oMeasure m x := rfl
    simp only [List.map_cons, objMeasures, objMeasures_cn l, e, e2, objCells_cn]
theorem objParts_cn : ∀ (l : List Part) (i st : Nat), objParts i st (l.map Part.cn) = objParts i st l
  | [], _, _ => rfl
  | x :: l, i, st => by
    have e : x.cn.staves.l = x.staves.l := l_of
    have e2 : oPart i x.cn = oPart i x := rfl
    simp only [List.map_cons, objParts, objParts_cn l, e, e2]
theorem objs_cn (s : Score) : objs s.cn = objs s := by
  have e : s.cn.measures.l = s.measures.l.map Measure.cn := l_of
  have e2 : s.cn.parts.l = s.parts.l.map Part.cn := l_of
  have e3 : s.cn.spanners.l = s.spanners.l := l_of
  unfold objs
  rw [e, e2, e3, objMeasures_cn, objParts_cn]
theorem pruned_cn (a : Score) : a.pruned.cn = { a.cn with spanners := Sl.of (a.cn.spanners.l.filter fun p => isEv (objs a.cn) p.from_ && isEv (objs a.cn) p.to) } := by
  have e3 : a.cn.spanners.l = a.spanners.l := l_of
  have e4 : a.pruned.spanners.l = a.spanners.l.filter fun p => isEv (objs a) p.from_ && isEv (objs a) p.to := l_of
  rw [objs_cn, e3]
  unfold Score.cn
  rw [e4]; rfl
theorem pruned_congr {a b : Score} (h : a.cn = b.cn) : a.pruned.cn = b.pruned.cn := by rw [pruned_cn, pruned_cn, h]
theorem set_l {α : Type} {s : Sl α} {i : Nat} {x : α} (h : i < s.l.length) : Sl.l (s.set i x) = s.l.set i x := by
  rw [List.set_eq_take_append_cons_drop, if_pos h]
  simp [Sl.set, Sl.l]
theorem Score.small_setMeasure {v : Score} (h : v.small) {i : Nat} (hi : i < v.measures.l.length) {e : Measure} (he : e.small) : (v.setMeasure i e).small := by
  obtain ⟨h1, h2, h3, h4, h5, h6⟩ := h
  have e1 : (v.setMeasure i e).measures.l = v.measures.l.set i e := set_l hi
  refine ⟨h1, h2, by rw [e1, List.length_set]; exact h3, fun x hx => ?_, h5, h6⟩
  rw [e1] at hx
  rcases mem_set' hx with h | rfl
  · exact h4 x h
  · exact he
theorem Measure.small_setCell {v : Measure} (h : v.small) {i : Nat} (hi : i < v.cells.l.length) {e : Cell} (he : e.small) : (v.setCell i e).small := by
  obtain ⟨h1, h2, h3⟩ := h
  have e1 : (v.setCell i e).cells.l = v.cells.l.set i e := set_l hi
  refine ⟨h1, by rw [e1, List.length_set]; exact h2, fun x hx => ?_⟩
  rw [e1] at hx
  rcases mem_set' hx with h | rfl
  · exact h3 x h
  · exact he
theorem Cell.small_setVoice {v : Cell} (h : v.small) {i : Nat} (hi : i < v.voices.l.length) {e : Voice} (he : e.small) : (v.setVoice i e).small := by
  obtain ⟨h1, h2, h3⟩ := h
  have e1 : (v.setVoice i e).voices.l = v.voices.l.set i e := set_l hi
  refine ⟨h1, by rw [e1, List.length_set]; exact h2, fun x hx => ?_⟩
  rw [e1] at hx
  rcases mem_set' hx with h | rfl
  · exact h3 x h
  · exact he
theorem Voice.small_setEvent {v : Voice} (h : v.small) {i : Nat} (hi : i < v.events.l.length) {e : Event} (he : e.tame) : (v.setEvent i e).small := by
  obtain ⟨h1, h2, h3⟩ := h
  have e1 : (v.setEvent i e).events.l = v.events.l.set i e := set_l hi
  refine ⟨by rw [e1, List.length_set]; exact h1, h2, fun x hx => ?_⟩
  rw [e1] at hx
  rcases mem_set' hx with h | rfl
  · exact h3 x h
  · exact he
theorem Voice.cn_eq {a b : Voice} (h1 : a.events.l.map Event.cn = b.events.l.map Event.cn) (h2 : a.tuplets.l = b.tuplets.l) : a.cn = b.cn := by unfold Voice.cn; rw [h1, h2]
theorem map_cl_cn (l : List Measure) : (l.map Measure.cl).map Measure.cn = l.map Measure.cn := by
  rw [List.map_map]; congr 1; funext v; exact v.cl_cn
theorem map_cl_cn2 (l : List Cell) : (l.map Cell.cl).map Cell.cn = l.map Cell.cn := by
  rw [List.map_map]; congr 1; funext v; exact v.cl_cn
theorem map_cl_cn3 (l : List Voice) : (l.map Voice.cl).map Voice.cn = l.map Voice.cn := by
  rw [List.map_map]; congr 1; funext v; exact v.cl_cn
/-- A list of a score's measures put anew, here and there. -/
theorem setM_cn {s : Score} {i : Nat} {x y : Measure} (hi : i < s.measures.l.length) (h : x.cn = y.cn) : (s.cl.setM i x).cn = (s.setMeasure i y).cn := by
  have e1 : (s.cl.setM i x).measures.l.map Measure.cn = (s.setMeasure i y).measures.l.map Measure.cn := by
    show ((s.measures.l.map Measure.cl).set i x).map Measure.cn = (Sl.l (s.measures.set i y)).map Measure.cn
    rw [set_l hi, List.map_set, map_cl_cn, List.map_set, h]
  unfold Score.cn
  rw [e1]; rfl
theorem setC_cn {m : Measure} {i : Nat} {x y : Cell} (hi : i < m.cells.l.length) (h : x.cn = y.cn) : (m.cl.setC i x).cn = (m.setCell i y).cn := by
  have e0 : m.cl.cells.l = m.cells.l.map Cell.cl := l_of
  have e1 : (m.cl.setC i x).cells.l.map Cell.cn = (m.setCell i y).cells.l.map Cell.cn := by
    show (m.cl.cells.l.set i x).map Cell.cn = (Sl.l (m.cells.set i y)).map Cell.cn
    rw [set_l hi, e0, List.map_set, map_cl_cn2, List.map_set, h]
  unfold Measure.cn
  rw [e1]; rfl
theorem setV_cn {c : Cell} {i : Nat} {x y : Voice} (hi : i < c.voices.l.length) (h : x.cn = y.cn) : (c.cl.setV i x).cn = (c.setVoice i y).cn := by
  have e0 : c.cl.voices.l = c.voices.l.map Voice.cl := l_of
  have e1 : (c.cl.setV i x).voices.l.map Voice.cn = (c.setVoice i y).voices.l.map Voice.cn := by
    show (c.cl.voices.l.set i x).map Voice.cn = (Sl.l (c.voices.set i y)).map Voice.cn
    rw [set_l hi, e0, List.map_set, map_cl_cn3, List.map_set, h]
  unfold Cell.cn
  rw [e1]; rfl
theorem setE_cn {c : Voice} {i : Nat} {x y : Event} (hi : i < c.events.l.length) (h : x.cn = y.cn) : (c.cl.setE i x).cn = (c.setEvent i y).cn := by
  have e0 : c.cl.events.l = c.events.l := l_of
  have e2 : c.cl.tuplets.l = c.tuplets.l := l_of
  have e1 : (c.cl.setE i x).events.l.map Event.cn = (c.setEvent i y).events.l.map Event.cn := by
    show (c.cl.events.l.set i x).map Event.cn = (Sl.l (c.events.set i y)).map Event.cn
    rw [set_l hi, e0, List.map_set, List.map_set, h]
  exact Voice.cn_eq e1 e2
end Go.Hem
/- Walks: events, check, at, Next, Previous of the score. -/
set_option maxRecDepth 10000
set_option maxHeartbeats 4000000
set_option linter.unusedSimpArgs false
set_option linter.unusedVariables false
namespace Go.Hem
variable {pol : Pol}
def evs (s : Score) (m c v : Int) : Sl Event :=
  if m < 0 then none else
  match s.measures.l[m.toNat]? with
  | none => none
  | some y => if c < 0 then none else
    match y.cells.l[c.toNat]? with
    | none => none
    | some q => if v < 0 then none else
      match q.voices.l[v.toNat]? with
      | none => none
      | some z => z.events
theorem at_none {α : Type} {l : List α} {i : Int} (h : ¬ i < 0) (h1 : ¬ i < (l.length : Int)) : l[i.toNat]? = none := List.getElem?_eq_none (by omega)
theorem at_some {α : Type} {l : List α} {i : Int} (h : ¬ i < 0) (h1 : i < (l.length : Int)) : ∃ y, l[i.toNat]? = some y := ⟨_, List.getElem?_eq_getElem (by omega)⟩
theorem events_pv (s : Score) (m c v : Int) : Pv prog pol 80 [s.enc, .sc (.int .i64 m), .sc (.int .i64 c), .sc (.int .i64 v)] (slm Event.enc (evs s m c v)) := by
  refine Pv_of' ok80 (by simp only [AV.closedBs, AV.closedB, Score.enc_closed, Bool.and_self]) ?_
  by_cases h1 : m < 0
  · simp -implicitDefEqProofs (maxDischargeDepth := 12) only [wpF, cf80, WW,List.replicate,e_splice,if_true,if_false,ite_true,ite_false,true_or,ne_eq,Nat.reduceAdd,Nat.reduceSub,Nat.reduceMul,Nat.reduceLeDiff,Nat.reduceEqDiff,Nat.reduceGT,Nat.reduceLT,Int.reduceLE,Int.reduceLT,Int.reduceToNat,Int.reduceAdd,reduceCtorEq,h_putc,beq_self_eq_true,eq_self,exists_eq_left,exists_eq_left', s.enc_eq, h1]
    rw [evs, if_pos h1]; exact frz_sc
  by_cases h2 : m < (s.measures.l.length : Int)
  rotate_left
  · have h2' : (s.measures.l.length : Int) ≤ m := by omega
    simp -implicitDefEqProofs (maxDischargeDepth := 12) only [wpF, cf80, WW,List.replicate,e_splice,if_true,if_false,ite_true,ite_false,true_or,ne_eq,Nat.reduceAdd,Nat.reduceSub,Nat.reduceMul,Nat.reduceLeDiff,Nat.reduceEqDiff,Nat.reduceGT,Nat.reduceLT,Int.reduceLE,Int.reduceLT,Int.reduceToNat,Int.reduceAdd,reduceCtorEq,h_putc,beq_self_eq_true,eq_self,exists_eq_left,exists_eq_left', s.enc_eq, h1, h2']
    rw [evs, if_neg h1, at_none h1 h2]; exact frz_sc
  have h2' : ¬ (s.measures.l.length : Int) ≤ m := by omega
  have hm0 : 0 ≤ m := by omega
  obtain ⟨y, hy⟩ := at_some h1 h2
  by_cases h3 : c < 0
  · simp -implicitDefEqProofs (maxDischargeDepth := 12) only [wpF, cf80, WW,List.replicate,e_splice,if_true,if_false,ite_true,ite_false,true_or,ne_eq,Nat.reduceAdd,Nat.reduceSub,Nat.reduceMul,Nat.reduceLeDiff,Nat.reduceEqDiff,Nat.reduceGT,Nat.reduceLT,Int.reduceLE,Int.reduceLT,Int.reduceToNat,Int.reduceAdd,reduceCtorEq,h_putc,beq_self_eq_true,eq_self,exists_eq_left,exists_eq_left', s.enc_eq, h1, h2', hm0, hy, y.enc_eq, h3]
    rw [evs, if_neg h1, hy]; simp only [if_pos h3]; exact frz_sc
  by_cases h4 : c < (y.cells.l.length : Int)
  rotate_left
  · have h4' : (y.cells.l.length : Int) ≤ c := by omega
    simp -implicitDefEqProofs (maxDischargeDepth := 12) only [wpF, cf80, WW,List.replicate,e_splice,if_true,if_false,ite_true,ite_false,true_or,ne_eq,Nat.reduceAdd,Nat.reduceSub,Nat.reduceMul,Nat.reduceLeDiff,Nat.reduceEqDiff,Nat.reduceGT,Nat.reduceLT,Int.reduceLE,Int.reduceLT,Int.reduceToNat,Int.reduceAdd,reduceCtorEq,h_putc,beq_self_eq_true,eq_self,exists_eq_left,exists_eq_left', s.enc_eq, h1, h2', hm0, hy, y.enc_eq, h3, h4']
    rw [evs, if_neg h1, hy]; simp only [if_neg h3, at_none h3 h4]; exact frz_sc
  have h4' : ¬ (y.cells.l.length : Int) ≤ c := by omega
  have hc0 : 0 ≤ c := by omega
  obtain ⟨q, hq⟩ := at_some h3 h4
  by_cases h5 : v < 0
  · simp -implicitDefEqProofs (maxDischargeDepth := 12) only [wpF, cf80, WW,List.replicate,e_splice,if_true,if_false,ite_true,ite_false,true_or,ne_eq,Nat.reduceAdd,Nat.reduceSub,Nat.reduceMul,Nat.reduceLeDiff,Nat.reduceEqDiff,Nat.reduceGT,Nat.reduceLT,Int.reduceLE,Int.reduceLT,Int.reduceToNat,Int.reduceAdd,reduceCtorEq,h_putc,beq_self_eq_true,eq_self,exists_eq_left,exists_eq_left', s.enc_eq, h1, h2', hm0, hy, y.enc_eq, h3, h4', hc0, hq, q.enc_eq, h5]
    rw [evs, if_neg h1, hy]; simp only [if_neg h3, hq, if_pos h5]; exact frz_sc
  by_cases h6 : v < (q.voices.l.length : Int)
  rotate_left
  · have h6' : (q.voices.l.length : Int) ≤ v := by omega
    simp -implicitDefEqProofs (maxDischargeDepth := 12) only [wpF, cf80, WW,List.replicate,e_splice,if_true,if_false,ite_true,ite_false,true_or,ne_eq,Nat.reduceAdd,Nat.reduceSub,Nat.reduceMul,Nat.reduceLeDiff,Nat.reduceEqDiff,Nat.reduceGT,Nat.reduceLT,Int.reduceLE,Int.reduceLT,Int.reduceToNat,Int.reduceAdd,reduceCtorEq,h_putc,beq_self_eq_true,eq_self,exists_eq_left,exists_eq_left', s.enc_eq, h1, h2', hm0, hy, y.enc_eq, h3, h4', hc0, hq, q.enc_eq, h5, h6']
    rw [evs, if_neg h1, hy]; simp only [if_neg h3, hq, if_neg h5, at_none h5 h6]; exact frz_sc
  have h6' : ¬ (q.voices.l.length : Int) ≤ v := by omega
  have hv0 : 0 ≤ v := by omega
  obtain ⟨z, hz⟩ := at_some h5 h6
  simp -implicitDefEqProofs (maxDischargeDepth := 12) only [wpF, cf80, WW,List.replicate,e_splice,if_true,if_false,ite_true,ite_false,true_or,ne_eq,Nat.reduceAdd,Nat.reduceSub,Nat.reduceMul,Nat.reduceLeDiff,Nat.reduceEqDiff,Nat.reduceGT,Nat.reduceLT,Int.reduceLE,Int.reduceLT,Int.reduceToNat,Int.reduceAdd,reduceCtorEq,h_putc,beq_self_eq_true,eq_self,exists_eq_left,exists_eq_left', s.enc_eq, h1, h2', hm0, hy, y.enc_eq, h3, h4', hc0, hq, q.enc_eq, h5, h6', hv0, hz, z.enc_eq]
  have e : evs s m c v = z.events := by rw [evs, if_neg h1, hy]; simp only [if_neg h3, hq, if_neg h5, hz]
  rw [e]
  exact frz_slm Event.enc_closed

def okP (s : Score) (p : Place) : Prop := p.kind = 4 ∧ 0 ≤ p.event ∧ p.event < ((evs s p.measure p.staff p.voice).l.length : Int)
instance (s : Score) (p : Place) : Decidable (okP s p) := by unfold okP; infer_instance
def chk (s : Score) (p : Place) : Int := if p.kind ≠ 4 then 11 else if okP s p then 0 else 2
theorem check_pv (hp : pol.pure 80 = true) (s : Score) (p : Place) : Pv prog pol 79 [s.enc, p.enc] (.sc (.int .i64 (chk s p))) := by
  refine Pv_of' ok79 (by simp only [AV.closedBs, AV.closedB, Score.enc_closed, Place.enc_closed, Bool.and_self]) ?_
  unfold chk okP
  by_cases h1 : p.kind = 4
  rotate_left
  · simp -implicitDefEqProofs (maxDischargeDepth := 12) only [wpF, cf79, WW,List.replicate,e_splice,if_true,if_false,ite_true,ite_false,true_or,ne_eq,Nat.reduceAdd,Nat.reduceSub,Nat.reduceMul,Nat.reduceLeDiff,Nat.reduceEqDiff,Nat.reduceGT,Nat.reduceLT,Int.reduceLE,Int.reduceLT,Int.reduceToNat,Int.reduceAdd,reduceCtorEq,h_putc,beq_self_eq_true,eq_self,exists_eq_left,exists_eq_left', s.enc_eq, p.enc_eq, h1]
    exact frz_sc
  by_cases h2 : p.event < 0
  · simp -implicitDefEqProofs (maxDischargeDepth := 12) only [wpF, cf79, WW,List.replicate,e_splice,if_true,if_false,ite_true,ite_false,true_or,ne_eq,Nat.reduceAdd,Nat.reduceSub,Nat.reduceMul,Nat.reduceLeDiff,Nat.reduceEqDiff,Nat.reduceGT,Nat.reduceLT,Int.reduceLE,Int.reduceLT,Int.reduceToNat,Int.reduceAdd,reduceCtorEq,h_putc,beq_self_eq_true,eq_self,exists_eq_left,exists_eq_left', s.enc_eq, p.enc_eq, h1, h2]
    rw [if_neg (by omega)]
    exact frz_sc
  simp -implicitDefEqProofs (maxDischargeDepth := 12) only [wpF, cf79, WW,List.replicate,e_splice,if_true,if_false,ite_true,ite_false,true_or,ne_eq,Nat.reduceAdd,Nat.reduceSub,Nat.reduceMul,Nat.reduceLeDiff,Nat.reduceEqDiff,Nat.reduceGT,Nat.reduceLT,Int.reduceLE,Int.reduceLT,Int.reduceToNat,Int.reduceAdd,reduceCtorEq,h_putc,beq_self_eq_true,eq_self,exists_eq_left,exists_eq_left', s.enc_eq, p.enc_eq, h1, h2]
  rw [← s.enc_eq]
  refine wA_pure hp (events_pv s p.measure p.staff p.voice) ?_
  have h3 : 0 ≤ p.event := by omega
  by_cases h4 : p.event < ((evs s p.measure p.staff p.voice).l.length : Int)
  · have h4' : ¬ ((evs s p.measure p.staff p.voice).l.length : Int) ≤ p.event := by omega
    simp -implicitDefEqProofs (maxDischargeDepth := 12) only [WW,List.replicate,e_splice,if_true,if_false,ite_true,ite_false,true_or,ne_eq,Nat.reduceAdd,Nat.reduceSub,Nat.reduceMul,Nat.reduceLeDiff,Nat.reduceEqDiff,Nat.reduceGT,Nat.reduceLT,Int.reduceLE,Int.reduceLT,Int.reduceToNat,Int.reduceAdd,reduceCtorEq,h_putc,beq_self_eq_true,eq_self,exists_eq_left,exists_eq_left', h4, h4', h3]
    exact frz_sc
  · have h4' : ((evs s p.measure p.staff p.voice).l.length : Int) ≤ p.event := by omega
    simp -implicitDefEqProofs (maxDischargeDepth := 12) only [WW,List.replicate,e_splice,if_true,if_false,ite_true,ite_false,true_or,ne_eq,Nat.reduceAdd,Nat.reduceSub,Nat.reduceMul,Nat.reduceLeDiff,Nat.reduceEqDiff,Nat.reduceGT,Nat.reduceLT,Int.reduceLE,Int.reduceLT,Int.reduceToNat,Int.reduceAdd,reduceCtorEq,h_putc,beq_self_eq_true,eq_self,exists_eq_left,exists_eq_left', h4, h4', h3]
    exact frz_sc

def mkP (m c v e : Int) : Place := ⟨4, 0, c, m, v, e, 0⟩
theorem chk_ok {s : Score} {p : Place} : chk s p = 0 ↔ okP s p := by
  unfold chk
  by_cases h : p.kind ≠ 4
  · rw [if_pos h]; constructor
    · intro e; cases e
    · intro o; exact absurd o.1 h
  · rw [if_neg h]
    by_cases o : okP s p
    · rw [if_pos o]; simp [o]
    · rw [if_neg o]; simp [o]
end Go.Hem
/- Neighbours: the plain law. -/
set_option maxRecDepth 10000
set_option linter.unusedSimpArgs false
set_option linter.unusedVariables false
namespace Go.Hem
def Place.z (p : Place) : Place := { p with part := 0, spanner := 0 }
def evPlaces (s : Score) : List Place := ((objs s).filter fun o => decide (o.place.kind = 4)).map (·.place)

theorem mem_objEvents {m c v : Nat} {q : Place} : ∀ {l : List Event} {e : Nat}, (∃ o ∈ objEvents m c v e l, o.place = q) ↔ ∃ i : Nat, i < l.length ∧ q = mkP m c v ((e + i : Nat) : Int)
  | [], e => by simp [objEvents]
  | x :: l, e => by
    simp only [objEvents, List.mem_cons, exists_eq_or_imp, mem_objEvents (l := l) (e := e + 1), List.length_cons]
    constructor
    · rintro (h | ⟨i, h, rfl⟩)
      · exact ⟨0, by omega, by rw [← h]; rfl⟩
      · exact ⟨i + 1, by omega, by congr 1; omega⟩
    · rintro ⟨i, h, rfl⟩
      cases i with
      | zero => exact .inl rfl
      | succ i => exact .inr ⟨i, by omega, by congr 1; omega⟩
theorem mem_objVoices {m c : Nat} {q : Place} : ∀ {l : List Voice} {v : Nat}, (∃ o ∈ objVoices m c v l, o.place = q) ↔ ∃ (j i : Nat) (z : Voice), l[j]? = some z ∧ i < z.events.l.length ∧ q = mkP m c ((v + j : Nat) : Int) i
  | [], v => by simp [objVoices]
  | x :: l, v => by
    simp only [objVoices, List.mem_append, or_and_right, exists_or, mem_objEvents, mem_objVoices (l := l) (v := v + 1)]
    constructor
    · rintro (⟨i, h, rfl⟩ | ⟨j, i, z, h, hi, rfl⟩)
      · exact ⟨0, i, x, rfl, h, by congr 1; omega⟩
      · exact ⟨j + 1, i, z, h, hi, by congr 1; omega⟩
    · rintro ⟨j, i, z, h, hi, rfl⟩
      cases j with
      | zero => cases h; exact .inl ⟨i, hi, by congr 1; omega⟩
      | succ j => exact .inr ⟨j, i, z, h, hi, by congr 1; omega⟩
theorem mem_objCells {m : Nat} {q : Place} : ∀ {l : List Cell} {c : Nat}, (∃ o ∈ objCells m c l, o.place = q) ↔ ∃ (k j i : Nat) (y : Cell) (z : Voice), l[k]? = some y ∧ y.voices.l[j]? = some z ∧ i < z.events.l.length ∧ q = mkP m ((c + k : Nat) : Int) j i
  | [], c => by simp [objCells]
  | x :: l, c => by
    simp only [objCells, List.mem_append, or_and_right, exists_or, mem_objVoices, mem_objCells (l := l) (c := c + 1)]
    constructor
    · rintro (⟨j, i, z, h, hi, rfl⟩ | ⟨k, j, i, y, z, h0, h, hi, rfl⟩)
      · exact ⟨0, j, i, x, z, rfl, h, hi, by congr 1; omega⟩
      · exact ⟨k + 1, j, i, y, z, h0, h, hi, by congr 1; omega⟩
    · rintro ⟨k, j, i, y, z, h0, h, hi, rfl⟩
      cases k with
      | zero => cases h0; exact .inl ⟨j, i, z, h, hi, by congr 1; omega⟩
      | succ k => exact .inr ⟨k, j, i, y, z, h0, h, hi, by congr 1; omega⟩
theorem mem_objMeasures {q : Place} (hq : q.kind = 4) : ∀ {l : List Measure} {m : Nat}, (∃ o ∈ objMeasures m l, o.place = q) ↔ ∃ (a k j i : Nat) (u : Measure) (y : Cell) (z : Voice), l[a]? = some u ∧ u.cells.l[k]? = some y ∧ y.voices.l[j]? = some z ∧ i < z.events.l.length ∧ q = mkP ((m + a : Nat) : Int) k j i
  | [], m => by simp [objMeasures]
  | x :: l, m => by
    have e : ¬ (oMeasure m x).place = q := fun e => by rw [← e] at hq; simp [oMeasure] at hq
    have st : (∃ o ∈ objMeasures m (x :: l), o.place = q) ↔ (∃ o ∈ objCells m 0 x.cells.l, o.place = q) ∨ (∃ o ∈ objMeasures (m + 1) l, o.place = q) := by
      simp only [objMeasures, List.mem_cons, List.mem_append]
      constructor
      · rintro ⟨o, rfl | h | h, h2⟩
        · exact absurd h2 e
        · exact .inl ⟨o, h, h2⟩
        · exact .inr ⟨o, h, h2⟩
      · rintro (⟨o, h, h2⟩ | ⟨o, h, h2⟩)
        · exact ⟨o, .inr (.inl h), h2⟩
        · exact ⟨o, .inr (.inr h), h2⟩
    rw [st, mem_objCells, mem_objMeasures hq]
    constructor
    · rintro (⟨k, j, i, y, z, h0, h, hi, rfl⟩ | ⟨a, k, j, i, u, y, z, h1, h0, h, hi, rfl⟩)
      · exact ⟨0, k, j, i, x, y, z, rfl, h0, h, hi, by congr 1; omega⟩
      · exact ⟨a + 1, k, j, i, u, y, z, h1, h0, h, hi, by congr 1; omega⟩
    · rintro ⟨a, k, j, i, u, y, z, h1, h0, h, hi, rfl⟩
      cases a with
      | zero => cases h1; exact .inl ⟨k, j, i, y, z, h0, h, hi, by congr 1; omega⟩
      | succ a => exact .inr ⟨a, k, j, i, u, y, z, h1, h0, h, hi, by congr 1; omega⟩
theorem evs_at {s : Score} {a k j : Nat} {u : Measure} {y : Cell} {z : Voice} (h1 : s.measures.l[a]? = some u) (h2 : u.cells.l[k]? = some y) (h3 : y.voices.l[j]? = some z) : evs s a k j = z.events := by
  unfold evs
  rw [if_neg (by omega)]
  simp only [Int.toNat_natCast, h1]
  rw [if_neg (by omega)]
  simp only [h2]
  rw [if_neg (by omega)]
  simp only [h3]
theorem evs_inv {s : Score} {m c v : Int} (h : 0 < (evs s m c v).l.length) : ∃ (a k j : Nat) (u : Measure) (y : Cell) (z : Voice), m = a ∧ c = k ∧ v = j ∧ s.measures.l[a]? = some u ∧ u.cells.l[k]? = some y ∧ y.voices.l[j]? = some z := by
  unfold evs at h
  by_cases h1 : m < 0
  · rw [if_pos h1] at h; simp [Sl.l] at h
  rw [if_neg h1] at h
  cases hy : s.measures.l[m.toNat]? with
  | none => rw [hy] at h; simp [Sl.l] at h
  | some u =>
    rw [hy] at h
    simp only at h
    by_cases h3 : c < 0
    · rw [if_pos h3] at h; simp [Sl.l] at h
    rw [if_neg h3] at h
    cases hq : u.cells.l[c.toNat]? with
    | none => rw [hq] at h; simp [Sl.l] at h
    | some y =>
      rw [hq] at h
      simp only at h
      by_cases h5 : v < 0
      · rw [if_pos h5] at h; simp [Sl.l] at h
      rw [if_neg h5] at h
      cases hz : y.voices.l[v.toNat]? with
      | none => rw [hz] at h; simp [Sl.l] at h
      | some z => exact ⟨m.toNat, c.toNat, v.toNat, u, y, z, by omega, by omega, by omega, hy, hq, hz⟩
theorem mem_evPlaces {s : Score} {q : Place} : q ∈ evPlaces s ↔ q = q.z ∧ okP s q := by
  unfold evPlaces
  simp only [List.mem_map, List.mem_filter, decide_eq_true_eq]
  constructor
  · rintro ⟨o, ⟨h, hk⟩, rfl⟩
    simp only [objs, List.mem_append] at h
    rcases h with h | h | h
    · exfalso
      have h1 : ∀ (l : List Staff) st, ∀ o ∈ objStaves st l, o.place.kind = 2 := by
        intro l; induction l with
        | nil => intro st o h; simp [objStaves] at h
        | cons x l ih => intro st o h; simp only [objStaves, List.mem_cons] at h; rcases h with rfl | h; · rfl
                         · exact ih _ o h
      have h2 : ∀ (l : List Part) i st, ∀ o ∈ objParts i st l, o.place.kind = 1 ∨ o.place.kind = 2 := by
        intro l; induction l with
        | nil => intro i st o h; simp [objParts] at h
        | cons x l ih => intro i st o h; simp only [objParts, List.mem_cons, List.mem_append] at h; rcases h with rfl | h | h; · exact .inl rfl
                         · exact .inr (h1 _ _ o h)
                         · exact ih _ _ o h
      rcases h2 _ _ _ o h with e | e <;> omega
    · obtain ⟨a, k, j, i, u, y, z, h1, h2, h3, hi, e⟩ := (mem_objMeasures hk).1 ⟨o, h, rfl⟩
      rw [e]
      refine ⟨rfl, rfl, ?_, ?_⟩
      · show (0 : Int) ≤ (i : Int); omega
      · show (i : Int) < ((evs s ((0 + a : Nat) : Int) k j).l.length : Int)
        rw [Nat.zero_add, evs_at h1 h2 h3]; omega
    · exfalso
      have h7 : ∀ (l : List Spanner) i, ∀ o ∈ objSpanners i l, o.place.kind = 5 := by
        intro l; induction l with
        | nil => intro i o h; simp [objSpanners] at h
        | cons x l ih => intro i o h; simp only [objSpanners, List.mem_cons] at h; rcases h with rfl | h; · rfl
                         · exact ih _ o h
      have := h7 _ _ o h; omega
  · rintro ⟨hz, hk, h0, h1⟩
    obtain ⟨a, k, j, u, y, z, ea, ek, ej, g1, g2, g3⟩ := evs_inv (s := s) (m := q.measure) (c := q.staff) (v := q.voice) (by omega)
    rw [ea, ek, ej, evs_at g1 g2 g3] at h1
    have : ∃ o ∈ objMeasures 0 s.measures.l, o.place = q := (mem_objMeasures hk).2 ⟨a, k, j, q.event.toNat, u, y, z, g1, g2, g3, by omega, by
      rw [hz]
      obtain ⟨x1, x2, x3, x4, x5, x6, x7⟩ := q
      simp only [Place.z, mkP, Place.mk.injEq] at *
      refine ⟨hk, trivial, ek, ?_, ej, ?_, trivial⟩
      · omega
      · omega⟩
    obtain ⟨o, ho, e⟩ := this
    exact ⟨o, ⟨by simp only [objs, List.mem_append]; exact .inr (.inl ho), by rw [e]; exact hk⟩, e⟩

end Go.Hem
/- Walks: the reference's events, Has, Next, Previous. -/
set_option maxRecDepth 10000
set_option maxHeartbeats 4000000
set_option linter.unusedSimpArgs false
set_option linter.unusedVariables false
namespace Go.Hem
variable {pol : Pol}
theorem row_Place : RowOf 7 Place.enc := ⟨by decide, fun _ => ⟨rfl, rfl⟩⟩
theorem revents_pv (hp : pol.pure 16 = true) (s : Score) (hT : Tame s) : Pv prog pol 82 [s.enc] (slm Place.enc (Sl.of (evPlaces s))) := by
  refine Pv_of' ok82 (by simp only [AV.closedBs, Score.enc_closed, Bool.and_self]) ?_
  simp -implicitDefEqProofs (maxDischargeDepth := 12) only [wpF, cf82, WW,List.replicate,e_splice,if_true,if_false,ite_true,ite_false,true_or,ne_eq,Nat.reduceAdd,Nat.reduceSub,Nat.reduceMul,Nat.reduceLeDiff,Nat.reduceEqDiff,Nat.reduceGT,Nat.reduceLT,Int.reduceLE,Int.reduceLT,Int.reduceToNat,Int.reduceAdd,reduceCtorEq,h_putc,beq_self_eq_true,eq_self,exists_eq_left,exists_eq_left', s.enc_eq]
  rw [← s.enc_eq]
  refine wA_pure hp (robjects_pv s hT) ?_
  simp -implicitDefEqProofs (maxDischargeDepth := 12) only [WW,List.replicate,e_splice,if_true,if_false,ite_true,ite_false,true_or,ne_eq,Nat.reduceAdd,Nat.reduceSub,Nat.reduceMul,Nat.reduceLeDiff,Nat.reduceEqDiff,Nat.reduceGT,Nat.reduceLT,Int.reduceLE,Int.reduceLT,Int.reduceToNat,Int.reduceAdd,reduceCtorEq,h_putc,beq_self_eq_true,eq_self,exists_eq_left,exists_eq_left']
  have hb := hT.objs
  refine wp_loop (Inv := fun k t H => ∃ (i : Nat) (fp : List Nat) (a : AV), i + k = (objs s).length ∧ H.cells 0 = some s.enc.cells ∧ Acc 1 7 Place.enc H a (Sl.of ((((objs s).take i).filter fun o => decide (o.place.kind = 4)).map (·.place))) fp ∧ (∀ b ∈ fp, 1 ≤ b) ∧
    ∃ x : Nat → AV, t = [s.enc, .ptr 0 0, .sc .nils, a, slm O.enc (Sl.of (objs s)), .sc (.int .i64 i), x 6, x 7, x 8, x 9, x 10, x 11, x 12, x 13, x 14, x 15, x 16, x 17, x 18, x 19, x 20, x 21, x 22, x 23, x 24, x 25, x 26, x 27, x 28, x 29]) (k := (objs s).length) ?_
    ⟨0, [], _, by omega, ?_, acc_none, by simp, ex_x rfl⟩
  rotate_left
  · simp -implicitDefEqProofs (maxDischargeDepth := 12) only [WW,List.replicate,e_splice,if_true,if_false,ite_true,ite_false,true_or,ne_eq,Nat.reduceAdd,Nat.reduceSub,Nat.reduceMul,Nat.reduceLeDiff,Nat.reduceEqDiff,Nat.reduceGT,Nat.reduceLT,Int.reduceLE,Int.reduceLT,Int.reduceToNat,Int.reduceAdd,reduceCtorEq,h_putc,beq_self_eq_true,eq_self,exists_eq_left,exists_eq_left']; rfl
  rintro k t H ⟨i, fp, a, hk, hH0, hA, hfp, x, rfl⟩
  by_cases h1 : (i : Int) < ((objs s).length : Int)
  · obtain ⟨o, ho⟩ : ∃ y, (objs s)[i]? = some y := ⟨_, List.getElem?_eq_getElem (by omega)⟩
    have e2 : IntKind.i64.wrap ((i : Int) + 1) = ((i + 1 : Nat) : Int) := by rw [w64 (by omega) (by omega)]; omega
    by_cases h2 : o.place.kind = 4
    · have ek : (((objs s).take (i + 1)).filter fun o => decide (o.place.kind = 4)).map (·.place) = (((objs s).take i).filter fun o => decide (o.place.kind = 4)).map (·.place) ++ [o.place] := by
        rw [List.take_add_one, ho, List.filter_append, List.map_append]; simp [h2]
      simp -implicitDefEqProofs (maxDischargeDepth := 12) only [WW,List.replicate,e_splice,if_true,if_false,ite_true,ite_false,true_or,ne_eq,Nat.reduceAdd,Nat.reduceSub,Nat.reduceMul,Nat.reduceLeDiff,Nat.reduceEqDiff,Nat.reduceGT,Nat.reduceLT,Int.reduceLE,Int.reduceLT,Int.reduceToNat,Int.reduceAdd,reduceCtorEq,h_putc,beq_self_eq_true,eq_self,exists_eq_left,exists_eq_left', l_of, h1, ho, o.enc_eq, h2]
      refine wA_app2 row_Place hA (by repeat (first | exact Keep.refl | refine Keep.put (by (try simp only [AHeap.next_alloc, AHeap.next_put]); omega) ?_ | refine Keep.alloc (by (try simp only [AHeap.next_alloc, AHeap.next_put]); omega) ?_)) (by simp) (ys := [o.place]) (by simp) rfl (asrc_new (by simp) rfl) (own_one (Place.enc_plain _) (by rw [o.place.enc_eq, h2])) Apart.nil_right ?_ ?_
      · rw [l_of]
        have := List.length_filter_le (fun o : O => decide (o.place.kind = 4)) ((objs s).take i)
        simp only [List.length_map, List.length_take, List.length_cons, List.length_nil] at this ⊢; omega
      intro v' H2 fp' hA' hn2 hk2 hfp2 ho2 hc2
      rw [of_snoc', ← ek] at hA'
      have g0 := (hk2 0 (fun h => by have := hfp 0 h; omega) (h_lt hH0)).trans hH0
      have hfp3 : ∀ b ∈ fp', 1 ≤ b := fun b hb => by
        rcases hfp2 b hb with h | h | h
        · exact hfp b h
        · simp at h
        · have := h_lt hH0; omega
      simp -implicitDefEqProofs (maxDischargeDepth := 12) only [WW,List.replicate,e_splice,if_true,if_false,ite_true,ite_false,true_or,ne_eq,Nat.reduceAdd,Nat.reduceSub,Nat.reduceMul,Nat.reduceLeDiff,Nat.reduceEqDiff,Nat.reduceGT,Nat.reduceLT,Int.reduceLE,Int.reduceLT,Int.reduceToNat,Int.reduceAdd,reduceCtorEq,h_putc,beq_self_eq_true,eq_self,exists_eq_left,exists_eq_left', e2]
      exact ⟨k - 1, by omega, i + 1, fp', v', by omega, g0, hA', hfp3, ex_x rfl⟩
    · have ek : (((objs s).take (i + 1)).filter fun o => decide (o.place.kind = 4)).map (·.place) = (((objs s).take i).filter fun o => decide (o.place.kind = 4)).map (·.place) := by
        rw [List.take_add_one, ho, List.filter_append, List.map_append]; simp [h2]
      simp -implicitDefEqProofs (maxDischargeDepth := 12) only [WW,List.replicate,e_splice,if_true,if_false,ite_true,ite_false,true_or,ne_eq,Nat.reduceAdd,Nat.reduceSub,Nat.reduceMul,Nat.reduceLeDiff,Nat.reduceEqDiff,Nat.reduceGT,Nat.reduceLT,Int.reduceLE,Int.reduceLT,Int.reduceToNat,Int.reduceAdd,reduceCtorEq,h_putc,beq_self_eq_true,eq_self,exists_eq_left,exists_eq_left', l_of, h1, ho, o.enc_eq, h2, e2]
      exact ⟨k - 1, by omega, i + 1, fp, a, by omega, hH0, by rw [ek]; exact hA, hfp, ex_x rfl⟩
  · have ek : (objs s).take i = objs s := List.take_of_length_le (by omega)
    simp -implicitDefEqProofs (maxDischargeDepth := 12) only [WW,List.replicate,e_splice,if_true,if_false,ite_true,ite_false,true_or,ne_eq,Nat.reduceAdd,Nat.reduceSub,Nat.reduceMul,Nat.reduceLeDiff,Nat.reduceEqDiff,Nat.reduceGT,Nat.reduceLT,Int.reduceLE,Int.reduceLT,Int.reduceToNat,Int.reduceAdd,reduceCtorEq,h_putc,beq_self_eq_true,eq_self,exists_eq_left,exists_eq_left', l_of, h1]
    rw [ek] at hA
    exact hA.frz row_Place (by omega)
theorem place_eq {a b : Place} : (decide (a.kind = b.kind) && (decide (a.part = b.part) && (decide (a.staff = b.staff) && (decide (a.measure = b.measure) && (decide (a.voice = b.voice) && (decide (a.event = b.event) && decide (a.spanner = b.spanner))))))) = decide (a = b) := by
  cases a; cases b; simp only [Place.mk.injEq, Bool.decide_and]
theorem evPlaces_len {s : Score} (hT : Tame s) : (evPlaces s).length < 1000000 := by
  unfold evPlaces
  have := List.length_filter_le (fun o : O => decide (o.place.kind = 4)) (objs s)
  have := hT.objs
  simp only [List.length_map]; omega
theorem has_pv (hp : pol.pure 16 = true) (hp2 : pol.pure 82 = true) (s : Score) (hT : Tame s) (p : Place) : Pv prog pol 49 [s.enc, p.enc] (.sc (.bool (decide (p.z ∈ evPlaces s)))) := by
  refine Pv_of' ok49 (by simp only [AV.closedBs, Score.enc_closed, Place.enc_closed, Bool.and_self]) ?_
  have hb := evPlaces_len hT
  simp -implicitDefEqProofs (maxDischargeDepth := 12) only [wpF, cf49, WW,List.replicate,e_splice,if_true,if_false,ite_true,ite_false,true_or,ne_eq,Nat.reduceAdd,Nat.reduceSub,Nat.reduceMul,Nat.reduceLeDiff,Nat.reduceEqDiff,Nat.reduceGT,Nat.reduceLT,Int.reduceLE,Int.reduceLT,Int.reduceToNat,Int.reduceAdd,reduceCtorEq,h_putc,beq_self_eq_true,eq_self,exists_eq_left,exists_eq_left', s.enc_eq, p.enc_eq]
  rw [← s.enc_eq, ← p.enc_eq]
  refine wA_pure hp2 (revents_pv hp s hT) ?_
  simp -implicitDefEqProofs (maxDischargeDepth := 12) only [WW,List.replicate,e_splice,if_true,if_false,ite_true,ite_false,true_or,ne_eq,Nat.reduceAdd,Nat.reduceSub,Nat.reduceMul,Nat.reduceLeDiff,Nat.reduceEqDiff,Nat.reduceGT,Nat.reduceLT,Int.reduceLE,Int.reduceLT,Int.reduceToNat,Int.reduceAdd,reduceCtorEq,h_putc,beq_self_eq_true,eq_self,exists_eq_left,exists_eq_left']
  refine wp_loop (Inv := fun k t H => ∃ (i : Nat), i + k = (evPlaces s).length ∧ H.cells 1 = some p.z.enc.cells ∧ (p.z ∈ evPlaces s ↔ p.z ∈ (evPlaces s).drop i) ∧
    ∃ x : Nat → AV, t = [s.enc, p.enc, .ptr 0 0, .ptr 1 0, .sc (.bool false), slm Place.enc (Sl.of (evPlaces s)), .sc (.int .i64 i), x 7, x 8, x 9, x 10, x 11, x 12, x 13, x 14, x 15, x 16, x 17, x 18, x 19, x 20, x 21, x 22]) (k := (evPlaces s).length) ?_
    ⟨0, by omega, ?_, by simp, ex_x rfl⟩
  rotate_left
  · simp -implicitDefEqProofs (maxDischargeDepth := 12) only [WW,List.replicate,e_splice,if_true,if_false,ite_true,ite_false,true_or,ne_eq,Nat.reduceAdd,Nat.reduceSub,Nat.reduceMul,Nat.reduceLeDiff,Nat.reduceEqDiff,Nat.reduceGT,Nat.reduceLT,Int.reduceLE,Int.reduceLT,Int.reduceToNat,Int.reduceAdd,reduceCtorEq,h_putc,beq_self_eq_true,eq_self,exists_eq_left,exists_eq_left']; rfl
  rintro k t H ⟨i, hk, hH1, hm, x, rfl⟩
  simp only [p.z.enc_eq, c_agg] at hH1
  by_cases h1 : (i : Int) < ((evPlaces s).length : Int)
  · obtain ⟨o, ho⟩ : ∃ y, (evPlaces s)[i]? = some y := ⟨_, List.getElem?_eq_getElem (by omega)⟩
    have e2 : IntKind.i64.wrap ((i : Int) + 1) = ((i + 1 : Nat) : Int) := by rw [w64 (by omega) (by omega)]; omega
    rw [drop_cons ho, List.mem_cons] at hm
    by_cases h2 : o = p.z
    · simp -implicitDefEqProofs (maxDischargeDepth := 12) only [WW,List.replicate,e_splice,if_true,if_false,ite_true,ite_false,true_or,ne_eq,Nat.reduceAdd,Nat.reduceSub,Nat.reduceMul,Nat.reduceLeDiff,Nat.reduceEqDiff,Nat.reduceGT,Nat.reduceLT,Int.reduceLE,Int.reduceLT,Int.reduceToNat,Int.reduceAdd,reduceCtorEq,h_putc,beq_self_eq_true,eq_self,exists_eq_left,exists_eq_left', hH1, l_of, h1, ho, o.enc_eq, p.z.enc_eq, place_eq, h2]
      rw [decide_eq_true (hm.2 (.inl h2.symm))]
      exact frz_sc
    · simp -implicitDefEqProofs (maxDischargeDepth := 12) only [WW,List.replicate,e_splice,if_true,if_false,ite_true,ite_false,true_or,ne_eq,Nat.reduceAdd,Nat.reduceSub,Nat.reduceMul,Nat.reduceLeDiff,Nat.reduceEqDiff,Nat.reduceGT,Nat.reduceLT,Int.reduceLE,Int.reduceLT,Int.reduceToNat,Int.reduceAdd,reduceCtorEq,h_putc,beq_self_eq_true,eq_self,exists_eq_left,exists_eq_left', hH1, l_of, h1, ho, o.enc_eq, place_eq, h2, e2]
      exact ⟨k - 1, by omega, i + 1, by omega, rfl, hm.trans ⟨fun h => h.resolve_left fun e => h2 e.symm, .inr⟩, ex_x rfl⟩
  · simp -implicitDefEqProofs (maxDischargeDepth := 12) only [WW,List.replicate,e_splice,if_true,if_false,ite_true,ite_false,true_or,ne_eq,Nat.reduceAdd,Nat.reduceSub,Nat.reduceMul,Nat.reduceLeDiff,Nat.reduceEqDiff,Nat.reduceGT,Nat.reduceLT,Int.reduceLE,Int.reduceLT,Int.reduceToNat,Int.reduceAdd,reduceCtorEq,h_putc,beq_self_eq_true,eq_self,exists_eq_left,exists_eq_left', hH1, l_of, h1]
    rw [drop_end h1] at hm
    rw [decide_eq_false (fun h => by have := hm.1 h; simp at this)]
    exact frz_sc
theorem has_iff {s : Score} {p : Place} : p.z ∈ evPlaces s ↔ okP s p := by
  rw [mem_evPlaces]; exact ⟨fun h => h.2, fun h => ⟨rfl, h⟩⟩
theorem has_yes (hp : pol.pure 16 = true) (hp2 : pol.pure 82 = true) {s : Score} (hT : Tame s) {p : Place} (h : okP s p) : Pv prog pol 49 [s.enc, p.enc] (.sc (.bool true)) := by
  have := has_pv hp hp2 s hT p
  rw [decide_eq_true (has_iff.2 h)] at this; exact this
theorem has_no (hp : pol.pure 16 = true) (hp2 : pol.pure 82 = true) {s : Score} (hT : Tame s) {p : Place} (h : ¬ okP s p) : Pv prog pol 49 [s.enc, p.enc] (.sc (.bool false)) := by
  have := has_pv hp hp2 s hT p
  rw [decide_eq_false fun e => h (has_iff.1 e)] at this; exact this
end Go.Hem
/- Walks: EventAt and SetEvent. -/
set_option maxRecDepth 10000
set_option maxHeartbeats 4000000
set_option linter.unusedSimpArgs false
set_option linter.unusedVariables false
namespace Go.Hem
variable {pol : Pol}
/-- As events_pv, in any heap. -/
theorem events_ev (H : AHeap) (s : Score) (m c v : Int) : Ev prog pol (.call 80 [s.enc, .sc (.int .i64 m), .sc (.int .i64 c), .sc (.int .i64 v)]) H fun o H' => o = .val (slm Event.enc (evs s m c v)) ∧ H' = H.alloc (.cells s.enc.cells) := by
  refine (wpF_ok ok80 (Q := fun u H' => u = slm Event.enc (evs s m c v) ∧ H' = H.alloc (.cells s.enc.cells)) ?_).mono ?_
  rotate_left
  · rintro o H' ⟨u, rfl, rfl, rfl⟩; exact ⟨rfl, rfl⟩
  by_cases h1 : m < 0
  · simp -implicitDefEqProofs (maxDischargeDepth := 12) only [wpF, cf80, WW,List.replicate,e_splice,if_true,if_false,ite_true,ite_false,true_or,ne_eq,Nat.reduceAdd,Nat.reduceSub,Nat.reduceMul,Nat.reduceLeDiff,Nat.reduceEqDiff,Nat.reduceGT,Nat.reduceLT,Int.reduceLE,Int.reduceLT,Int.reduceToNat,Int.reduceAdd,reduceCtorEq,h_putc,beq_self_eq_true,eq_self,exists_eq_left,exists_eq_left', s.enc_eq, h1]
    rw [evs, if_pos h1]; first | exact ⟨rfl, rfl⟩ | rfl
  by_cases h2 : m < (s.measures.l.length : Int)
  rotate_left
  · have h2' : (s.measures.l.length : Int) ≤ m := by omega
    simp -implicitDefEqProofs (maxDischargeDepth := 12) only [wpF, cf80, WW,List.replicate,e_splice,if_true,if_false,ite_true,ite_false,true_or,ne_eq,Nat.reduceAdd,Nat.reduceSub,Nat.reduceMul,Nat.reduceLeDiff,Nat.reduceEqDiff,Nat.reduceGT,Nat.reduceLT,Int.reduceLE,Int.reduceLT,Int.reduceToNat,Int.reduceAdd,reduceCtorEq,h_putc,beq_self_eq_true,eq_self,exists_eq_left,exists_eq_left', s.enc_eq, h1, h2']
    rw [evs, if_neg h1, at_none h1 h2]; first | exact ⟨rfl, rfl⟩ | rfl
  have h2' : ¬ (s.measures.l.length : Int) ≤ m := by omega
  have hm0 : 0 ≤ m := by omega
  obtain ⟨y, hy⟩ := at_some h1 h2
  by_cases h3 : c < 0
  · simp -implicitDefEqProofs (maxDischargeDepth := 12) only [wpF, cf80, WW,List.replicate,e_splice,if_true,if_false,ite_true,ite_false,true_or,ne_eq,Nat.reduceAdd,Nat.reduceSub,Nat.reduceMul,Nat.reduceLeDiff,Nat.reduceEqDiff,Nat.reduceGT,Nat.reduceLT,Int.reduceLE,Int.reduceLT,Int.reduceToNat,Int.reduceAdd,reduceCtorEq,h_putc,beq_self_eq_true,eq_self,exists_eq_left,exists_eq_left', s.enc_eq, h1, h2', hm0, hy, y.enc_eq, h3]
    rw [evs, if_neg h1, hy]; simp only [if_pos h3]; first | exact ⟨rfl, rfl⟩ | rfl
  by_cases h4 : c < (y.cells.l.length : Int)
  rotate_left
  · have h4' : (y.cells.l.length : Int) ≤ c := by omega
    simp -implicitDefEqProofs (maxDischargeDepth := 12) only [wpF, cf80, WW,List.replicate,e_splice,if_true,if_false,ite_true,ite_false,true_or,ne_eq,Nat.reduceAdd,Nat.reduceSub,Nat.reduceMul,Nat.reduceLeDiff,Nat.reduceEqDiff,Nat.reduceGT,Nat.reduceLT,Int.reduceLE,Int.reduceLT,Int.reduceToNat,Int.reduceAdd,reduceCtorEq,h_putc,beq_self_eq_true,eq_self,exists_eq_left,exists_eq_left', s.enc_eq, h1, h2', hm0, hy, y.enc_eq, h3, h4']
    rw [evs, if_neg h1, hy]; simp only [if_neg h3, at_none h3 h4]; first | exact ⟨rfl, rfl⟩ | rfl
  have h4' : ¬ (y.cells.l.length : Int) ≤ c := by omega
  have hc0 : 0 ≤ c := by omega
  obtain ⟨q, hq⟩ := at_some h3 h4
  by_cases h5 : v < 0
  · simp -implicitDefEqProofs (maxDischargeDepth := 12) only [wpF, cf80, WW,List.replicate,e_splice,if_true,if_false,ite_true,ite_false,true_or,ne_eq,Nat.reduceAdd,Nat.reduceSub,Nat.reduceMul,Nat.reduceLeDiff,Nat.reduceEqDiff,Nat.reduceGT,Nat.reduceLT,Int.reduceLE,Int.reduceLT,Int.reduceToNat,Int.reduceAdd,reduceCtorEq,h_putc,beq_self_eq_true,eq_self,exists_eq_left,exists_eq_left', s.enc_eq, h1, h2', hm0, hy, y.enc_eq, h3, h4', hc0, hq, q.enc_eq, h5]
    rw [evs, if_neg h1, hy]; simp only [if_neg h3, hq, if_pos h5]; first | exact ⟨rfl, rfl⟩ | rfl
  by_cases h6 : v < (q.voices.l.length : Int)
  rotate_left
  · have h6' : (q.voices.l.length : Int) ≤ v := by omega
    simp -implicitDefEqProofs (maxDischargeDepth := 12) only [wpF, cf80, WW,List.replicate,e_splice,if_true,if_false,ite_true,ite_false,true_or,ne_eq,Nat.reduceAdd,Nat.reduceSub,Nat.reduceMul,Nat.reduceLeDiff,Nat.reduceEqDiff,Nat.reduceGT,Nat.reduceLT,Int.reduceLE,Int.reduceLT,Int.reduceToNat,Int.reduceAdd,reduceCtorEq,h_putc,beq_self_eq_true,eq_self,exists_eq_left,exists_eq_left', s.enc_eq, h1, h2', hm0, hy, y.enc_eq, h3, h4', hc0, hq, q.enc_eq, h5, h6']
    rw [evs, if_neg h1, hy]; simp only [if_neg h3, hq, if_neg h5, at_none h5 h6]; first | exact ⟨rfl, rfl⟩ | rfl
  have h6' : ¬ (q.voices.l.length : Int) ≤ v := by omega
  have hv0 : 0 ≤ v := by omega
  obtain ⟨z, hz⟩ := at_some h5 h6
  simp -implicitDefEqProofs (maxDischargeDepth := 12) only [wpF, cf80, WW,List.replicate,e_splice,if_true,if_false,ite_true,ite_false,true_or,ne_eq,Nat.reduceAdd,Nat.reduceSub,Nat.reduceMul,Nat.reduceLeDiff,Nat.reduceEqDiff,Nat.reduceGT,Nat.reduceLT,Int.reduceLE,Int.reduceLT,Int.reduceToNat,Int.reduceAdd,reduceCtorEq,h_putc,beq_self_eq_true,eq_self,exists_eq_left,exists_eq_left', s.enc_eq, h1, h2', hm0, hy, y.enc_eq, h3, h4', hc0, hq, q.enc_eq, h5, h6', hv0, hz, z.enc_eq]
  have e : evs s m c v = z.events := by rw [evs, if_neg h1, hy]; simp only [if_neg h3, hq, if_neg h5, hz]
  rw [e]

/-- As check_pv, where events is not run by itself. -/
theorem check_pv2 (hp : pol.pure 80 = false) (s : Score) (p : Place) : Pv prog pol 79 [s.enc, p.enc] (.sc (.int .i64 (chk s p))) := by
  refine Pv_of' ok79 (by simp only [AV.closedBs, AV.closedB, Score.enc_closed, Place.enc_closed, Bool.and_self]) ?_
  unfold chk okP
  by_cases h1 : p.kind = 4
  rotate_left
  · simp -implicitDefEqProofs (maxDischargeDepth := 12) only [wpF, cf79, WW,List.replicate,e_splice,if_true,if_false,ite_true,ite_false,true_or,ne_eq,Nat.reduceAdd,Nat.reduceSub,Nat.reduceMul,Nat.reduceLeDiff,Nat.reduceEqDiff,Nat.reduceGT,Nat.reduceLT,Int.reduceLE,Int.reduceLT,Int.reduceToNat,Int.reduceAdd,reduceCtorEq,h_putc,beq_self_eq_true,eq_self,exists_eq_left,exists_eq_left', s.enc_eq, p.enc_eq, h1]
    exact frz_sc
  by_cases h2 : p.event < 0
  · simp -implicitDefEqProofs (maxDischargeDepth := 12) only [wpF, cf79, WW,List.replicate,e_splice,if_true,if_false,ite_true,ite_false,true_or,ne_eq,Nat.reduceAdd,Nat.reduceSub,Nat.reduceMul,Nat.reduceLeDiff,Nat.reduceEqDiff,Nat.reduceGT,Nat.reduceLT,Int.reduceLE,Int.reduceLT,Int.reduceToNat,Int.reduceAdd,reduceCtorEq,h_putc,beq_self_eq_true,eq_self,exists_eq_left,exists_eq_left', s.enc_eq, p.enc_eq, h1, h2]
    rw [if_neg (by omega)]
    exact frz_sc
  simp -implicitDefEqProofs (maxDischargeDepth := 12) only [wpF, cf79, WW,List.replicate,e_splice,if_true,if_false,ite_true,ite_false,true_or,ne_eq,Nat.reduceAdd,Nat.reduceSub,Nat.reduceMul,Nat.reduceLeDiff,Nat.reduceEqDiff,Nat.reduceGT,Nat.reduceLT,Int.reduceLE,Int.reduceLT,Int.reduceToNat,Int.reduceAdd,reduceCtorEq,h_putc,beq_self_eq_true,eq_self,exists_eq_left,exists_eq_left', s.enc_eq, p.enc_eq, h1, h2]
  rw [← s.enc_eq]
  refine wA_call hp ((events_ev _ s p.measure p.staff p.voice).mono ?_)
  rintro o H' ⟨rfl, rfl⟩
  refine ⟨_, rfl, by simp -implicitDefEqProofs (maxDischargeDepth := 12) only [WW,List.replicate,e_splice,if_true,if_false,ite_true,ite_false,true_or,ne_eq,Nat.reduceAdd,Nat.reduceSub,Nat.reduceMul,Nat.reduceLeDiff,Nat.reduceEqDiff,Nat.reduceGT,Nat.reduceLT,Int.reduceLE,Int.reduceLT,Int.reduceToNat,Int.reduceAdd,reduceCtorEq,h_putc,beq_self_eq_true,eq_self,exists_eq_left,exists_eq_left', s.enc_eq], ?_⟩
  have h3 : 0 ≤ p.event := by omega
  by_cases h4 : p.event < ((evs s p.measure p.staff p.voice).l.length : Int)
  · have h4' : ¬ ((evs s p.measure p.staff p.voice).l.length : Int) ≤ p.event := by omega
    simp -implicitDefEqProofs (maxDischargeDepth := 12) only [WW,List.replicate,e_splice,if_true,if_false,ite_true,ite_false,true_or,ne_eq,Nat.reduceAdd,Nat.reduceSub,Nat.reduceMul,Nat.reduceLeDiff,Nat.reduceEqDiff,Nat.reduceGT,Nat.reduceLT,Int.reduceLE,Int.reduceLT,Int.reduceToNat,Int.reduceAdd,reduceCtorEq,h_putc,beq_self_eq_true,eq_self,exists_eq_left,exists_eq_left', h4, h4', h3]
    exact frz_sc
  · have h4' : ((evs s p.measure p.staff p.voice).l.length : Int) ≤ p.event := by omega
    simp -implicitDefEqProofs (maxDischargeDepth := 12) only [WW,List.replicate,e_splice,if_true,if_false,ite_true,ite_false,true_or,ne_eq,Nat.reduceAdd,Nat.reduceSub,Nat.reduceMul,Nat.reduceLeDiff,Nat.reduceEqDiff,Nat.reduceGT,Nat.reduceLT,Int.reduceLE,Int.reduceLT,Int.reduceToNat,Int.reduceAdd,reduceCtorEq,h_putc,beq_self_eq_true,eq_self,exists_eq_left,exists_eq_left', h4, h4', h3]
    exact frz_sc

theorem frz_tup {I : Bool} {d : Nat} {H : AHeap} {vs us : List AV} {fp : List Nat} (h : OwnL (OwnX I d) H vs us fp) (hd : d ≤ 19) : Frz (.tup vs) H (.tup us) := by
  obtain ⟨H1, h1, h2, _⟩ := freezeL_own (O := OwnX I 19) (fun H v u f => freezeV_own) (fun H H' v u f a b => OwnX.frame a b) (h.mono hd)
  exact ⟨H1, by show freezeV 20 _ _ = _; rw [fz_tup, h1]; rfl, by rw [cl_tup]; exact h2⟩
/-- The event at a place. -/
def evAt (s : Score) (p : Place) : Event := ((evs s p.measure p.staff p.voice).l[p.event.toNat]?).getD default
def Event.none : Event := ⟨⟨0, 0⟩, 0, ⟨0, 0⟩, Option.none, Option.none, 0, 0, 0, Option.none, 0, 0⟩
def EvPol (pol : Pol) : Prop := pol.pure 79 = true ∧ pol.pure 80 = false ∧ pol.pure 97 = false ∧ pol.pure 129 = false ∧ pol.pure 130 = false ∧ pol.pure 131 = false
theorem plain_ev (e : Int) : AV.plain (.tup [Event.none.enc, .sc (.int .i64 e)]) = true := rfl
theorem eventAt_er (hp : EvPol pol) (s : Score) (p : Place) (h : ¬ okP s p) : Pv prog pol 47 [s.enc, p.enc] (.tup [Event.none.enc, .sc (.int .i64 (chk s p))]) := by
  refine Pv_of' ok47 (by simp only [AV.closedBs, AV.closedB, Score.enc_closed, Place.enc_closed, Bool.and_self]) ?_
  have hc : ¬ chk s p = 0 := fun e => h (chk_ok.1 e)
  simp -implicitDefEqProofs (maxDischargeDepth := 12) only [wpF, cf47, WW,List.replicate,e_splice,if_true,if_false,ite_true,ite_false,true_or,ne_eq,Nat.reduceAdd,Nat.reduceSub,Nat.reduceMul,Nat.reduceLeDiff,Nat.reduceEqDiff,Nat.reduceGT,Nat.reduceLT,Int.reduceLE,Int.reduceLT,Int.reduceToNat,Int.reduceAdd,reduceCtorEq,h_putc,beq_self_eq_true,eq_self,exists_eq_left,exists_eq_left', s.enc_eq, p.enc_eq]
  rw [← s.enc_eq, ← p.enc_eq]
  refine wA_pure hp.1 (check_pv2 hp.2.1 s p) ?_
  simp -implicitDefEqProofs (maxDischargeDepth := 12) only [WW,List.replicate,e_splice,if_true,if_false,ite_true,ite_false,true_or,ne_eq,Nat.reduceAdd,Nat.reduceSub,Nat.reduceMul,Nat.reduceLeDiff,Nat.reduceEqDiff,Nat.reduceGT,Nat.reduceLT,Int.reduceLE,Int.reduceLT,Int.reduceToNat,Int.reduceAdd,reduceCtorEq,h_putc,beq_self_eq_true,eq_self,exists_eq_left,exists_eq_left', hc]
  exact frz_plain rfl (plain_ev _)
theorem eventAt_ok (hp : EvPol pol) (s : Score) (p : Place) (h : okP s p) (he : (evAt s p).tame) : Pv prog pol 47 [s.enc, p.enc] (.tup [(evAt s p).enc, .sc (.int .i64 0)]) := by
  refine Pv_of' ok47 (by simp only [AV.closedBs, AV.closedB, Score.enc_closed, Place.enc_closed, Bool.and_self]) ?_
  obtain ⟨hp1, hp2, hp3, hp4, hp5, hp6⟩ := hp
  have hc : chk s p = 0 := chk_ok.2 h
  obtain ⟨h1, h2, h3⟩ := h
  obtain ⟨x, hx⟩ := at_some (by omega : ¬ p.event < 0) h3
  have hxe : evAt s p = x := by unfold evAt; rw [hx]; rfl
  rw [hxe] at he ⊢
  simp -implicitDefEqProofs (maxDischargeDepth := 12) only [wpF, cf47, WW,List.replicate,e_splice,if_true,if_false,ite_true,ite_false,true_or,ne_eq,Nat.reduceAdd,Nat.reduceSub,Nat.reduceMul,Nat.reduceLeDiff,Nat.reduceEqDiff,Nat.reduceGT,Nat.reduceLT,Int.reduceLE,Int.reduceLT,Int.reduceToNat,Int.reduceAdd,reduceCtorEq,h_putc,beq_self_eq_true,eq_self,exists_eq_left,exists_eq_left', s.enc_eq, p.enc_eq]
  rw [← s.enc_eq, ← p.enc_eq]
  refine wA_pure hp1 (check_pv2 hp2 s p) ?_
  rw [hc]
  simp -implicitDefEqProofs (maxDischargeDepth := 12) only [WW,List.replicate,e_splice,if_true,if_false,ite_true,ite_false,true_or,ne_eq,Nat.reduceAdd,Nat.reduceSub,Nat.reduceMul,Nat.reduceLeDiff,Nat.reduceEqDiff,Nat.reduceGT,Nat.reduceLT,Int.reduceLE,Int.reduceLT,Int.reduceToNat,Int.reduceAdd,reduceCtorEq,h_putc,beq_self_eq_true,eq_self,exists_eq_left,exists_eq_left', s.enc_eq, p.enc_eq]
  rw [← s.enc_eq]
  refine wA_call hp2 ((events_ev _ s p.measure p.staff p.voice).mono ?_)
  rintro o H' ⟨rfl, rfl⟩
  refine ⟨_, rfl, by simp -implicitDefEqProofs (maxDischargeDepth := 12) only [WW,List.replicate,e_splice,if_true,if_false,ite_true,ite_false,true_or,ne_eq,Nat.reduceAdd,Nat.reduceSub,Nat.reduceMul,Nat.reduceLeDiff,Nat.reduceEqDiff,Nat.reduceGT,Nat.reduceLT,Int.reduceLE,Int.reduceLT,Int.reduceToNat,Int.reduceAdd,reduceCtorEq,h_putc,beq_self_eq_true,eq_self,exists_eq_left,exists_eq_left', s.enc_eq, p.enc_eq], ?_⟩
  simp -implicitDefEqProofs (maxDischargeDepth := 12) only [WW,List.replicate,e_splice,if_true,if_false,ite_true,ite_false,true_or,ne_eq,Nat.reduceAdd,Nat.reduceSub,Nat.reduceMul,Nat.reduceLeDiff,Nat.reduceEqDiff,Nat.reduceGT,Nat.reduceLT,Int.reduceLE,Int.reduceLT,Int.reduceToNat,Int.reduceAdd,reduceCtorEq,h_putc,beq_self_eq_true,eq_self,exists_eq_left,exists_eq_left', s.enc_eq, p.enc_eq, h2, hx, x.enc_eq]
  rw [← x.enc_eq]
  refine wA_call hp3 ((eClone_ok hp4 hp5 hp6 x he _).mono ?_)
  rintro o H1 ⟨cs, fp, rfl, ho, hl, hones, hF, hN, hK⟩
  refine ⟨_, rfl, by simp only [k_nil], ?_⟩
  simp -implicitDefEqProofs (maxDischargeDepth := 12) only [WW,List.replicate,e_splice,if_true,if_false,ite_true,ite_false,true_or,ne_eq,Nat.reduceAdd,Nat.reduceSub,Nat.reduceMul,Nat.reduceLeDiff,Nat.reduceEqDiff,Nat.reduceGT,Nat.reduceLT,Int.reduceLE,Int.reduceLT,Int.reduceToNat,Int.reduceAdd,reduceCtorEq,h_putc,beq_self_eq_true,eq_self,exists_eq_left,exists_eq_left', s.enc_eq] at hF hN hK
  have g2 := (hK 2 (by omega)).trans (show _ = some Event.none.enc.cells by simp -implicitDefEqProofs (maxDischargeDepth := 12) only [WW,List.replicate,e_splice,if_true,if_false,ite_true,ite_false,true_or,ne_eq,Nat.reduceAdd,Nat.reduceSub,Nat.reduceMul,Nat.reduceLeDiff,Nat.reduceEqDiff,Nat.reduceGT,Nat.reduceLT,Int.reduceLE,Int.reduceLT,Int.reduceToNat,Int.reduceAdd,reduceCtorEq,h_putc,beq_self_eq_true,eq_self,exists_eq_left,exists_eq_left', s.enc_eq]; rfl)
  simp only [Event.none, Event.enc_eq, c_agg] at g2
  have hsp : cs ++ List.drop cs.length (Event.none.enc.cells) = cs := by rw [hl]; exact List.append_nil _
  have ht : cs.take 13 = cs := List.take_of_length_le (by omega)
  have h13 : 13 ≤ cs.length := by omega
  simp only [Event.none, Event.enc_eq, c_agg] at hsp
  simp -implicitDefEqProofs (maxDischargeDepth := 12) only [WW,List.replicate,e_splice,if_true,if_false,ite_true,ite_false,true_or,ne_eq,Nat.reduceAdd,Nat.reduceSub,Nat.reduceMul,Nat.reduceLeDiff,Nat.reduceEqDiff,Nat.reduceGT,Nat.reduceLT,Int.reduceLE,Int.reduceLT,Int.reduceToNat,Int.reduceAdd,reduceCtorEq,h_putc,beq_self_eq_true,eq_self,exists_eq_left,exists_eq_left', g2, hl, hones, ht, h13]
  exact frz_tup (I := false) (d := 3) (fp := fp ++ ([] ++ [])) (.cons ⟨x.enc.cells, rfl, ho.fr fun b hb => c_put_ne (by have := hF b hb; omega)⟩ (.cons OwnX.scal .nil Apart.nil_left) Apart.nil_right) (by decide)
/-- The parts of a place that is one. -/
theorem okP_at {s : Score} {p : Place} (h : okP s p) : ∃ (i j k l : Nat) (y : Measure) (c : Cell) (v : Voice) (e : Event), p.kind = 4 ∧ p.measure = i ∧ p.staff = j ∧ p.voice = k ∧ p.event = l ∧ s.measures.l[i]? = some y ∧ y.cells.l[j]? = some c ∧ c.voices.l[k]? = some v ∧ v.events.l[l]? = some e ∧ evAt s p = e := by
  obtain ⟨h1, h2, h3⟩ := h
  have h4 : 0 < (evs s p.measure p.staff p.voice).l.length := by omega
  obtain ⟨x, hx⟩ := at_some (by omega : ¬ p.event < 0) h3
  have hxe : evAt s p = x := by unfold evAt; rw [hx]; rfl
  unfold evs at hx h4
  by_cases m1 : p.measure < 0
  · rw [if_pos m1] at h4; simp [Sl.l] at h4
  rw [if_neg m1] at hx h4
  cases hy : s.measures.l[p.measure.toNat]? with
  | none => rw [hy] at h4; simp [Sl.l] at h4
  | some y =>
    rw [hy] at hx h4
    simp only at hx h4
    by_cases m2 : p.staff < 0
    · rw [if_pos m2] at h4; simp [Sl.l] at h4
    rw [if_neg m2] at hx h4
    cases hq : y.cells.l[p.staff.toNat]? with
    | none => rw [hq] at h4; simp [Sl.l] at h4
    | some q =>
      rw [hq] at hx h4
      simp only at hx h4
      by_cases m3 : p.voice < 0
      · rw [if_pos m3] at h4; simp [Sl.l] at h4
      rw [if_neg m3] at hx h4
      cases hz : q.voices.l[p.voice.toNat]? with
      | none => rw [hz] at h4; simp [Sl.l] at h4
      | some z =>
        rw [hz] at hx h4
        exact ⟨p.measure.toNat, p.staff.toNat, p.voice.toNat, p.event.toNat, y, q, z, x, h1, by omega, by omega, by omega, by omega, hy, hq, hz, hx, hxe⟩
theorem cl_at3 {y : Cell} {j : Nat} {c : Voice} (hc : y.voices.l[j]? = some c) : y.cl.voices.l[j]? = some c.cl := by
  have e : y.cl.voices.l = y.voices.l.map Voice.cl := l_of
  rw [e, List.getElem?_map, hc]; rfl
theorem cl_at4 {y : Voice} {j : Nat} {c : Event} (hc : y.events.l[j]? = some c) : y.cl.events.l[j]? = some c := by
  have e : y.cl.events.l = y.events.l := l_of
  rw [e, hc]
theorem events_own {H : AHeap} {t : ByteArray} {wr : Bool} {v2 v4 v5 : AV} {b1 o1 q1 b2 o2 q2 b3 o3 q3 b off cap i j k n1 n2 n3 n4 : Nat} {z1 z2 z3 : List AV} (h2 : v2.one = true) (h4 : v4.one = true) (h5 : v5.one = true) (l1 : i < n1) (l2 : j < n2) (l3 : k < n3)
    (r2 : H.cells b1 = some z1) (r3 : z1[o1 + i * 22 + 21]? = some (.slice b2 o2 n2 q2 2)) (r5 : H.cells b2 = some z2) (r6 : z2[o2 + j * 2 + 1]? = some (.slice b3 o3 n3 q3 2)) (r8 : H.cells b3 = some z3) (r9 : z3[o3 + k * 2]? = some (.slice b off n4 cap 13)) :
    Ev prog pol (.call 80 [.agg [.sc (.str t), .sc (.bool wr), v2, .slice b1 o1 n1 q1 22, v4, v5], .sc (.int .i64 i), .sc (.int .i64 j), .sc (.int .i64 k)]) H fun o H' => o = .val (.slice b off n4 cap 13) ∧ H' = H.alloc (.cells [.sc (.str t), .sc (.bool wr), v2, .slice b1 o1 n1 q1 22, v4, v5]) := by
  refine (wpF_ok ok80 (Q := fun u H' => u = .slice b off n4 cap 13 ∧ H' = H.alloc (.cells [.sc (.str t), .sc (.bool wr), v2, .slice b1 o1 n1 q1 22, v4, v5])) ?_).mono ?_
  rotate_left
  · rintro o H' ⟨u, rfl, rfl, rfl⟩; exact ⟨rfl, rfl⟩
  have i0 : ¬ (i : Int) < 0 := by omega
  have j0 : ¬ (j : Int) < 0 := by omega
  have k0 : ¬ (k : Int) < 0 := by omega
  have i1 : ¬ (n1 : Int) ≤ (i : Int) := by omega
  have j1 : ¬ (n2 : Int) ≤ (j : Int) := by omega
  have k1 : ¬ (n3 : Int) ≤ (k : Int) := by omega
  have e1 : ¬ b1 = H.next := by have := h_lt r2; omega
  have e2 : ¬ b2 = H.next := by have := h_lt r5; omega
  have e3 : ¬ b3 = H.next := by have := h_lt r8; omega
  simp -implicitDefEqProofs (maxDischargeDepth := 12) only [wpF, cf80, WW,List.replicate,e_splice,if_true,if_false,ite_true,ite_false,true_or,ne_eq,Nat.reduceAdd,Nat.reduceSub,Nat.reduceMul,Nat.reduceLeDiff,Nat.reduceEqDiff,Nat.reduceGT,Nat.reduceLT,Int.reduceLE,Int.reduceLT,Int.reduceToNat,Int.reduceAdd,reduceCtorEq,h_putc,beq_self_eq_true,eq_self,exists_eq_left,exists_eq_left', h2, h4, h5, i0, j0, k0, i1, j1, k1, l1, l2, l3, e1, e2, e3, r2, r3, r5, r6, r8, r9]
theorem chg_sete (hp : EvPol pol) {H0 : AHeap} {s : Score} {e : Event} {p : Place} {be bp i j k l : Nat} (hm : H0.cells be = some e.enc.cells) (hi : H0.cells bp = some p.enc.cells) (het : e.tame) {y : Measure} {c : Cell} {v : Voice} {e0 : Event} (p1 : p.measure = i) (p2 : p.staff = j) (p3 : p.voice = k) (p4 : p.event = l)
    (hy : s.measures.l[i]? = some y) (hc : y.cells.l[j]? = some c) (hv : c.voices.l[k]? = some v) (he : v.events.l[l]? = some e0) : Chg pol 98 [.ptr be 0, .ptr bp 0] H0 s (s.cl.setM i (y.cl.setC j (c.cl.setV k (v.cl.setE l e)))) := by
  obtain ⟨hp1, hp2, hp3, hp4, hp5, hp6⟩ := hp
  intro H q R hK hq1 hq2 hqR hR hO
  refine wpF_ok ok98 (Q := fun v' H' => ∃ R', OwnScore H' q R' (s.cl.setM i (y.cl.setC j (c.cl.setV k (v.cl.setE l e)))) ∧ (∀ b ∈ R', b ∈ R ∨ H.next ≤ b) ∧ (∀ b, b < H.next → b ∉ R → H'.cells b = H.cells b) ∧ H.next ≤ H'.next) ?_ |>.mono ?_
  rotate_left
  · rintro o H' ⟨v, rfl, R', h⟩; exact ⟨v, R', rfl, h⟩
  have c1 := hK.cells hm (h_lt hm)
  have c2 := hK.cells hi (h_lt hi)
  obtain ⟨v2, v3, v4, v5, hS, F2, F3, F4, F5⟩ := own_open hO
  obtain ⟨b1, o1, q1, z1, w1, b2, o2, q2, z2, w2, b3, o3, q3, z3, w3, b, off, cap, ds, rfl, r2, r3, rfl, r5, r6, rfl, r8, r9, rfl, hd, hle, hbR, hst⟩ := store_event F3 (cl_at hy) (cl_at2 hc) (cl_at3 hv) (cl_at4 he) hqR
  have n1 : i < s.cl.measures.l.length := (List.getElem?_eq_some_iff.1 (cl_at hy)).1
  have n2 : j < y.cl.cells.l.length := (List.getElem?_eq_some_iff.1 (cl_at2 hc)).1
  have n3 : k < c.cl.voices.l.length := (List.getElem?_eq_some_iff.1 (cl_at3 hv)).1
  have n4 : l < v.cl.events.l.length := (List.getElem?_eq_some_iff.1 (cl_at4 he)).1
  simp only [e.enc_eq, p.enc_eq, c_agg, p1, p2, p3, p4] at c1 c2
  have g0 : ∀ (x : Blk) (b' : Nat), b' < H.next → (H.alloc x).cells b' = H.cells b' := fun x b' hb' => c_alloc_ne (by omega)
  have u2 : v2.one = true := by obtain ⟨f, h, _⟩ := F2; exact (own_len h).2.1
  have u4 : v4.one = true := by obtain ⟨f, h, _⟩ := F4; exact (own_len h).2.1
  have u5 : v5.one = true := by obtain ⟨f, h, _⟩ := F5; exact (own_len h).2.1
  simp -implicitDefEqProofs (maxDischargeDepth := 12) only [wpF, cf98, WW,List.replicate,e_splice,if_true,if_false,ite_true,ite_false,true_or,ne_eq,Nat.reduceAdd,Nat.reduceSub,Nat.reduceMul,Nat.reduceLeDiff,Nat.reduceEqDiff,Nat.reduceGT,Nat.reduceLT,Int.reduceLE,Int.reduceLT,Int.reduceToNat,Int.reduceAdd,reduceCtorEq,h_putc,beq_self_eq_true,eq_self,exists_eq_left,exists_eq_left', hS, c1, c2]
  refine wA_call hp2 ((events_own u2 u4 u5 n1 n2 n3 r2 r3 r5 r6 r8 r9).mono ?_)
  rintro o H' ⟨rfl, rfl⟩
  have ne : ¬ be = H.next := by have := h_lt c1; omega
  have np : ¬ bp = H.next := by have := h_lt c2; omega
  have nb : ¬ b = H.next := by have := h_lt hd; omega
  refine ⟨_, rfl, ?_⟩
  simp -implicitDefEqProofs (maxDischargeDepth := 12) only [WW,List.replicate,e_splice,if_true,if_false,ite_true,ite_false,true_or,ne_eq,Nat.reduceAdd,Nat.reduceSub,Nat.reduceMul,Nat.reduceLeDiff,Nat.reduceEqDiff,Nat.reduceGT,Nat.reduceLT,Int.reduceLE,Int.reduceLT,Int.reduceToNat,Int.reduceAdd,reduceCtorEq,h_putc,beq_self_eq_true,eq_self,exists_eq_left,exists_eq_left', c1, c2, ne, np]
  rw [← e.enc_eq]
  refine wA_call hp3 ((eClone_ok hp4 hp5 hp6 e het _).mono ?_)
  rintro o H1 ⟨ws, g, rfl, ho, hlen, hones, hF, hN, hK1⟩
  simp only [AHeap.next_alloc] at hF hN hK1
  have g1 : ∀ c, c < H.next → H1.cells c = H.cells c := fun c hc => (hK1 c (by omega)).trans (c_alloc_ne (by omega))
  have d2 := (g1 bp (h_lt c2)).trans c2
  have d3 := (g1 b (h_lt hd)).trans hd
  refine ⟨_, rfl, ?_⟩
  simp -implicitDefEqProofs (maxDischargeDepth := 12) only [WW,List.replicate,if_true,if_false,ite_true,ite_false,true_or,ne_eq,Nat.reduceAdd,Nat.reduceSub,Nat.reduceMul,Nat.reduceLeDiff,Nat.reduceEqDiff,Nat.reduceGT,Nat.reduceLT,Int.reduceLE,Int.reduceLT,Int.reduceToNat,Int.reduceAdd,reduceCtorEq,beq_self_eq_true,eq_self,exists_eq_left,exists_eq_left', c2, np, d2, d3, n4, hle, hlen, hones, cr_nil]
  have hg : ∀ c ∈ g, c ∉ R := fun c hcg hcR => by have := hF c hcg; have := (hR c hcR).2; omega
  refine ⟨R ++ g, hst e H1 ws g (fun c hcR => g1 c (hR c hcR).2) (g1 q hq2) hlen (OwnL.mono ho (by decide)) hg, fun c hcR => ?_, fun c hc2 hcR => ?_, by omega⟩
  · rcases List.mem_append.1 hcR with h | h
    · exact .inl h
    · exact .inr (by have := hF c h; omega)
  · have hcb : c ≠ b := by rintro rfl; exact hcR hbR
    rw [c_put_ne hcb, g1 c hc2]
theorem callee98 (args : List AV) : acallee prog 98 args = some (.call 98 args) := by kernel_rfl
theorem sete_er (hp : EvPol pol) (s : Score) (p : Place) (e : Event) (h : ¬ okP s p) : Pv prog pol 48 [s.enc, p.enc, e.enc] (erAV (chk s p)) := by
  refine Pv_of' ok48 (by simp only [AV.closedBs, AV.closedB, Score.enc_closed, Place.enc_closed, Event.enc_closed, Bool.and_self]) ?_
  have hc : ¬ chk s p = 0 := fun e => h (chk_ok.1 e)
  simp -implicitDefEqProofs (maxDischargeDepth := 12) only [wpF, cf48, WW,List.replicate,e_splice,if_true,if_false,ite_true,ite_false,true_or,ne_eq,Nat.reduceAdd,Nat.reduceSub,Nat.reduceMul,Nat.reduceLeDiff,Nat.reduceEqDiff,Nat.reduceGT,Nat.reduceLT,Int.reduceLE,Int.reduceLT,Int.reduceToNat,Int.reduceAdd,reduceCtorEq,h_putc,beq_self_eq_true,eq_self,exists_eq_left,exists_eq_left', s.enc_eq, p.enc_eq, e.enc_eq]
  rw [← s.enc_eq, ← p.enc_eq]
  refine wA_pure hp.1 (check_pv2 hp.2.1 s p) ?_
  simp -implicitDefEqProofs (maxDischargeDepth := 12) only [WW,List.replicate,e_splice,if_true,if_false,ite_true,ite_false,true_or,ne_eq,Nat.reduceAdd,Nat.reduceSub,Nat.reduceMul,Nat.reduceLeDiff,Nat.reduceEqDiff,Nat.reduceGT,Nat.reduceLT,Int.reduceLE,Int.reduceLT,Int.reduceToNat,Int.reduceAdd,reduceCtorEq,h_putc,beq_self_eq_true,eq_self,exists_eq_left,exists_eq_left', hc]
  exact frz_plain rfl (plain_er _)
theorem sete_ok (hp : EvPol pol) (hpr : PrPol pol) (h29 : pol.pure 29 = true) (h93 : pol.pure 93 = false) (h98 : pol.pure 98 = false) (s : Score) (hs : s.tame) (hT : Tame s) (p : Place) (e : Event) (het : e.tame) (h : okP s p) {i j k l : Nat} {y : Measure} {c : Cell} {v : Voice} {e0 : Event} (p1 : p.measure = i) (p2 : p.staff = j) (p3 : p.voice = k) (p4 : p.event = l)
    (hy : s.measures.l[i]? = some y) (hc : y.cells.l[j]? = some c) (hv : c.voices.l[k]? = some v) (he : v.events.l[l]? = some e0)
    (ha : (s.cl.setM i (y.cl.setC j (c.cl.setV k (v.cl.setE l e)))).tame) (hTa : Tame (s.cl.setM i (y.cl.setC j (c.cl.setV k (v.cl.setE l e))))) : Pv prog pol 48 [s.enc, p.enc, e.enc] (okAV (s.cl.setM i (y.cl.setC j (c.cl.setV k (v.cl.setE l e)))).pr) := by
  refine Pv_of' ok48 (by simp only [AV.closedBs, AV.closedB, Score.enc_closed, Place.enc_closed, Event.enc_closed, Bool.and_self]) ?_
  have hck : chk s p = 0 := chk_ok.2 h
  simp -implicitDefEqProofs (maxDischargeDepth := 12) only [wpF, cf48, WW,List.replicate,e_splice,if_true,if_false,ite_true,ite_false,true_or,ne_eq,Nat.reduceAdd,Nat.reduceSub,Nat.reduceMul,Nat.reduceLeDiff,Nat.reduceEqDiff,Nat.reduceGT,Nat.reduceLT,Int.reduceLE,Int.reduceLT,Int.reduceToNat,Int.reduceAdd,reduceCtorEq,h_putc,beq_self_eq_true,eq_self,exists_eq_left,exists_eq_left', s.enc_eq, p.enc_eq, e.enc_eq]
  rw [← s.enc_eq, ← p.enc_eq]
  refine wA_pure hp.1 (check_pv2 hp.2.1 s p) ?_
  rw [hck]
  simp -implicitDefEqProofs (maxDischargeDepth := 12) only [WW,List.replicate,e_splice,if_true,if_false,ite_true,ite_false,true_or,ne_eq,Nat.reduceAdd,Nat.reduceSub,Nat.reduceMul,Nat.reduceLeDiff,Nat.reduceEqDiff,Nat.reduceGT,Nat.reduceLT,Int.reduceLE,Int.reduceLT,Int.reduceToNat,Int.reduceAdd,reduceCtorEq,h_putc,beq_self_eq_true,eq_self,exists_eq_left,exists_eq_left', s.enc_eq, p.enc_eq, e.enc_eq]
  rw [← s.enc_eq]
  refine wA_call h93 ((with_ok hpr h29 s hs _ ha hTa s.parts.l rfl _ 98 _ h98 callee98 (chg_sete (be := 2) (bp := 1) hp ?_ ?_ het p1 p2 p3 p4 hy hc hv he)).mono ?_)
  · simp -implicitDefEqProofs (maxDischargeDepth := 12) only [WW,List.replicate,e_splice,if_true,if_false,ite_true,ite_false,true_or,ne_eq,Nat.reduceAdd,Nat.reduceSub,Nat.reduceMul,Nat.reduceLeDiff,Nat.reduceEqDiff,Nat.reduceGT,Nat.reduceLT,Int.reduceLE,Int.reduceLT,Int.reduceToNat,Int.reduceAdd,reduceCtorEq,h_putc,beq_self_eq_true,eq_self,exists_eq_left,exists_eq_left', e.enc_eq]
  · simp -implicitDefEqProofs (maxDischargeDepth := 12) only [WW,List.replicate,e_splice,if_true,if_false,ite_true,ite_false,true_or,ne_eq,Nat.reduceAdd,Nat.reduceSub,Nat.reduceMul,Nat.reduceLeDiff,Nat.reduceEqDiff,Nat.reduceGT,Nat.reduceLT,Int.reduceLE,Int.reduceLT,Int.reduceToNat,Int.reduceAdd,reduceCtorEq,h_putc,beq_self_eq_true,eq_self,exists_eq_left,exists_eq_left', p.enc_eq]
  rintro o H1 ⟨rfl, hK⟩
  refine ⟨_, rfl, by simp only [k_nil], ?_⟩
  have g3 : H1.cells 3 = some (Score.enc Score.none).cells := (hK 3 (by simp -implicitDefEqProofs (maxDischargeDepth := 12) only [WW,List.replicate,e_splice,if_true,if_false,ite_true,ite_false,true_or,ne_eq,Nat.reduceAdd,Nat.reduceSub,Nat.reduceMul,Nat.reduceLeDiff,Nat.reduceEqDiff,Nat.reduceGT,Nat.reduceLT,Int.reduceLE,Int.reduceLT,Int.reduceToNat,Int.reduceAdd,reduceCtorEq,h_putc,beq_self_eq_true,eq_self,exists_eq_left,exists_eq_left'])).trans (by simp -implicitDefEqProofs (maxDischargeDepth := 12) only [WW,List.replicate,e_splice,if_true,if_false,ite_true,ite_false,true_or,ne_eq,Nat.reduceAdd,Nat.reduceSub,Nat.reduceMul,Nat.reduceLeDiff,Nat.reduceEqDiff,Nat.reduceGT,Nat.reduceLT,Int.reduceLE,Int.reduceLT,Int.reduceToNat,Int.reduceAdd,reduceCtorEq,h_putc,beq_self_eq_true,eq_self,exists_eq_left,exists_eq_left']; rfl)
  simp only [Score.none, Score.enc_eq, c_agg] at g3
  simp -implicitDefEqProofs (maxDischargeDepth := 12) only [WW,List.replicate,e_splice,if_true,if_false,ite_true,ite_false,true_or,ne_eq,Nat.reduceAdd,Nat.reduceSub,Nat.reduceMul,Nat.reduceLeDiff,Nat.reduceEqDiff,Nat.reduceGT,Nat.reduceLT,Int.reduceLE,Int.reduceLT,Int.reduceToNat,Int.reduceAdd,reduceCtorEq,h_putc,beq_self_eq_true,eq_self,exists_eq_left,exists_eq_left', g3, (Score.pr _).enc_eq]
  exact frz_plain rfl (plain_ok _)
theorem rat_pv (s : Score) (p : Place) {i j k l : Nat} {y : Measure} {c : Cell} {v : Voice} {e : Event} (p1 : p.measure = i) (p2 : p.staff = j) (p3 : p.voice = k) (p4 : p.event = l)
    (hy : s.measures.l[i]? = some y) (hc : y.cells.l[j]? = some c) (hv : c.voices.l[k]? = some v) (he : v.events.l[l]? = some e) : Pv prog pol 51 [s.enc, p.enc] e.enc := by
  refine Pv_of' ok51 (by simp only [AV.closedBs, AV.closedB, Score.enc_closed, Place.enc_closed, Bool.and_self]) ?_
  simp -implicitDefEqProofs (maxDischargeDepth := 12) only [wpF, cf51, WW,List.replicate,e_splice,if_true,if_false,ite_true,ite_false,true_or,ne_eq,Nat.reduceAdd,Nat.reduceSub,Nat.reduceMul,Nat.reduceLeDiff,Nat.reduceEqDiff,Nat.reduceGT,Nat.reduceLT,Int.reduceLE,Int.reduceLT,Int.reduceToNat,Int.reduceAdd,reduceCtorEq,h_putc,beq_self_eq_true,eq_self,exists_eq_left,exists_eq_left', s.enc_eq, p.enc_eq, p1, p2, p3, p4, hy, y.enc_eq, hc, c.enc_eq, hv, v.enc_eq, he, e.enc_eq]
  exact frz_plain rfl e.enc_plain
end Go.Hem
/- The law ScoreSets, by the interpreter. -/
set_option maxRecDepth 10000
set_option maxHeartbeats 4000000
set_option linter.unusedSimpArgs false
set_option linter.unusedVariables false
namespace Go.Hem
variable {pol : Pol}
theorem zero_pv (h28 : pol.pure 28 = true) (hp : pol.pure 99 = true) (hp2 : pol.pure 50 = true) (hp3 : pol.pure 113 = true) (hp4 : pol.pure 68 = true) (a : Score) (ha : a.tame) : Pv prog pol 31 [a.enc] (.sc (.bool (decide (a.cn = Score.none.cn)))) := by
  refine Pv_of' ok31 (by simp only [AV.closedBs, Score.enc_closed, Bool.and_self]) ?_
  simp -implicitDefEqProofs (maxDischargeDepth := 12) only [wpF, cf31, WW,List.replicate,e_splice,if_true,if_false,ite_true,ite_false,true_or,ne_eq,Nat.reduceAdd,Nat.reduceSub,Nat.reduceMul,Nat.reduceLeDiff,Nat.reduceEqDiff,Nat.reduceGT,Nat.reduceLT,Int.reduceLE,Int.reduceLT,Int.reduceToNat,Int.reduceAdd,reduceCtorEq,h_putc,beq_self_eq_true,eq_self,exists_eq_left,exists_eq_left', a.enc_eq]
  rw [← a.enc_eq]
  refine wA_pure h28 (same_pv hp hp2 hp3 hp4 a Score.none ha) ?_
  simp -implicitDefEqProofs (maxDischargeDepth := 12) only [WW,List.replicate,e_splice,if_true,if_false,ite_true,ite_false,true_or,ne_eq,Nat.reduceAdd,Nat.reduceSub,Nat.reduceMul,Nat.reduceLeDiff,Nat.reduceEqDiff,Nat.reduceGT,Nat.reduceLT,Int.reduceLE,Int.reduceLT,Int.reduceToNat,Int.reduceAdd,reduceCtorEq,h_putc,beq_self_eq_true,eq_self,exists_eq_left,exists_eq_left']
  exact frz_sc
def pures9 : List Nat := [29, 30, 32, 42, 43, 44, 45, 52] ++ pures8
def Cell.none : Cell := ⟨Option.none, Option.none⟩
def Measure.first (m : Measure) : Cell := (m.cells.l[0]?).getD Cell.none
end Go.Hem
/- The law ScoreEvents, by the interpreter. -/
set_option maxRecDepth 10000
set_option maxHeartbeats 4000000
set_option linter.unusedSimpArgs false
set_option linter.unusedVariables false
namespace Go.Hem
variable {pol : Pol}
def pures10 : List Nat := ([47, 48] ++ pures9).filter (fun f => f != 80)
def polQ : Pol := ⟨fun f => pures10.contains f⟩
theorem polQ_pr : PrPol polQ := by unfold PrPol ClPol; decide
theorem polQ_ev : EvPol polQ := by unfold EvPol; decide
theorem known_run10 : okTrue (xPure (X prog polQ memo0 1000) 19 []) = true := by decide +kernel
theorem known10_pv : Pv prog polQ 19 [] (.sc (.bool true)) := pv_of_x memo0_ok rfl (okTrue_spec known_run10)
theorem tame_none : Event.none.tame := ⟨by decide, by decide, by decide⟩
theorem evAt_tame {s : Score} (hs : s.small) (p : Place) (h : okP s p) : (evAt s p).tame := by
  obtain ⟨i, j, k, l, y, c, v, e, h1, h2, h3, h4, h5, hy, hc, hv, he, hxe⟩ := okP_at h
  rw [hxe]
  exact (((hs.meas y (List.mem_of_getElem? hy)).2.2 c (List.mem_of_getElem? hc)).2.2 v (List.mem_of_getElem? hv)).2.2 e (List.mem_of_getElem? he)
/-- The answers at a place. -/
theorem case10 (s : Score) (hs : s.small) (p : Place) (x : Event) (hx : x.tame) : ∃ A T E, T.small ∧ A.tame ∧ Pv prog polQ 47 [s.enc, p.enc] (.tup [A.enc, .sc (.int .i64 E)]) ∧ Pv prog polQ 48 [s.enc, p.enc, x.enc] (.tup [T.enc, .sc (.int .i64 E)]) ∧
    ((¬ p.kind = 4 ∧ E = 11 ∧ A = Event.none ∧ T = Score.none) ∨ (p.kind = 4 ∧ ¬ okP s p ∧ E = 2 ∧ A = Event.none ∧ T = Score.none) ∨
      (p.kind = 4 ∧ okP s p ∧ E = 0 ∧ Pv prog polQ 51 [s.enc, p.enc] A.enc ∧ ∃ r : Score, Pv prog polQ 52 [s.enc, p.enc, x.enc] r.enc ∧ T.cn = r.cn)) := by
  by_cases h : okP s p
  · obtain ⟨i, j, k, l, y, c, v, e, h1, h2, h3, h4, h5, hy, hc, hv, he, hxe⟩ := okP_at h
    have hi := (List.getElem?_eq_some_iff.1 hy).1
    have hj := (List.getElem?_eq_some_iff.1 hc).1
    have hk := (List.getElem?_eq_some_iff.1 hv).1
    have hl := (List.getElem?_eq_some_iff.1 he).1
    have ys := hs.meas y (List.mem_of_getElem? hy)
    have cs := ys.2.2 c (List.mem_of_getElem? hc)
    have vs := cs.2.2 v (List.mem_of_getElem? hv)
    have hsm := Score.small_set (Score.small_cl hs) (i := i) (Measure.small_set (Measure.small_cl ys) (i := j) (Cell.small_set (Cell.small_cl cs) (i := k) (Voice.small_set (Voice.small_cl vs) (i := l) hx)))
    have hsm2 := Score.small_setMeasure hs hi (Measure.small_setCell ys hj (Cell.small_setVoice cs hk (Voice.small_setEvent vs hl hx)))
    have ha := eventAt_ok polQ_ev s p h (evAt_tame hs p h)
    rw [hxe] at ha
    refine ⟨e, (s.cl.setM i (y.cl.setC j (c.cl.setV k (v.cl.setE l x)))).pr, 0, Score.small_pr hsm, hxe ▸ evAt_tame hs p h, ha, sete_ok polQ_ev polQ_pr rfl rfl rfl s hs.tame hs.Tame p x hx h h2 h3 h4 h5 hy hc hv he hsm.tame hsm.Tame,
      .inr (.inr ⟨h1, h, rfl, rat_pv s p h2 h3 h4 h5 hy hc hv he, _, rsete_pv rfl rfl rfl rfl rfl s hs.Tame p i j k l y c v hy hc hv hl x h2 h3 h4 h5 hsm2.Tame, ?_⟩)⟩
    rw [Score.pr_cn]
    exact pruned_congr (setM_cn hi (setC_cn hj (setV_cn hk (setE_cn hl rfl))))
  · have h1 := eventAt_er polQ_ev s p h
    have h2 := sete_er polQ_ev s p x h
    refine ⟨Event.none, Score.none, chk s p, Score.small_none, tame_none, h1, h2, ?_⟩
    by_cases hk : p.kind = 4
    · exact .inr (.inl ⟨hk, h, by unfold chk; rw [if_neg (by simpa using hk), if_neg h], rfl, rfl⟩)
    · exact .inl ⟨hk, by unfold chk; rw [if_pos hk], rfl, rfl⟩
theorem own_voice1 {H : AHeap} {b : Nat} {A : Event} (h : H.cells b = some A.enc.cells) : Own 20 H (.agg [.slice b 0 1 1 13, .sc .nils]) (Voice.enc ⟨some [A], Option.none⟩) [b] := by
  have e : rows 13 1 A.enc.cells = [A.enc] := by
    have := rows_map row_Event [A]
    simpa using this
  have h1 : Own 19 H (.slice b 0 1 1 13) (slm Event.enc (some [A])) [b] := by
    refine .inr ⟨A.enc.cells, A.enc.cells, [], h, by decide, by decide, by rw [A.enc_len]; decide, ?_, by simp, fun h => by omega, ?_, rfl⟩
    · have e2 : ((A.enc.cells).drop 0).take (1 * 13) = A.enc.cells := rfl
      rw [e2]
      exact OwnL.plain (plains A.enc_plain (fun s h => by cases h) (fun s h => by cases h))
    · rw [e]; rfl
  have h2 : OwnL (Own 19) H [.slice b 0 1 1 13, .sc .nils] (Voice.enc ⟨some [A], Option.none⟩).cells ([b] ++ ([] ++ [])) := .cons h1 (.cons OwnX.scal .nil Apart.nil_left) Apart.nil_right
  exact ⟨_, rfl, by rw [show [b] = [b] ++ ([] ++ []) from rfl]; exact h2⟩
theorem sv_pvf {K : AHeap → Prop} {H : AHeap} {Q : AV → AHeap → Prop} {b c : Nat} {A B : Event} (hb : H.cells b = some A.enc.cells) (hc : H.cells c = some B.enc.cells) (hn : b ≠ c) (hA : A.tame) (h : A = B) (k : Q (.sc (.bool true)) H) : PvF prog polQ K H Q 50 [.agg [.slice b 0 1 1 13, .sc .nils], .agg [.slice c 0 1 1 13, .sc .nils]] := by
  have hv : (Voice.mk (some [A]) Option.none).tame := ⟨by show (1 : Nat) < 1000000; decide, by show (0 : Nat) < 1000000; decide, fun e he => by
    have : e ∈ [A] := he
    simp only [List.mem_singleton] at this
    rw [this]; exact hA⟩
  have := sameVoice_pv (pol := polQ) rfl ⟨some [A], Option.none⟩ ⟨some [B], Option.none⟩ hv
  rw [decide_eq_true (by rw [h])] at this
  exact pvf_own (fp := [b] ++ ([c] ++ [])) (by rfl) (.cons (own_voice1 hb) (.cons (own_voice1 hc) .nil Apart.nil_right) (fun x hx hy => by simp at hx hy; omega)) this k
theorem law10_pv (s : Score) (p : Place) (x : Event) : Pv prog polQ 10 [s.enc, p.enc, x.enc] (.sc (.bool true)) := by
  refine Pv_of' ok10 (by simp only [AV.closedBs, Score.enc_closed, Place.enc_closed, Event.enc_closed, AV.closedB, Bool.and_self]) ?_
  have hs := s.small_short
  have hx := x.tame_short
  obtain ⟨A, T, E, hTs, hAt, hA47, hT48, hcase⟩ := case10 s.short hs p x.short hx
  simp -implicitDefEqProofs (maxDischargeDepth := 12) only [wpF, cf10, WW,List.replicate,e_splice,if_true,if_false,ite_true,ite_false,true_or,ne_eq,Nat.reduceAdd,Nat.reduceSub,Nat.reduceMul,Nat.reduceLeDiff,Nat.reduceEqDiff,Nat.reduceGT,Nat.reduceLT,Int.reduceLE,Int.reduceLT,Int.reduceToNat,Int.reduceAdd,reduceCtorEq,h_putc,beq_self_eq_true,eq_self,exists_eq_left,exists_eq_left', s.enc_eq, x.enc_eq, p.enc_eq]
  rw [← s.enc_eq]
  refine wA_pure rfl (short_pv rfl rfl rfl rfl rfl s) ?_
  simp -implicitDefEqProofs (maxDischargeDepth := 12) only [WW,List.replicate,e_splice,if_true,if_false,ite_true,ite_false,true_or,ne_eq,Nat.reduceAdd,Nat.reduceSub,Nat.reduceMul,Nat.reduceLeDiff,Nat.reduceEqDiff,Nat.reduceGT,Nat.reduceLT,Int.reduceLE,Int.reduceLT,Int.reduceToNat,Int.reduceAdd,reduceCtorEq,h_putc,beq_self_eq_true,eq_self,exists_eq_left,exists_eq_left', x.enc_eq]
  rw [← x.enc_eq]
  refine wA_pure rfl (shortEvent_pv rfl x) ?_
  simp -implicitDefEqProofs (maxDischargeDepth := 12) only [WW,List.replicate,e_splice,if_true,if_false,ite_true,ite_false,true_or,ne_eq,Nat.reduceAdd,Nat.reduceSub,Nat.reduceMul,Nat.reduceLeDiff,Nat.reduceEqDiff,Nat.reduceGT,Nat.reduceLT,Int.reduceLE,Int.reduceLT,Int.reduceToNat,Int.reduceAdd,reduceCtorEq,h_putc,beq_self_eq_true,eq_self,exists_eq_left,exists_eq_left', s.short.enc_eq, x.short.enc_eq]
  rw [← s.short.enc_eq, ← p.enc_eq]
  refine wA_pure rfl hA47 ?_
  simp -implicitDefEqProofs (maxDischargeDepth := 12) only [WW,List.replicate,e_splice,if_true,if_false,ite_true,ite_false,true_or,ne_eq,Nat.reduceAdd,Nat.reduceSub,Nat.reduceMul,Nat.reduceLeDiff,Nat.reduceEqDiff,Nat.reduceGT,Nat.reduceLT,Int.reduceLE,Int.reduceLT,Int.reduceToNat,Int.reduceAdd,reduceCtorEq,h_putc,beq_self_eq_true,eq_self,exists_eq_left,exists_eq_left', s.short.enc_eq, x.short.enc_eq, A.enc_eq, p.enc_eq]
  rw [← s.short.enc_eq, ← p.enc_eq, ← x.short.enc_eq]
  refine wA_pure rfl hT48 ?_
  simp -implicitDefEqProofs (maxDischargeDepth := 12) only [WW,List.replicate,e_splice,if_true,if_false,ite_true,ite_false,true_or,ne_eq,Nat.reduceAdd,Nat.reduceSub,Nat.reduceMul,Nat.reduceLeDiff,Nat.reduceEqDiff,Nat.reduceGT,Nat.reduceLT,Int.reduceLE,Int.reduceLT,Int.reduceToNat,Int.reduceAdd,reduceCtorEq,h_putc,beq_self_eq_true,eq_self,exists_eq_left,exists_eq_left', s.short.enc_eq, x.short.enc_eq, A.enc_eq, p.enc_eq, T.enc_eq]
  generalize hH : AHeap.put _ 4 _ = H
  have hn : H.next = 5 := by subst hH; simp only [AHeap.next_put, AHeap.next_alloc]
  have k0 : H.cells 0 = some [.sc (.str s.short.title), .sc (.bool s.short.written), slm Part.enc s.short.parts, slm Measure.enc s.short.measures, slm Spanner.enc s.short.spanners, slm ID.enc s.short.last] := by subst hH; simp -implicitDefEqProofs (maxDischargeDepth := 12) only [WW,List.replicate,e_splice,if_true,if_false,ite_true,ite_false,true_or,ne_eq,Nat.reduceAdd,Nat.reduceSub,Nat.reduceMul,Nat.reduceLeDiff,Nat.reduceEqDiff,Nat.reduceGT,Nat.reduceLT,Int.reduceLE,Int.reduceLT,Int.reduceToNat,Int.reduceAdd,reduceCtorEq,h_putc,beq_self_eq_true,eq_self,exists_eq_left,exists_eq_left', s.short.enc_eq]
  have k1 : H.cells 1 = some p.enc.cells := by subst hH; simp -implicitDefEqProofs (maxDischargeDepth := 12) only [WW,List.replicate,e_splice,if_true,if_false,ite_true,ite_false,true_or,ne_eq,Nat.reduceAdd,Nat.reduceSub,Nat.reduceMul,Nat.reduceLeDiff,Nat.reduceEqDiff,Nat.reduceGT,Nat.reduceLT,Int.reduceLE,Int.reduceLT,Int.reduceToNat,Int.reduceAdd,reduceCtorEq,h_putc,beq_self_eq_true,eq_self,exists_eq_left,exists_eq_left', p.enc_eq]
  have k2 : H.cells 2 = some x.short.enc.cells := by subst hH; simp -implicitDefEqProofs (maxDischargeDepth := 12) only [WW,List.replicate,e_splice,if_true,if_false,ite_true,ite_false,true_or,ne_eq,Nat.reduceAdd,Nat.reduceSub,Nat.reduceMul,Nat.reduceLeDiff,Nat.reduceEqDiff,Nat.reduceGT,Nat.reduceLT,Int.reduceLE,Int.reduceLT,Int.reduceToNat,Int.reduceAdd,reduceCtorEq,h_putc,beq_self_eq_true,eq_self,exists_eq_left,exists_eq_left', x.short.enc_eq]
  have k3 : H.cells 3 = some A.enc.cells := by subst hH; simp -implicitDefEqProofs (maxDischargeDepth := 12) only [WW,List.replicate,e_splice,if_true,if_false,ite_true,ite_false,true_or,ne_eq,Nat.reduceAdd,Nat.reduceSub,Nat.reduceMul,Nat.reduceLeDiff,Nat.reduceEqDiff,Nat.reduceGT,Nat.reduceLT,Int.reduceLE,Int.reduceLT,Int.reduceToNat,Int.reduceAdd,reduceCtorEq,h_putc,beq_self_eq_true,eq_self,exists_eq_left,exists_eq_left', A.enc_eq]
  have k4 : H.cells 4 = some [.sc (.str T.title), .sc (.bool T.written), slm Part.enc T.parts, slm Measure.enc T.measures, slm Spanner.enc T.spanners, slm ID.enc T.last] := by subst hH; simp -implicitDefEqProofs (maxDischargeDepth := 12) only [WW,List.replicate,e_splice,if_true,if_false,ite_true,ite_false,true_or,ne_eq,Nat.reduceAdd,Nat.reduceSub,Nat.reduceMul,Nat.reduceLeDiff,Nat.reduceEqDiff,Nat.reduceGT,Nat.reduceLT,Int.reduceLE,Int.reduceLT,Int.reduceToNat,Int.reduceAdd,reduceCtorEq,h_putc,beq_self_eq_true,eq_self,exists_eq_left,exists_eq_left', T.enc_eq]
  clear hH
  simp only [p.enc_eq, x.short.enc_eq, A.enc_eq, c_agg] at k1 k2 k3
  rw [← s.short.enc_eq, ← p.enc_eq, ← x.short.enc_eq, ← A.enc_eq, ← T.enc_eq]
  refine wA_pure rfl known10_pv ?_
  simp -implicitDefEqProofs (maxDischargeDepth := 12) only [WW,List.replicate,e_splice,if_true,if_false,ite_true,ite_false,true_or,ne_eq,Nat.reduceAdd,Nat.reduceSub,Nat.reduceMul,Nat.reduceLeDiff,Nat.reduceEqDiff,Nat.reduceGT,Nat.reduceLT,Int.reduceLE,Int.reduceLT,Int.reduceToNat,Int.reduceAdd,reduceCtorEq,h_putc,beq_self_eq_true,eq_self,exists_eq_left,exists_eq_left', k1, p.enc_eq]
  have zT : ∀ X : Score, X.small → X = Score.none → Pv prog polQ 31 [X.enc] (.sc (.bool true)) := fun X h1 h2 => by
    have := zero_pv (pol := polQ) rfl rfl rfl rfl rfl X h1.tame
    rwa [decide_eq_true (by rw [h2])] at this
  have pe : p.kind = 4 → AV.agg [.sc (.int .i64 4), .sc (.int .i64 p.part), .sc (.int .i64 p.staff), .sc (.int .i64 p.measure), .sc (.int .i64 p.voice), .sc (.int .i64 p.event), .sc (.int .i64 p.spanner)] = p.enc := fun h => by rw [p.enc_eq, h]
  have z0 : ¬ (11 : Int) = 0 := by decide
  have z1 : ¬ (2 : Int) = 0 := by decide
  rcases hcase with ⟨hk, rfl, rfl, hTe⟩ | ⟨hk, ho, rfl, rfl, hTe⟩ | ⟨hk, ho, rfl, h51, r, h52, hTr⟩
  · simp -implicitDefEqProofs (maxDischargeDepth := 12) only [WW,List.replicate,e_splice,if_true,if_false,ite_true,ite_false,true_or,ne_eq,Nat.reduceAdd,Nat.reduceSub,Nat.reduceMul,Nat.reduceLeDiff,Nat.reduceEqDiff,Nat.reduceGT,Nat.reduceLT,Int.reduceLE,Int.reduceLT,Int.reduceToNat,Int.reduceAdd,reduceCtorEq,h_putc,beq_self_eq_true,eq_self,exists_eq_left,exists_eq_left', k0, k1, k3, hk, hn, z0]
    generalize hH2 : AHeap.put _ 8 _ = H2
    have hlo : ∀ c, c < 5 → H2.cells c = H.cells c := fun c hc => by
      subst hH2
      rw [c_put_ne (by omega), c_put_ne (by omega), c_alloc_ne (by simp only [AHeap.next_alloc, hn]; omega), c_alloc_ne (by simp only [AHeap.next_alloc, hn]; omega), c_alloc_ne (by simp only [AHeap.next_alloc, hn]; omega), c_alloc_ne (by omega)]
    have m0 := (hlo 0 (by decide)).trans k0
    have m1 := (hlo 1 (by decide)).trans k1
    have m2 := (hlo 2 (by decide)).trans k2
    have m4 := (hlo 4 (by decide)).trans k4
    have m5 : H2.cells 5 = some (Event.none).enc.cells := by subst hH2; simp -implicitDefEqProofs (maxDischargeDepth := 12) only [WW,List.replicate,e_splice,if_true,if_false,ite_true,ite_false,true_or,ne_eq,Nat.reduceAdd,Nat.reduceSub,Nat.reduceMul,Nat.reduceLeDiff,Nat.reduceEqDiff,Nat.reduceGT,Nat.reduceLT,Int.reduceLE,Int.reduceLT,Int.reduceToNat,Int.reduceAdd,reduceCtorEq,h_putc,beq_self_eq_true,eq_self,exists_eq_left,exists_eq_left', hn, Event.enc_eq]
    have m6 : H2.cells 6 = some Event.none.enc.cells := by subst hH2; simp -implicitDefEqProofs (maxDischargeDepth := 12) only [WW,List.replicate,e_splice,if_true,if_false,ite_true,ite_false,true_or,ne_eq,Nat.reduceAdd,Nat.reduceSub,Nat.reduceMul,Nat.reduceLeDiff,Nat.reduceEqDiff,Nat.reduceGT,Nat.reduceLT,Int.reduceLE,Int.reduceLT,Int.reduceToNat,Int.reduceAdd,reduceCtorEq,h_putc,beq_self_eq_true,eq_self,exists_eq_left,exists_eq_left', hn]; rfl
    have m7 : H2.cells 7 = some [.slice 5 0 1 1 13, .sc .nils] := by subst hH2; simp -implicitDefEqProofs (maxDischargeDepth := 12) only [WW,List.replicate,e_splice,if_true,if_false,ite_true,ite_false,true_or,ne_eq,Nat.reduceAdd,Nat.reduceSub,Nat.reduceMul,Nat.reduceLeDiff,Nat.reduceEqDiff,Nat.reduceGT,Nat.reduceLT,Int.reduceLE,Int.reduceLT,Int.reduceToNat,Int.reduceAdd,reduceCtorEq,h_putc,beq_self_eq_true,eq_self,exists_eq_left,exists_eq_left', hn]
    have m8 : H2.cells 8 = some [.slice 6 0 1 1 13, .sc .nils] := by subst hH2; simp -implicitDefEqProofs (maxDischargeDepth := 12) only [WW,List.replicate,e_splice,if_true,if_false,ite_true,ite_false,true_or,ne_eq,Nat.reduceAdd,Nat.reduceSub,Nat.reduceMul,Nat.reduceLeDiff,Nat.reduceEqDiff,Nat.reduceGT,Nat.reduceLT,Int.reduceLE,Int.reduceLT,Int.reduceToNat,Int.reduceAdd,reduceCtorEq,h_putc,beq_self_eq_true,eq_self,exists_eq_left,exists_eq_left', hn]
    clear hH2 hlo
    try simp -implicitDefEqProofs (maxDischargeDepth := 12) only [WW,List.replicate,e_splice,if_true,if_false,ite_true,ite_false,true_or,ne_eq,Nat.reduceAdd,Nat.reduceSub,Nat.reduceMul,Nat.reduceLeDiff,Nat.reduceEqDiff,Nat.reduceGT,Nat.reduceLT,Int.reduceLE,Int.reduceLT,Int.reduceToNat,Int.reduceAdd,reduceCtorEq,h_putc,beq_self_eq_true,eq_self,exists_eq_left,exists_eq_left', m7, m8]
    refine wA_pvf rfl (sv_pvf m5 m6 (by decide) tame_none rfl ?_)
    simp -implicitDefEqProofs (maxDischargeDepth := 12) only [WW,List.replicate,e_splice,if_true,if_false,ite_true,ite_false,true_or,ne_eq,Nat.reduceAdd,Nat.reduceSub,Nat.reduceMul,Nat.reduceLeDiff,Nat.reduceEqDiff,Nat.reduceGT,Nat.reduceLT,Int.reduceLE,Int.reduceLT,Int.reduceToNat,Int.reduceAdd,reduceCtorEq,h_putc,beq_self_eq_true,eq_self,exists_eq_left,exists_eq_left', m4]
    rw [← T.enc_eq]
    refine wA_pure rfl (zT T hTs hTe) ?_
    simp -implicitDefEqProofs (maxDischargeDepth := 12) only [WW,List.replicate,e_splice,if_true,if_false,ite_true,ite_false,true_or,ne_eq,Nat.reduceAdd,Nat.reduceSub,Nat.reduceMul,Nat.reduceLeDiff,Nat.reduceEqDiff,Nat.reduceGT,Nat.reduceLT,Int.reduceLE,Int.reduceLT,Int.reduceToNat,Int.reduceAdd,reduceCtorEq,h_putc,beq_self_eq_true,eq_self,exists_eq_left,exists_eq_left']
    exact frz_sc
  · simp -implicitDefEqProofs (maxDischargeDepth := 12) only [WW,List.replicate,e_splice,if_true,if_false,ite_true,ite_false,true_or,ne_eq,Nat.reduceAdd,Nat.reduceSub,Nat.reduceMul,Nat.reduceLeDiff,Nat.reduceEqDiff,Nat.reduceGT,Nat.reduceLT,Int.reduceLE,Int.reduceLT,Int.reduceToNat,Int.reduceAdd,reduceCtorEq,h_putc,beq_self_eq_true,eq_self,exists_eq_left,exists_eq_left', k0, k1, k3, hk, hn]
    rw [← s.short.enc_eq, pe hk]
    refine wA_pure rfl (has_no rfl rfl hs.Tame ho) ?_
    simp -implicitDefEqProofs (maxDischargeDepth := 12) only [WW,List.replicate,e_splice,if_true,if_false,ite_true,ite_false,true_or,ne_eq,Nat.reduceAdd,Nat.reduceSub,Nat.reduceMul,Nat.reduceLeDiff,Nat.reduceEqDiff,Nat.reduceGT,Nat.reduceLT,Int.reduceLE,Int.reduceLT,Int.reduceToNat,Int.reduceAdd,reduceCtorEq,h_putc,beq_self_eq_true,eq_self,exists_eq_left,exists_eq_left', k0, k1, k3, hk, hn, z1]
    generalize hH2 : AHeap.put _ 8 _ = H2
    have hlo : ∀ c, c < 5 → H2.cells c = H.cells c := fun c hc => by
      subst hH2
      rw [c_put_ne (by omega), c_put_ne (by omega), c_alloc_ne (by simp only [AHeap.next_alloc, hn]; omega), c_alloc_ne (by simp only [AHeap.next_alloc, hn]; omega), c_alloc_ne (by simp only [AHeap.next_alloc, hn]; omega), c_alloc_ne (by omega)]
    have m0 := (hlo 0 (by decide)).trans k0
    have m1 := (hlo 1 (by decide)).trans k1
    have m2 := (hlo 2 (by decide)).trans k2
    have m4 := (hlo 4 (by decide)).trans k4
    have m5 : H2.cells 5 = some (Event.none).enc.cells := by subst hH2; simp -implicitDefEqProofs (maxDischargeDepth := 12) only [WW,List.replicate,e_splice,if_true,if_false,ite_true,ite_false,true_or,ne_eq,Nat.reduceAdd,Nat.reduceSub,Nat.reduceMul,Nat.reduceLeDiff,Nat.reduceEqDiff,Nat.reduceGT,Nat.reduceLT,Int.reduceLE,Int.reduceLT,Int.reduceToNat,Int.reduceAdd,reduceCtorEq,h_putc,beq_self_eq_true,eq_self,exists_eq_left,exists_eq_left', hn, Event.enc_eq]
    have m6 : H2.cells 6 = some Event.none.enc.cells := by subst hH2; simp -implicitDefEqProofs (maxDischargeDepth := 12) only [WW,List.replicate,e_splice,if_true,if_false,ite_true,ite_false,true_or,ne_eq,Nat.reduceAdd,Nat.reduceSub,Nat.reduceMul,Nat.reduceLeDiff,Nat.reduceEqDiff,Nat.reduceGT,Nat.reduceLT,Int.reduceLE,Int.reduceLT,Int.reduceToNat,Int.reduceAdd,reduceCtorEq,h_putc,beq_self_eq_true,eq_self,exists_eq_left,exists_eq_left', hn]; rfl
    have m7 : H2.cells 7 = some [.slice 5 0 1 1 13, .sc .nils] := by subst hH2; simp -implicitDefEqProofs (maxDischargeDepth := 12) only [WW,List.replicate,e_splice,if_true,if_false,ite_true,ite_false,true_or,ne_eq,Nat.reduceAdd,Nat.reduceSub,Nat.reduceMul,Nat.reduceLeDiff,Nat.reduceEqDiff,Nat.reduceGT,Nat.reduceLT,Int.reduceLE,Int.reduceLT,Int.reduceToNat,Int.reduceAdd,reduceCtorEq,h_putc,beq_self_eq_true,eq_self,exists_eq_left,exists_eq_left', hn]
    have m8 : H2.cells 8 = some [.slice 6 0 1 1 13, .sc .nils] := by subst hH2; simp -implicitDefEqProofs (maxDischargeDepth := 12) only [WW,List.replicate,e_splice,if_true,if_false,ite_true,ite_false,true_or,ne_eq,Nat.reduceAdd,Nat.reduceSub,Nat.reduceMul,Nat.reduceLeDiff,Nat.reduceEqDiff,Nat.reduceGT,Nat.reduceLT,Int.reduceLE,Int.reduceLT,Int.reduceToNat,Int.reduceAdd,reduceCtorEq,h_putc,beq_self_eq_true,eq_self,exists_eq_left,exists_eq_left', hn]
    clear hH2 hlo
    try simp -implicitDefEqProofs (maxDischargeDepth := 12) only [WW,List.replicate,e_splice,if_true,if_false,ite_true,ite_false,true_or,ne_eq,Nat.reduceAdd,Nat.reduceSub,Nat.reduceMul,Nat.reduceLeDiff,Nat.reduceEqDiff,Nat.reduceGT,Nat.reduceLT,Int.reduceLE,Int.reduceLT,Int.reduceToNat,Int.reduceAdd,reduceCtorEq,h_putc,beq_self_eq_true,eq_self,exists_eq_left,exists_eq_left', m7, m8]
    refine wA_pvf rfl (sv_pvf m5 m6 (by decide) tame_none rfl ?_)
    simp -implicitDefEqProofs (maxDischargeDepth := 12) only [WW,List.replicate,e_splice,if_true,if_false,ite_true,ite_false,true_or,ne_eq,Nat.reduceAdd,Nat.reduceSub,Nat.reduceMul,Nat.reduceLeDiff,Nat.reduceEqDiff,Nat.reduceGT,Nat.reduceLT,Int.reduceLE,Int.reduceLT,Int.reduceToNat,Int.reduceAdd,reduceCtorEq,h_putc,beq_self_eq_true,eq_self,exists_eq_left,exists_eq_left', m4]
    rw [← T.enc_eq]
    refine wA_pure rfl (zT T hTs hTe) ?_
    simp -implicitDefEqProofs (maxDischargeDepth := 12) only [WW,List.replicate,e_splice,if_true,if_false,ite_true,ite_false,true_or,ne_eq,Nat.reduceAdd,Nat.reduceSub,Nat.reduceMul,Nat.reduceLeDiff,Nat.reduceEqDiff,Nat.reduceGT,Nat.reduceLT,Int.reduceLE,Int.reduceLT,Int.reduceToNat,Int.reduceAdd,reduceCtorEq,h_putc,beq_self_eq_true,eq_self,exists_eq_left,exists_eq_left']
    exact frz_sc
  · simp -implicitDefEqProofs (maxDischargeDepth := 12) only [WW,List.replicate,e_splice,if_true,if_false,ite_true,ite_false,true_or,ne_eq,Nat.reduceAdd,Nat.reduceSub,Nat.reduceMul,Nat.reduceLeDiff,Nat.reduceEqDiff,Nat.reduceGT,Nat.reduceLT,Int.reduceLE,Int.reduceLT,Int.reduceToNat,Int.reduceAdd,reduceCtorEq,h_putc,beq_self_eq_true,eq_self,exists_eq_left,exists_eq_left', k0, k1, k3, hk, hn]
    rw [← s.short.enc_eq, pe hk]
    refine wA_pure rfl (has_yes rfl rfl hs.Tame ho) ?_
    simp -implicitDefEqProofs (maxDischargeDepth := 12) only [WW,List.replicate,e_splice,if_true,if_false,ite_true,ite_false,true_or,ne_eq,Nat.reduceAdd,Nat.reduceSub,Nat.reduceMul,Nat.reduceLeDiff,Nat.reduceEqDiff,Nat.reduceGT,Nat.reduceLT,Int.reduceLE,Int.reduceLT,Int.reduceToNat,Int.reduceAdd,reduceCtorEq,h_putc,beq_self_eq_true,eq_self,exists_eq_left,exists_eq_left', k0, k1, k3, hk, hn]
    generalize hH2 : AHeap.put _ 8 _ = H2
    have hlo : ∀ c, c < 5 → H2.cells c = H.cells c := fun c hc => by
      subst hH2
      rw [c_put_ne (by omega), c_put_ne (by omega), c_alloc_ne (by simp only [AHeap.next_alloc, hn]; omega), c_alloc_ne (by simp only [AHeap.next_alloc, hn]; omega), c_alloc_ne (by simp only [AHeap.next_alloc, hn]; omega), c_alloc_ne (by omega)]
    have m0 := (hlo 0 (by decide)).trans k0
    have m1 := (hlo 1 (by decide)).trans k1
    have m2 := (hlo 2 (by decide)).trans k2
    have m4 := (hlo 4 (by decide)).trans k4
    have m5 : H2.cells 5 = some (A).enc.cells := by subst hH2; simp -implicitDefEqProofs (maxDischargeDepth := 12) only [WW,List.replicate,e_splice,if_true,if_false,ite_true,ite_false,true_or,ne_eq,Nat.reduceAdd,Nat.reduceSub,Nat.reduceMul,Nat.reduceLeDiff,Nat.reduceEqDiff,Nat.reduceGT,Nat.reduceLT,Int.reduceLE,Int.reduceLT,Int.reduceToNat,Int.reduceAdd,reduceCtorEq,h_putc,beq_self_eq_true,eq_self,exists_eq_left,exists_eq_left', hn, Event.enc_eq]
    have m6 : H2.cells 6 = some Event.none.enc.cells := by subst hH2; simp -implicitDefEqProofs (maxDischargeDepth := 12) only [WW,List.replicate,e_splice,if_true,if_false,ite_true,ite_false,true_or,ne_eq,Nat.reduceAdd,Nat.reduceSub,Nat.reduceMul,Nat.reduceLeDiff,Nat.reduceEqDiff,Nat.reduceGT,Nat.reduceLT,Int.reduceLE,Int.reduceLT,Int.reduceToNat,Int.reduceAdd,reduceCtorEq,h_putc,beq_self_eq_true,eq_self,exists_eq_left,exists_eq_left', hn]; rfl
    have m7 : H2.cells 7 = some [.slice 5 0 1 1 13, .sc .nils] := by subst hH2; simp -implicitDefEqProofs (maxDischargeDepth := 12) only [WW,List.replicate,e_splice,if_true,if_false,ite_true,ite_false,true_or,ne_eq,Nat.reduceAdd,Nat.reduceSub,Nat.reduceMul,Nat.reduceLeDiff,Nat.reduceEqDiff,Nat.reduceGT,Nat.reduceLT,Int.reduceLE,Int.reduceLT,Int.reduceToNat,Int.reduceAdd,reduceCtorEq,h_putc,beq_self_eq_true,eq_self,exists_eq_left,exists_eq_left', hn]
    have m8 : H2.cells 8 = some [.slice 6 0 1 1 13, .sc .nils] := by subst hH2; simp -implicitDefEqProofs (maxDischargeDepth := 12) only [WW,List.replicate,e_splice,if_true,if_false,ite_true,ite_false,true_or,ne_eq,Nat.reduceAdd,Nat.reduceSub,Nat.reduceMul,Nat.reduceLeDiff,Nat.reduceEqDiff,Nat.reduceGT,Nat.reduceLT,Int.reduceLE,Int.reduceLT,Int.reduceToNat,Int.reduceAdd,reduceCtorEq,h_putc,beq_self_eq_true,eq_self,exists_eq_left,exists_eq_left', hn]
    clear hH2 hlo
    try simp -implicitDefEqProofs (maxDischargeDepth := 12) only [WW,List.replicate,e_splice,if_true,if_false,ite_true,ite_false,true_or,ne_eq,Nat.reduceAdd,Nat.reduceSub,Nat.reduceMul,Nat.reduceLeDiff,Nat.reduceEqDiff,Nat.reduceGT,Nat.reduceLT,Int.reduceLE,Int.reduceLT,Int.reduceToNat,Int.reduceAdd,reduceCtorEq,h_putc,beq_self_eq_true,eq_self,exists_eq_left,exists_eq_left', m0, m1, m4, m7, m8]
    rw [← s.short.enc_eq, pe hk]
    refine wA_pure rfl h51 ?_
    simp only [Event.none, Event.enc_eq, c_agg] at m6
    simp -implicitDefEqProofs (maxDischargeDepth := 12) only [WW,List.replicate,e_splice,if_true,if_false,ite_true,ite_false,true_or,ne_eq,Nat.reduceAdd,Nat.reduceSub,Nat.reduceMul,Nat.reduceLeDiff,Nat.reduceEqDiff,Nat.reduceGT,Nat.reduceLT,Int.reduceLE,Int.reduceLT,Int.reduceToNat,Int.reduceAdd,reduceCtorEq,h_putc,beq_self_eq_true,eq_self,exists_eq_left,exists_eq_left', m0, m1, m4, m6, m7, m8, A.enc_eq]
    generalize hH3 : AHeap.put H2 6 _ = H3
    have q6 : H3.cells 6 = some A.enc.cells := by subst hH3; exact h_put_self m6
    have q5 : H3.cells 5 = some A.enc.cells := by subst hH3; rw [c_put_ne (by decide)]; exact m5
    have q0 := (show H3.cells 0 = H2.cells 0 by subst hH3; exact c_put_ne (by decide)).trans m0
    have q1 := (show H3.cells 1 = H2.cells 1 by subst hH3; exact c_put_ne (by decide)).trans m1
    have q2 := (show H3.cells 2 = H2.cells 2 by subst hH3; exact c_put_ne (by decide)).trans m2
    have q4 := (show H3.cells 4 = H2.cells 4 by subst hH3; exact c_put_ne (by decide)).trans m4
    have q7 := (show H3.cells 7 = H2.cells 7 by subst hH3; exact c_put_ne (by decide)).trans m7
    have q8 := (show H3.cells 8 = H2.cells 8 by subst hH3; exact c_put_ne (by decide)).trans m8
    clear hH3
    rw [← A.enc_eq]
    try simp -implicitDefEqProofs (maxDischargeDepth := 12) only [WW,List.replicate,e_splice,if_true,if_false,ite_true,ite_false,true_or,ne_eq,Nat.reduceAdd,Nat.reduceSub,Nat.reduceMul,Nat.reduceLeDiff,Nat.reduceEqDiff,Nat.reduceGT,Nat.reduceLT,Int.reduceLE,Int.reduceLT,Int.reduceToNat,Int.reduceAdd,reduceCtorEq,h_putc,beq_self_eq_true,eq_self,exists_eq_left,exists_eq_left', q7, q8]
    refine wA_pvf rfl (sv_pvf q5 q6 (by decide) hAt rfl ?_)
    simp -implicitDefEqProofs (maxDischargeDepth := 12) only [WW,List.replicate,e_splice,if_true,if_false,ite_true,ite_false,true_or,ne_eq,Nat.reduceAdd,Nat.reduceSub,Nat.reduceMul,Nat.reduceLeDiff,Nat.reduceEqDiff,Nat.reduceGT,Nat.reduceLT,Int.reduceLE,Int.reduceLT,Int.reduceToNat,Int.reduceAdd,reduceCtorEq,h_putc,beq_self_eq_true,eq_self,exists_eq_left,exists_eq_left', q0, q1, q2, q4]
    rw [← s.short.enc_eq, ← x.short.enc_eq, ← T.enc_eq]
    try rw [pe hk]
    try rw [← p.enc_eq]
    refine wA_pure rfl h52 ?_
    simp -implicitDefEqProofs (maxDischargeDepth := 12) only [WW,List.replicate,e_splice,if_true,if_false,ite_true,ite_false,true_or,ne_eq,Nat.reduceAdd,Nat.reduceSub,Nat.reduceMul,Nat.reduceLeDiff,Nat.reduceEqDiff,Nat.reduceGT,Nat.reduceLT,Int.reduceLE,Int.reduceLT,Int.reduceToNat,Int.reduceAdd,reduceCtorEq,h_putc,beq_self_eq_true,eq_self,exists_eq_left,exists_eq_left', q0, q1, q2, q4]
    refine wA_pure rfl (same_pv rfl rfl rfl rfl T r hTs.tame) ?_
    rw [decide_eq_true hTr]
    simp -implicitDefEqProofs (maxDischargeDepth := 12) only [WW,List.replicate,e_splice,if_true,if_false,ite_true,ite_false,true_or,ne_eq,Nat.reduceAdd,Nat.reduceSub,Nat.reduceMul,Nat.reduceLeDiff,Nat.reduceEqDiff,Nat.reduceGT,Nat.reduceLT,Int.reduceLE,Int.reduceLT,Int.reduceToNat,Int.reduceAdd,reduceCtorEq,h_putc,beq_self_eq_true,eq_self,exists_eq_left,exists_eq_left']
    exact frz_sc
end Go.Hem
