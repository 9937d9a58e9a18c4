/- Walks. -/
import Derived.Test.YtnlhhjmheghnnaaWalks0
import Derived.Test.YtnlhhjmheghnnaaHemBun
import Derived.Test.YtnlhhjmheghnnaaHemRange
import Derived.Test.YtnlhhjmheghnnaaHemFast
/- Walks: score.PartOf. -/
set_option maxRecDepth 10000
set_option linter.unusedSimpArgs false
set_option linter.unusedVariables false
namespace Go.Hem
variable {pol : Pol}
def partOfAV (l : List Part) (s : Int) : AV :=
  match (if s < 0 then none else partOf l s.toNat) with
  | some (a, b) => .tup [.sc (.int .i64 a), .sc (.int .i64 b), .sc (.int .i64 0)]
  | none => .tup [.sc (.int .i64 0), .sc (.int .i64 0), .sc (.int .i64 2)]
theorem freeze_sc3 {H : AHeap} {a b c : Sc} : freeze (.tup [.sc a, .sc b, .sc c]) H = some (.tup [.sc a, .sc b, .sc c], H) := rfl
theorem partOf_pv (x : Score) (s : Int) (hs : s < 9223372036854775808) (hx : stavesOf x.parts.l < 1000000) (hl : x.parts.l.length < 1000000) : Pv prog pol 22 [x.enc, .sc (.int .i64 s)] (partOfAV x.parts.l s) := by
  have hcl : (partOfAV x.parts.l s).closedB = true := by unfold partOfAV; split <;> rfl
  refine Pv_of ok22 (by simp [AV.closedBs, AV.closedB, Score.enc_closed]) ?_
  by_cases h0 : s < 0
  · simp -implicitDefEqProofs (maxDischargeDepth := 12) only [wpF, cf22, WW,List.replicate,e_splice,if_true,if_false,ite_true,ite_false,true_or,ne_eq,Nat.reduceAdd,Nat.reduceSub,Nat.reduceMul,Nat.reduceLeDiff,Nat.reduceEqDiff,Nat.reduceGT,Nat.reduceLT,Int.reduceLE,Int.reduceLT,Int.reduceToNat,Int.reduceAdd,reduceCtorEq,h_putc,beq_self_eq_true,eq_self,exists_eq_left,exists_eq_left', ID.enc,Place.enc,O.enc,Interval.enc,Staff.enc,Part.enc,Metre.enc,ClefChange.enc,Tuplet.enc,Pitch.enc,Head.enc,Grace.enc,Syllable.enc,Val.enc,Event.enc,Voice.enc,Cell.enc,Tempo.enc,Measure.enc,Spanner.enc,Score.enc, h0, hcl]
    simp only [partOfAV, h0, if_true]
    exact ⟨_, freeze_sc3⟩
  · simp -implicitDefEqProofs (maxDischargeDepth := 12) only [wpF, cf22, WW,List.replicate,e_splice,if_true,if_false,ite_true,ite_false,true_or,ne_eq,Nat.reduceAdd,Nat.reduceSub,Nat.reduceMul,Nat.reduceLeDiff,Nat.reduceEqDiff,Nat.reduceGT,Nat.reduceLT,Int.reduceLE,Int.reduceLT,Int.reduceToNat,Int.reduceAdd,reduceCtorEq,h_putc,beq_self_eq_true,eq_self,exists_eq_left,exists_eq_left', ID.enc,Place.enc,O.enc,Interval.enc,Staff.enc,Part.enc,Metre.enc,ClefChange.enc,Tuplet.enc,Pitch.enc,Head.enc,Grace.enc,Syllable.enc,Val.enc,Event.enc,Voice.enc,Cell.enc,Tempo.enc,Measure.enc,Spanner.enc,Score.enc, h0, hcl]
    refine wp_loop (Inv := fun k t H => ∃ (i : Nat) (r : Nat) (x7 x8 x15 x16 x17 x18 x19 x20 x21 x22 x23 x24 x25 x26 x27 x28 x29 x30 x31 : AV), i + k = x.parts.l.length ∧ (r : Int) ≤ s ∧ partOf x.parts.l s.toNat = (partOf (x.parts.l.drop i) r).map (fun q => (q.1 + i, q.2)) ∧ t = [x.enc, .sc (.int .i64 r), .ptr 0 0, .sc .undef, .sc (.int .i64 0), .sc (.int .i64 0), .sc (.int .i64 0), x7, x8, .sc (.int .i64 s), .sc (.bool false), .ptr 0 2, slm Part.enc x.parts, .sc (.int .i64 x.parts.l.length), .sc (.int .i64 i), x15, x16, x17, x18, x19, x20, x21, x22, x23, x24, x25, x26, x27, x28, x29, x30, x31]) (k := x.parts.l.length) ?_
      ⟨0, s.toNat, _, _, _, _, _, _, _, _, _, _, _, _, _, _, _, _, _, _, _, Nat.zero_add _, by omega, by simp, by rw [Int.toNat_of_nonneg (by omega)]; rfl⟩
    rintro k t H ⟨i, r, x7, x8, x15, x16, x17, x18, x19, x20, x21, x22, x23, x24, x25, x26, x27, x28, x29, x30, x31, hk, hr, hq, rfl⟩
    simp -implicitDefEqProofs (maxDischargeDepth := 12) only [WW,List.replicate,e_splice,if_true,if_false,ite_true,ite_false,true_or,ne_eq,Nat.reduceAdd,Nat.reduceSub,Nat.reduceMul,Nat.reduceLeDiff,Nat.reduceEqDiff,Nat.reduceGT,Nat.reduceLT,Int.reduceLE,Int.reduceLT,Int.reduceToNat,Int.reduceAdd,reduceCtorEq,h_putc,beq_self_eq_true,eq_self,exists_eq_left,exists_eq_left']
    refine wB_of (fun hc => ?_) (fun hc => ?_)
    · simp only [decide_eq_true_eq] at hc
      have hi : i < x.parts.l.length := by omega
      obtain ⟨p, hp⟩ : ∃ p, x.parts.l[i]? = some p := ⟨_, List.getElem?_eq_getElem hi⟩
      rw [partOf_step hp] at hq
      have e2 : IntKind.i64.wrap ((i : Int) + 1) = ((i + 1 : Nat) : Int) := by rw [w64 (by omega) (by omega)]; omega
      simp -implicitDefEqProofs (maxDischargeDepth := 12) only [WW,List.replicate,e_splice,if_true,if_false,ite_true,ite_false,true_or,ne_eq,Nat.reduceAdd,Nat.reduceSub,Nat.reduceMul,Nat.reduceLeDiff,Nat.reduceEqDiff,Nat.reduceGT,Nat.reduceLT,Int.reduceLE,Int.reduceLT,Int.reduceToNat,Int.reduceAdd,reduceCtorEq,h_putc,beq_self_eq_true,eq_self,exists_eq_left,exists_eq_left', hp, Part.enc]
      refine wB_of (fun hd => ?_) (fun hd => ?_)
      · simp only [decide_eq_true_eq] at hd
        rw [if_pos (by omega)] at hq
        simp -implicitDefEqProofs (maxDischargeDepth := 12) only [WW,List.replicate,e_splice,if_true,if_false,ite_true,ite_false,true_or,ne_eq,Nat.reduceAdd,Nat.reduceSub,Nat.reduceMul,Nat.reduceLeDiff,Nat.reduceEqDiff,Nat.reduceGT,Nat.reduceLT,Int.reduceLE,Int.reduceLT,Int.reduceToNat,Int.reduceAdd,reduceCtorEq,h_putc,beq_self_eq_true,eq_self,exists_eq_left,exists_eq_left']
        simp only [partOfAV, if_neg h0, hq, Option.map_some, Nat.zero_add]
        exact ⟨_, freeze_sc3⟩
      · simp only [decide_eq_false_iff_not] at hd
        rw [if_neg (by omega)] at hq
        have e3 : IntKind.i64.wrap ((r : Int) - (p.staves.l.length : Int)) = ((r - p.staves.l.length : Nat) : Int) := by rw [w64 (by omega) (by omega)]; omega
        simp -implicitDefEqProofs (maxDischargeDepth := 12) only [WW,List.replicate,e_splice,if_true,if_false,ite_true,ite_false,true_or,ne_eq,Nat.reduceAdd,Nat.reduceSub,Nat.reduceMul,Nat.reduceLeDiff,Nat.reduceEqDiff,Nat.reduceGT,Nat.reduceLT,Int.reduceLE,Int.reduceLT,Int.reduceToNat,Int.reduceAdd,reduceCtorEq,h_putc,beq_self_eq_true,eq_self,exists_eq_left,exists_eq_left', e2, e3]
        refine ⟨k - 1, by omega, i + 1, r - p.staves.l.length, _, _, _, _, _, _, _, _, _, _, _, _, _, _, _, _, _, _, _, by omega, by omega, ?_, rfl⟩
        rw [hq, Option.map_map]
        congr 1
        funext q
        simp only [Function.comp]
        rw [Nat.add_assoc, Nat.add_comm 1 i]
    · simp only [decide_eq_false_iff_not] at hc
      have hi : i = x.parts.l.length := by omega
      subst hi
      simp -implicitDefEqProofs (maxDischargeDepth := 12) only [WW,List.replicate,e_splice,if_true,if_false,ite_true,ite_false,true_or,ne_eq,Nat.reduceAdd,Nat.reduceSub,Nat.reduceMul,Nat.reduceLeDiff,Nat.reduceEqDiff,Nat.reduceGT,Nat.reduceLT,Int.reduceLE,Int.reduceLT,Int.reduceToNat,Int.reduceAdd,reduceCtorEq,h_putc,beq_self_eq_true,eq_self,exists_eq_left,exists_eq_left']
      rw [List.drop_length] at hq
      simp only [partOfAV, if_neg h0, hq, partOf, Option.map_none]
      exact ⟨_, freeze_sc3⟩
end Go.Hem
/- Walks: shortPart. -/
set_option maxRecDepth 10000
set_option linter.unusedSimpArgs false
set_option linter.unusedVariables false
namespace Go.Hem
variable {pol : Pol}
theorem min_cast (n m : Nat) : (if (m : Int) < (n : Int) then (m : Int) else (n : Int)) = ((min n m : Nat) : Int) := by split <;> omega
theorem min20 (n : Nat) : (if (20 : Int) < (n : Int) then (20 : Int) else (n : Int)) = ((min n 20 : Nat) : Int) := min_cast n 20
theorem min3 (n : Nat) : (if (3 : Int) < (n : Int) then (3 : Int) else (n : Int)) = ((min n 3 : Nat) : Int) := min_cast n 3
theorem slm_take {α : Type} {f : α → AV} {s : Sl α} {n : Nat} : slm f (s.map fun x => x.take (min s.l.length n)) = slm f (s.map (·.take n)) := by
  cases s with
  | none => rfl
  | some l =>
    have e : l.take (min l.length n) = l.take n := by rw [List.take_eq_take_iff]; omega
    simp only [Option.map_some, l_some, e]
def Part.short (p : Part) : Part := { p with name := p.name.extract 0 (min p.name.size 20), staves := p.staves.map (·.take 3) }
theorem shortPart_pv (p : Part) : Pv prog pol 58 [p.enc] p.short.enc := by
  refine Pv_of' ok58 (by simp [AV.closedBs, Part.enc_closed]) ?_
  simp -implicitDefEqProofs (maxDischargeDepth := 12) only [wpF, cf58, WW,List.replicate,e_splice,if_true,if_false,ite_true,ite_false,true_or,ne_eq,Nat.reduceAdd,Nat.reduceSub,Nat.reduceMul,Nat.reduceLeDiff,Nat.reduceEqDiff,Nat.reduceGT,Nat.reduceLT,Int.reduceLE,Int.reduceLT,Int.reduceToNat,Int.reduceAdd,reduceCtorEq,h_putc,beq_self_eq_true,eq_self,exists_eq_left,exists_eq_left', p.enc_eq, min20, min3, e_cutm Staff.enc_len, Nat.min_le_left, slm_take]
  exact frz_plain rfl (Part.enc_plain _)
end Go.Hem
/- Walks: shortLyrics. -/
set_option maxRecDepth 10000
set_option linter.unusedSimpArgs false
set_option linter.unusedVariables false
namespace Go.Hem
variable {pol : Pol}
theorem of_snoc {α : Type} {l : List α} {y : α} : (some (Sl.l (Sl.of l) ++ [y]) : Sl α) = Sl.of (l ++ [y]) := by
  rw [l_of]; unfold Sl.of; cases l <;> rfl
theorem take_snoc {α : Type} {l : List α} {i : Nat} {y : α} (h : l[i]? = some y) : l.take (i + 1) = l.take i ++ [y] := by
  simp [List.take_add_one, h]
def Syllable.short (x : Syllable) : Syllable := { x with text := x.text.extract 0 (min x.text.size 260) }
def shortLyrics (s : Sl Syllable) : Sl Syllable := Sl.of ((s.l.take 6).map Syllable.short)
theorem row_Syllable : RowOf 2 Syllable.enc := ⟨by decide, fun _ => ⟨rfl, rfl⟩⟩
theorem min260 (n : Nat) : (if (260 : Int) < (n : Int) then (260 : Int) else (n : Int)) = ((min n 260 : Nat) : Int) := min_cast n 260
theorem shortLyrics_pv (s : Sl Syllable) : Pv prog pol 96 [slm Syllable.enc s] (slm Syllable.enc (shortLyrics s)) := by
  refine Pv_of' ok96 (by simp only [AV.closedBs, closedB_slm Syllable.enc_closed, Bool.and_self]) ?_
  simp -implicitDefEqProofs (maxDischargeDepth := 12) only [wpF, cf96, WW,List.replicate,e_splice,if_true,if_false,ite_true,ite_false,true_or,ne_eq,Nat.reduceAdd,Nat.reduceSub,Nat.reduceMul,Nat.reduceLeDiff,Nat.reduceEqDiff,Nat.reduceGT,Nat.reduceLT,Int.reduceLE,Int.reduceLT,Int.reduceToNat,Int.reduceAdd,reduceCtorEq,h_putc,beq_self_eq_true,eq_self,exists_eq_left,exists_eq_left']
  refine wp_loop (Inv := fun k t H => ∃ (i : Nat) (fp : List Nat) (a : AV), i + k = 6 ∧ i ≤ s.l.length ∧
    Acc 1 2 Syllable.enc H a (Sl.of ((s.l.take i).map Syllable.short)) fp ∧ ∃ x : Nat → AV, t = [slm Syllable.enc s, .sc .undef, .sc .nils, a, .sc (.int .i64 i), x 5, x 6, x 7, x 8, x 9, x 10, x 11, x 12, x 13, x 14, x 15, x 16, x 17, x 18, x 19, x 20, x 21, x 22, x 23, x 24, x 25, x 26, x 27, x 28, x 29, x 30, x 31, .sc .undef]) (k := 6) ?_
    ⟨0, [], _, rfl, Nat.zero_le _, acc_none, ex_x rfl⟩
  rintro k t H ⟨i, fp, a, hk, hi, hA, x, rfl⟩
  by_cases h1 : (i : Int) < (s.l.length : Int)
  · by_cases h2 : (i : Int) < 6
    · obtain ⟨y, hy⟩ : ∃ y, s.l[i]? = some y := ⟨_, List.getElem?_eq_getElem (by omega)⟩
      have e2 : IntKind.i64.wrap ((i : Int) + 1) = ((i + 1 : Nat) : Int) := by rw [w64 (by omega) (by omega)]; omega
      simp -implicitDefEqProofs (maxDischargeDepth := 12) only [WW,List.replicate,e_splice,if_true,if_false,ite_true,ite_false,true_or,ne_eq,Nat.reduceAdd,Nat.reduceSub,Nat.reduceMul,Nat.reduceLeDiff,Nat.reduceEqDiff,Nat.reduceGT,Nat.reduceLT,Int.reduceLE,Int.reduceLT,Int.reduceToNat,Int.reduceAdd,reduceCtorEq,h_putc,beq_self_eq_true,eq_self,exists_eq_left,exists_eq_left', h1, h2, hy, y.enc_eq, min260, Nat.min_le_left]
      refine wA_app row_Syllable (hA.keep (by repeat (first | exact Keep.refl | refine Keep.put (by (try simp only [AHeap.next_alloc, AHeap.next_put]); omega) ?_ | refine Keep.alloc (by (try simp only [AHeap.next_alloc, AHeap.next_put]); omega) ?_))) (ys := [y.short]) (by simp) rfl (asrc_new (by simp) rfl) (own_one (Syllable.enc_plain y.short) y.short.enc_eq) Apart.nil_right ?_ ?_
      · rw [l_of]; simp only [List.length_map, List.length_take, List.length_cons, List.length_nil]; omega
      intro v' H' fp' hA' hn hk hfp
      rw [of_snoc, ← List.map_singleton, ← List.map_append, ← take_snoc hy] at hA'
      simp -implicitDefEqProofs (maxDischargeDepth := 12) only [WW,List.replicate,e_splice,if_true,if_false,ite_true,ite_false,true_or,ne_eq,Nat.reduceAdd,Nat.reduceSub,Nat.reduceMul,Nat.reduceLeDiff,Nat.reduceEqDiff,Nat.reduceGT,Nat.reduceLT,Int.reduceLE,Int.reduceLT,Int.reduceToNat,Int.reduceAdd,reduceCtorEq,h_putc,beq_self_eq_true,eq_self,exists_eq_left,exists_eq_left', e2]
      exact ⟨k - 1, by omega, i + 1, _, _, by omega, by omega, hA', ex_x rfl⟩
    · simp -implicitDefEqProofs (maxDischargeDepth := 12) only [WW,List.replicate,e_splice,if_true,if_false,ite_true,ite_false,true_or,ne_eq,Nat.reduceAdd,Nat.reduceSub,Nat.reduceMul,Nat.reduceLeDiff,Nat.reduceEqDiff,Nat.reduceGT,Nat.reduceLT,Int.reduceLE,Int.reduceLT,Int.reduceToNat,Int.reduceAdd,reduceCtorEq,h_putc,beq_self_eq_true,eq_self,exists_eq_left,exists_eq_left', h1, h2]
      have e : (s.l.take i) = s.l.take 6 := by rw [show i = 6 by omega]
      rw [e] at hA
      exact hA.frz row_Syllable (by omega)
  · simp -implicitDefEqProofs (maxDischargeDepth := 12) only [WW,List.replicate,e_splice,if_true,if_false,ite_true,ite_false,true_or,ne_eq,Nat.reduceAdd,Nat.reduceSub,Nat.reduceMul,Nat.reduceLeDiff,Nat.reduceEqDiff,Nat.reduceGT,Nat.reduceLT,Int.reduceLE,Int.reduceLT,Int.reduceToNat,Int.reduceAdd,reduceCtorEq,h_putc,beq_self_eq_true,eq_self,exists_eq_left,exists_eq_left', h1]
    have e : (s.l.take i) = s.l.take 6 := by rw [List.take_of_length_le (by omega), List.take_of_length_le (by omega)]
    rw [e] at hA
    exact hA.frz row_Syllable (by omega)
end Go.Hem
/- Walks: L11.Short. -/
set_option maxRecDepth 10000
set_option linter.unusedSimpArgs false
set_option linter.unusedVariables false
namespace Go.Hem
variable {pol : Pol}
theorem min12 (n : Nat) : (if (12 : Int) < (n : Int) then (12 : Int) else (n : Int)) = ((min n 12 : Nat) : Int) := min_cast n 12
theorem min6 (n : Nat) : (if (6 : Int) < (n : Int) then (6 : Int) else (n : Int)) = ((min n 6 : Nat) : Int) := min_cast n 6
theorem min4 (n : Nat) : (if (4 : Int) < (n : Int) then (4 : Int) else (n : Int)) = ((min n 4 : Nat) : Int) := min_cast n 4
def Event.short (e : Event) : Event := { e with heads := e.heads.map (·.take 12), graces := e.graces.map (·.take 12), lyrics := shortLyrics e.lyrics }
theorem shortEvent_pv (hp : pol.pure 96 = true) (e : Event) : Pv prog pol 46 [e.enc] e.short.enc := by
  refine Pv_of' ok46 (by simp only [AV.closedBs, Event.enc_closed, Bool.and_self]) ?_
  simp -implicitDefEqProofs (maxDischargeDepth := 12) only [wpF, cf46, WW,List.replicate,e_splice,if_true,if_false,ite_true,ite_false,true_or,ne_eq,Nat.reduceAdd,Nat.reduceSub,Nat.reduceMul,Nat.reduceLeDiff,Nat.reduceEqDiff,Nat.reduceGT,Nat.reduceLT,Int.reduceLE,Int.reduceLT,Int.reduceToNat,Int.reduceAdd,reduceCtorEq,h_putc,beq_self_eq_true,eq_self,exists_eq_left,exists_eq_left', e.enc_eq, min12, e_cutm Head.enc_len, e_cutm Grace.enc_len, Nat.min_le_left, slm_take]
  refine wA_pure hp (shortLyrics_pv e.lyrics) ?_
  simp -implicitDefEqProofs (maxDischargeDepth := 12) only [WW,List.replicate,e_splice,if_true,if_false,ite_true,ite_false,true_or,ne_eq,Nat.reduceAdd,Nat.reduceSub,Nat.reduceMul,Nat.reduceLeDiff,Nat.reduceEqDiff,Nat.reduceGT,Nat.reduceLT,Int.reduceLE,Int.reduceLT,Int.reduceToNat,Int.reduceAdd,reduceCtorEq,h_putc,beq_self_eq_true,eq_self,exists_eq_left,exists_eq_left']
  exact frz_plain rfl (Event.enc_plain _)
end Go.Hem
/- Walks: shortCell. -/
set_option maxRecDepth 10000
set_option linter.unusedSimpArgs false
set_option linter.unusedVariables false
namespace Go.Hem
variable {pol : Pol}
def Voice.short (v : Voice) : Voice := { events := Sl.of ((v.events.l.take 5).map Event.short), tuplets := v.tuplets.map (·.take 3) }
def Cell.short (c : Cell) : Cell := { clefs := c.clefs.map (·.take 3), voices := Sl.of ((c.voices.l.take 3).map Voice.short) }
theorem row_Event : RowOf 13 Event.enc := ⟨by decide, fun _ => ⟨rfl, rfl⟩⟩
theorem row_Voice : RowOf 2 Voice.enc := ⟨by decide, fun _ => ⟨rfl, rfl⟩⟩
theorem row_Cell : RowOf 2 Cell.enc := ⟨by decide, fun _ => ⟨rfl, rfl⟩⟩
theorem row_Measure : RowOf 22 Measure.enc := ⟨by decide, fun _ => ⟨rfl, rfl⟩⟩
theorem row_Part : RowOf 6 Part.enc := ⟨by decide, fun _ => ⟨rfl, rfl⟩⟩
theorem shortCell_pv (hp : pol.pure 46 = true) (hp2 : pol.pure 96 = true) (c : Cell) : Pv prog pol 59 [c.enc] c.short.enc := by
  refine Pv_of' ok59 (by simp only [AV.closedBs, Cell.enc_closed, Bool.and_self]) ?_
  simp -implicitDefEqProofs (maxDischargeDepth := 12) only [wpF, cf59, WW,List.replicate,e_splice,if_true,if_false,ite_true,ite_false,true_or,ne_eq,Nat.reduceAdd,Nat.reduceSub,Nat.reduceMul,Nat.reduceLeDiff,Nat.reduceEqDiff,Nat.reduceGT,Nat.reduceLT,Int.reduceLE,Int.reduceLT,Int.reduceToNat,Int.reduceAdd,reduceCtorEq,h_putc,beq_self_eq_true,eq_self,exists_eq_left,exists_eq_left', c.enc_eq, min3, e_cutm ClefChange.enc_len, Nat.min_le_left, slm_take]
  refine wp_loop (Inv := fun k t H => ∃ (i : Nat) (fp : List Nat) (a : AV), i + k = 3 ∧ i ≤ c.voices.l.length ∧ H.cells 0 = some [slm ClefChange.enc c.clefs, slm Voice.enc c.voices] ∧ H.cells 1 = some [.sc .nils, .sc .nils] ∧
    H.cells 2 = some [slm ClefChange.enc c.short.clefs, a] ∧ Acc 3 2 Voice.enc H a (Sl.of ((c.voices.l.take i).map Voice.short)) fp ∧ (∀ b ∈ fp, 3 ≤ b) ∧
    ∃ x : Nat → AV, t = [.agg [slm ClefChange.enc c.clefs, slm Voice.enc c.voices], .ptr 0 0, .ptr 1 0, .ptr 2 0, .sc (.int .i64 i), x 5, x 6, x 7, x 8, x 9, x 10, x 11, x 12, x 13, x 14, x 15, x 16, x 17, x 18, x 19, x 20, x 21, x 22, x 23, x 24, x 25, x 26, x 27, x 28, x 29, x 30, x 31, x 32, x 33, x 34, x 35, x 36, x 37, x 38, x 39, x 40, x 41, x 42, x 43, x 44, x 45, x 46, x 47, x 48, x 49, x 50, x 51, x 52, x 53, x 54, x 55, x 56, x 57, x 58, x 59, x 60, x 61, x 62, x 63, x 64, x 65, x 66, x 67, x 68, x 69, x 70, x 71, x 72, x 73, x 74, x 75, x 76, x 77, .sc .undef]) (k := 3) ?_
    ⟨0, [], _, rfl, Nat.zero_le _, ?_, ?_, ?_, acc_none, by simp, ex_x rfl⟩
  rotate_left
  · simp -implicitDefEqProofs (maxDischargeDepth := 12) only [WW,List.replicate,e_splice,if_true,if_false,ite_true,ite_false,true_or,ne_eq,Nat.reduceAdd,Nat.reduceSub,Nat.reduceMul,Nat.reduceLeDiff,Nat.reduceEqDiff,Nat.reduceGT,Nat.reduceLT,Int.reduceLE,Int.reduceLT,Int.reduceToNat,Int.reduceAdd,reduceCtorEq,h_putc,beq_self_eq_true,eq_self,exists_eq_left,exists_eq_left']
  · simp -implicitDefEqProofs (maxDischargeDepth := 12) only [WW,List.replicate,e_splice,if_true,if_false,ite_true,ite_false,true_or,ne_eq,Nat.reduceAdd,Nat.reduceSub,Nat.reduceMul,Nat.reduceLeDiff,Nat.reduceEqDiff,Nat.reduceGT,Nat.reduceLT,Int.reduceLE,Int.reduceLT,Int.reduceToNat,Int.reduceAdd,reduceCtorEq,h_putc,beq_self_eq_true,eq_self,exists_eq_left,exists_eq_left']
  · simp -implicitDefEqProofs (maxDischargeDepth := 12) only [WW,List.replicate,e_splice,if_true,if_false,ite_true,ite_false,true_or,ne_eq,Nat.reduceAdd,Nat.reduceSub,Nat.reduceMul,Nat.reduceLeDiff,Nat.reduceEqDiff,Nat.reduceGT,Nat.reduceLT,Int.reduceLE,Int.reduceLT,Int.reduceToNat,Int.reduceAdd,reduceCtorEq,h_putc,beq_self_eq_true,eq_self,exists_eq_left,exists_eq_left']; rfl
  rintro k t H ⟨i, fp, a, hk, hi, hH0, hH1, hH2, hA, hfp, x, rfl⟩
  by_cases h1 : (i : Int) < (c.voices.l.length : Int)
  · by_cases h2 : (i : Int) < 3
    · obtain ⟨y, hy⟩ : ∃ y, c.voices.l[i]? = some y := ⟨_, List.getElem?_eq_getElem (by omega)⟩
      have e2 : IntKind.i64.wrap ((i : Int) + 1) = ((i + 1 : Nat) : Int) := by rw [w64 (by omega) (by omega)]; omega
      simp -implicitDefEqProofs (maxDischargeDepth := 12) only [WW,List.replicate,e_splice,if_true,if_false,ite_true,ite_false,true_or,ne_eq,Nat.reduceAdd,Nat.reduceSub,Nat.reduceMul,Nat.reduceLeDiff,Nat.reduceEqDiff,Nat.reduceGT,Nat.reduceLT,Int.reduceLE,Int.reduceLT,Int.reduceToNat,Int.reduceAdd,reduceCtorEq,h_putc,beq_self_eq_true,eq_self,exists_eq_left,exists_eq_left', hH0, h1, h2, hy, y.enc_eq, min3, e_cutm Tuplet.enc_len, Nat.min_le_left, slm_take]
      have e0 := hA.lts
      refine wp_loop (Inv := fun k' t H' => ∃ (j : Nat) (fq : List Nat) (ev : AV), j + k' = 5 ∧ j ≤ y.events.l.length ∧ H'.cells 0 = some [slm ClefChange.enc c.clefs, slm Voice.enc c.voices] ∧ H'.cells 1 = some [.sc .nils, .sc .nils] ∧
        H'.cells 2 = some [slm ClefChange.enc c.short.clefs, a] ∧ Acc 3 2 Voice.enc H' a (Sl.of ((c.voices.l.take i).map Voice.short)) fp ∧ H.next < H'.next ∧ H'.cells H.next = some [ev, slm Tuplet.enc y.short.tuplets] ∧
        Acc 2 13 Event.enc H' ev (Sl.of ((y.events.l.take j).map Event.short)) fq ∧ (∀ b ∈ fq, H.next < b) ∧
        ∃ x : Nat → AV, t = [.agg [slm ClefChange.enc c.clefs, slm Voice.enc c.voices], .ptr 0 0, .ptr 1 0, .ptr 2 0, .sc (.int .i64 i), .ptr H.next 0, .sc (.int .i64 j), x 7, x 8, x 9, x 10, x 11, x 12, x 13, x 14, x 15, x 16, x 17, x 18, x 19, x 20, x 21, x 22, x 23, x 24, x 25, x 26, x 27, x 28, x 29, x 30, x 31, x 32, x 33, x 34, x 35, x 36, x 37, x 38, x 39, x 40, x 41, x 42, x 43, x 44, x 45, x 46, x 47, x 48, x 49, x 50, x 51, x 52, x 53, x 54, x 55, x 56, x 57, x 58, x 59, x 60, x 61, x 62, x 63, x 64, x 65, x 66, x 67, x 68, x 69, x 70, x 71, x 72, x 73, x 74, x 75, x 76, x 77, .sc .undef]) (k := 5) ?_
        ⟨0, [], _, rfl, Nat.zero_le _, ?_, ?_, ?_, hA.keep (by repeat (first | exact Keep.refl | refine Keep.put (by (try simp only [AHeap.next_alloc, AHeap.next_put]); omega) ?_ | refine Keep.alloc (by (try simp only [AHeap.next_alloc, AHeap.next_put]); omega) ?_)), ?_, ?_, acc_none, by simp, ex_x rfl⟩
      rotate_left
      · have := h_lt hH0
        simp -implicitDefEqProofs (maxDischargeDepth := 12) only [WW,List.replicate,e_splice,if_true,if_false,ite_true,ite_false,true_or,ne_eq,Nat.reduceAdd,Nat.reduceSub,Nat.reduceMul,Nat.reduceLeDiff,Nat.reduceEqDiff,Nat.reduceGT,Nat.reduceLT,Int.reduceLE,Int.reduceLT,Int.reduceToNat,Int.reduceAdd,reduceCtorEq,h_putc,beq_self_eq_true,eq_self,exists_eq_left,exists_eq_left', hH0, show ¬ 0 = H.next by omega]
      · have := h_lt hH1
        simp -implicitDefEqProofs (maxDischargeDepth := 12) only [WW,List.replicate,e_splice,if_true,if_false,ite_true,ite_false,true_or,ne_eq,Nat.reduceAdd,Nat.reduceSub,Nat.reduceMul,Nat.reduceLeDiff,Nat.reduceEqDiff,Nat.reduceGT,Nat.reduceLT,Int.reduceLE,Int.reduceLT,Int.reduceToNat,Int.reduceAdd,reduceCtorEq,h_putc,beq_self_eq_true,eq_self,exists_eq_left,exists_eq_left', hH1, show ¬ 1 = H.next by omega]
      · have := h_lt hH2
        simp -implicitDefEqProofs (maxDischargeDepth := 12) only [WW,List.replicate,e_splice,if_true,if_false,ite_true,ite_false,true_or,ne_eq,Nat.reduceAdd,Nat.reduceSub,Nat.reduceMul,Nat.reduceLeDiff,Nat.reduceEqDiff,Nat.reduceGT,Nat.reduceLT,Int.reduceLE,Int.reduceLT,Int.reduceToNat,Int.reduceAdd,reduceCtorEq,h_putc,beq_self_eq_true,eq_self,exists_eq_left,exists_eq_left', hH2, show ¬ 2 = H.next by omega]
      · simp
      · simp -implicitDefEqProofs (maxDischargeDepth := 12) only [WW,List.replicate,e_splice,if_true,if_false,ite_true,ite_false,true_or,ne_eq,Nat.reduceAdd,Nat.reduceSub,Nat.reduceMul,Nat.reduceLeDiff,Nat.reduceEqDiff,Nat.reduceGT,Nat.reduceLT,Int.reduceLE,Int.reduceLT,Int.reduceToNat,Int.reduceAdd,reduceCtorEq,h_putc,beq_self_eq_true,eq_self,exists_eq_left,exists_eq_left']; rfl
      have l2 := h_lt hH2
      clear hH0 hH1 hH2 hA x
      rintro k' t H' ⟨j, fq, ev, hk', hj, hH0, hH1, hH2, hA, hn, hbv, hE, hfq, x, rfl⟩
      by_cases h3 : (j : Int) < (y.events.l.length : Int)
      · by_cases h4 : (j : Int) < 5
        · obtain ⟨z, hz⟩ : ∃ z, y.events.l[j]? = some z := ⟨_, List.getElem?_eq_getElem (by omega)⟩
          have e3 : IntKind.i64.wrap ((j : Int) + 1) = ((j + 1 : Nat) : Int) := by rw [w64 (by omega) (by omega)]; omega
          simp -implicitDefEqProofs (maxDischargeDepth := 12) only [WW,List.replicate,e_splice,if_true,if_false,ite_true,ite_false,true_or,ne_eq,Nat.reduceAdd,Nat.reduceSub,Nat.reduceMul,Nat.reduceLeDiff,Nat.reduceEqDiff,Nat.reduceGT,Nat.reduceLT,Int.reduceLE,Int.reduceLT,Int.reduceToNat,Int.reduceAdd,reduceCtorEq,h_putc,beq_self_eq_true,eq_self,exists_eq_left,exists_eq_left', hH0, hH1, hH2, hbv, h3, h4, hy, hz, y.enc_eq, z.enc_eq]
          refine wA_pure hp (shortEvent_pv hp2 z) ?_
          simp -implicitDefEqProofs (maxDischargeDepth := 12) only [WW,List.replicate,e_splice,if_true,if_false,ite_true,ite_false,true_or,ne_eq,Nat.reduceAdd,Nat.reduceSub,Nat.reduceMul,Nat.reduceLeDiff,Nat.reduceEqDiff,Nat.reduceGT,Nat.reduceLT,Int.reduceLE,Int.reduceLT,Int.reduceToNat,Int.reduceAdd,reduceCtorEq,h_putc,beq_self_eq_true,eq_self,exists_eq_left,exists_eq_left', z.short.enc_eq]
          refine wA_app2 row_Event hE (by repeat (first | exact Keep.refl | refine Keep.put (by (try simp only [AHeap.next_alloc, AHeap.next_put]); omega) ?_ | refine Keep.alloc (by (try simp only [AHeap.next_alloc, AHeap.next_put]); omega) ?_)) (by simp) (ys := [z.short]) (by simp) rfl (asrc_new (by simp) rfl) (own_one (Event.enc_plain z.short) z.short.enc_eq) Apart.nil_right ?_ ?_
          · rw [l_of]; simp only [List.length_map, List.length_take, List.length_cons, List.length_nil]; omega
          intro v' H2 fp' hA' hn2 hk2 hfp2 ho2 hc2
          rw [of_snoc, ← List.map_singleton, ← List.map_append, ← take_snoc hz] at hA'
          have g0 := (hk2 0 (fun h => by have := hfq 0 h; omega) (by omega)).trans hH0
          have g1 := (hk2 1 (fun h => by have := hfq 1 h; omega) (by omega)).trans hH1
          have g2 := (hk2 2 (fun h => by have := hfq 2 h; omega) (by omega)).trans hH2
          have gb := (hk2 H.next (fun h => by have := hfq _ h; omega) (by omega)).trans hbv
          have hfp3 : ∀ b ∈ fp', H.next < b := fun b hb => by
            rcases hfp2 b hb with h | h | h
            · exact hfq b h
            · simp at h
            · omega
          simp -implicitDefEqProofs (maxDischargeDepth := 12) only [WW,List.replicate,e_splice,if_true,if_false,ite_true,ite_false,true_or,ne_eq,Nat.reduceAdd,Nat.reduceSub,Nat.reduceMul,Nat.reduceLeDiff,Nat.reduceEqDiff,Nat.reduceGT,Nat.reduceLT,Int.reduceLE,Int.reduceLT,Int.reduceToNat,Int.reduceAdd,reduceCtorEq,h_putc,beq_self_eq_true,eq_self,exists_eq_left,exists_eq_left', e3, g0, g1, g2, gb, ho2, hc2, show ¬ 0 = H.next by omega, show ¬ 1 = H.next by omega, show ¬ 2 = H.next by omega]
          refine ⟨k' - 1, by omega, j + 1, fp', v', by omega, by omega, ?_, by omega, rfl, hA'.fr fun b hb => h_put_ne (by have := hfp3 b hb; omega), hfp3, ex_x rfl⟩
          exact hA.fr fun b hb => by
              have := e0 b hb
              rw [h_put_ne (by omega), hk2 b (fun h => by have := hfq b h; omega) (by omega)]
        · simp -implicitDefEqProofs (maxDischargeDepth := 12) only [WW,List.replicate,e_splice,if_true,if_false,ite_true,ite_false,true_or,ne_eq,Nat.reduceAdd,Nat.reduceSub,Nat.reduceMul,Nat.reduceLeDiff,Nat.reduceEqDiff,Nat.reduceGT,Nat.reduceLT,Int.reduceLE,Int.reduceLT,Int.reduceToNat,Int.reduceAdd,reduceCtorEq,h_putc,beq_self_eq_true,eq_self,exists_eq_left,exists_eq_left', hH0, hH1, hH2, hbv, h3, h4, hy, y.enc_eq, hE.one]
          have hj5 : y.events.l.take j = y.events.l.take 5 := by rw [List.take_eq_take_iff]; omega
          rw [hj5] at hE
          obtain ⟨fq', hOE, hq'⟩ := hE.own row_Event
          refine wA_app2 row_Voice hA (by repeat (first | exact Keep.refl | refine Keep.put (by (try simp only [AHeap.next_alloc, AHeap.next_put]); omega) ?_ | refine Keep.alloc (by (try simp only [AHeap.next_alloc, AHeap.next_put]); omega) ?_)) (by simp) (ys := [y.short]) (by simp) rfl (asrc_new (by simp) rfl) (.cons (hOE.keep (by repeat (first | exact Keep.refl | refine Keep.put (by (try simp only [AHeap.next_alloc, AHeap.next_put]); omega) ?_ | refine Keep.alloc (by (try simp only [AHeap.next_alloc, AHeap.next_put]); omega) ?_))) (OwnL.single (Own.plain (plain1_slm Tuplet.enc_closed))) Apart.nil_right) ?_ ?_ ?_
          · intro b hb hb2
            have := e0 b hb
            rcases List.mem_append.1 hb2 with h | h
            · have := hfq b (hq' b h); omega
            · simp at h
          · rw [l_of]; simp only [List.length_map, List.length_take, List.length_cons, List.length_nil]; omega
          intro v' H2 fp' hA' hn2 hk2 hfp2 ho2 hc2
          rw [of_snoc, ← List.map_singleton, ← List.map_append, ← take_snoc hy] at hA'
          have g0 := (hk2 0 (fun h => by have := hfp 0 h; omega) (by omega)).trans hH0
          have g1 := (hk2 1 (fun h => by have := hfp 1 h; omega) (by omega)).trans hH1
          have g2 := (hk2 2 (fun h => by have := hfp 2 h; omega) (by omega)).trans hH2
          have hfp3 : ∀ b ∈ fp', 3 ≤ b := fun b hb => by
            rcases hfp2 b hb with h | h | h
            · exact hfp b h
            · rcases List.mem_append.1 h with h | h
              · have := hfq b (hq' b h); omega
              · simp at h
            · omega
          simp -implicitDefEqProofs (maxDischargeDepth := 12) only [WW,List.replicate,e_splice,if_true,if_false,ite_true,ite_false,true_or,ne_eq,Nat.reduceAdd,Nat.reduceSub,Nat.reduceMul,Nat.reduceLeDiff,Nat.reduceEqDiff,Nat.reduceGT,Nat.reduceLT,Int.reduceLE,Int.reduceLT,Int.reduceToNat,Int.reduceAdd,reduceCtorEq,h_putc,beq_self_eq_true,eq_self,exists_eq_left,exists_eq_left', e2, g0, g1, g2, ho2, hc2]
          exact ⟨k - 1, by omega, i + 1, fp', v', by omega, by omega, rfl, hA'.fr fun b hb => h_put_ne (by have := hfp3 b hb; omega), hfp3, ex_x rfl⟩
      · simp -implicitDefEqProofs (maxDischargeDepth := 12) only [WW,List.replicate,e_splice,if_true,if_false,ite_true,ite_false,true_or,ne_eq,Nat.reduceAdd,Nat.reduceSub,Nat.reduceMul,Nat.reduceLeDiff,Nat.reduceEqDiff,Nat.reduceGT,Nat.reduceLT,Int.reduceLE,Int.reduceLT,Int.reduceToNat,Int.reduceAdd,reduceCtorEq,h_putc,beq_self_eq_true,eq_self,exists_eq_left,exists_eq_left', hH0, hH1, hH2, hbv, h3, hy, y.enc_eq, hE.one]
        have hj5 : y.events.l.take j = y.events.l.take 5 := by rw [List.take_eq_take_iff]; omega
        rw [hj5] at hE
        obtain ⟨fq', hOE, hq'⟩ := hE.own row_Event
        refine wA_app2 row_Voice hA (by repeat (first | exact Keep.refl | refine Keep.put (by (try simp only [AHeap.next_alloc, AHeap.next_put]); omega) ?_ | refine Keep.alloc (by (try simp only [AHeap.next_alloc, AHeap.next_put]); omega) ?_)) (by simp) (ys := [y.short]) (by simp) rfl (asrc_new (by simp) rfl) (.cons (hOE.keep (by repeat (first | exact Keep.refl | refine Keep.put (by (try simp only [AHeap.next_alloc, AHeap.next_put]); omega) ?_ | refine Keep.alloc (by (try simp only [AHeap.next_alloc, AHeap.next_put]); omega) ?_))) (OwnL.single (Own.plain (plain1_slm Tuplet.enc_closed))) Apart.nil_right) ?_ ?_ ?_
        · intro b hb hb2
          have := e0 b hb
          rcases List.mem_append.1 hb2 with h | h
          · have := hfq b (hq' b h); omega
          · simp at h
        · rw [l_of]; simp only [List.length_map, List.length_take, List.length_cons, List.length_nil]; omega
        intro v' H2 fp' hA' hn2 hk2 hfp2 ho2 hc2
        rw [of_snoc, ← List.map_singleton, ← List.map_append, ← take_snoc hy] at hA'
        have g0 := (hk2 0 (fun h => by have := hfp 0 h; omega) (by omega)).trans hH0
        have g1 := (hk2 1 (fun h => by have := hfp 1 h; omega) (by omega)).trans hH1
        have g2 := (hk2 2 (fun h => by have := hfp 2 h; omega) (by omega)).trans hH2
        have hfp3 : ∀ b ∈ fp', 3 ≤ b := fun b hb => by
          rcases hfp2 b hb with h | h | h
          · exact hfp b h
          · rcases List.mem_append.1 h with h | h
            · have := hfq b (hq' b h); omega
            · simp at h
          · omega
        simp -implicitDefEqProofs (maxDischargeDepth := 12) only [WW,List.replicate,e_splice,if_true,if_false,ite_true,ite_false,true_or,ne_eq,Nat.reduceAdd,Nat.reduceSub,Nat.reduceMul,Nat.reduceLeDiff,Nat.reduceEqDiff,Nat.reduceGT,Nat.reduceLT,Int.reduceLE,Int.reduceLT,Int.reduceToNat,Int.reduceAdd,reduceCtorEq,h_putc,beq_self_eq_true,eq_self,exists_eq_left,exists_eq_left', e2, g0, g1, g2, ho2, hc2]
        exact ⟨k - 1, by omega, i + 1, fp', v', by omega, by omega, rfl, hA'.fr fun b hb => h_put_ne (by have := hfp3 b hb; omega), hfp3, ex_x rfl⟩
    · simp -implicitDefEqProofs (maxDischargeDepth := 12) only [WW,List.replicate,e_splice,if_true,if_false,ite_true,ite_false,true_or,ne_eq,Nat.reduceAdd,Nat.reduceSub,Nat.reduceMul,Nat.reduceLeDiff,Nat.reduceEqDiff,Nat.reduceGT,Nat.reduceLT,Int.reduceLE,Int.reduceLT,Int.reduceToNat,Int.reduceAdd,reduceCtorEq,h_putc,beq_self_eq_true,eq_self,exists_eq_left,exists_eq_left', hH0, hH1, hH2, h1, h2, hA.one]
      have hi3 : c.voices.l.take i = c.voices.l.take 3 := by rw [List.take_eq_take_iff]; omega
      rw [hi3] at hA
      obtain ⟨fq2, hO, hq2⟩ := hA.own row_Voice
      exact Own.frz (d := 5) ⟨_, rfl, .cons (Own.plain (plain1_slm ClefChange.enc_closed)) (OwnL.single (hO.frame fun b hb => h_put_ne (by have := hfp b (hq2 b hb); omega))) Apart.nil_left⟩ (by omega)
  · simp -implicitDefEqProofs (maxDischargeDepth := 12) only [WW,List.replicate,e_splice,if_true,if_false,ite_true,ite_false,true_or,ne_eq,Nat.reduceAdd,Nat.reduceSub,Nat.reduceMul,Nat.reduceLeDiff,Nat.reduceEqDiff,Nat.reduceGT,Nat.reduceLT,Int.reduceLE,Int.reduceLT,Int.reduceToNat,Int.reduceAdd,reduceCtorEq,h_putc,beq_self_eq_true,eq_self,exists_eq_left,exists_eq_left', hH0, hH1, hH2, h1, hA.one]
    have hi3 : c.voices.l.take i = c.voices.l.take 3 := by rw [List.take_eq_take_iff]; omega
    rw [hi3] at hA
    obtain ⟨fq2, hO, hq2⟩ := hA.own row_Voice
    exact Own.frz (d := 5) ⟨_, rfl, .cons (Own.plain (plain1_slm ClefChange.enc_closed)) (OwnL.single (hO.frame fun b hb => h_put_ne (by have := hfp b (hq2 b hb); omega))) Apart.nil_left⟩ (by omega)
end Go.Hem
/- Walks: shortMeasure. -/
set_option maxRecDepth 10000
set_option linter.unusedSimpArgs false
set_option linter.unusedVariables false
namespace Go.Hem
variable {pol : Pol}
def Measure.short (m : Measure) : Measure := { m with rehearsal := m.rehearsal.extract 0 (min m.rehearsal.size 20), tempi := m.tempi.map (·.take 3), cells := Sl.of ((m.cells.l.take 6).map Cell.short) }
def Measure.cells0 (m : Measure) (a : AV) : List AV := [.sc (.int .i64 m.id.site), .sc (.int .i64 m.id.number), .sc (.int .i64 m.metre.count), .sc (.int .i64 m.metre.unit), .sc (.int .i64 m.metre.g0), .sc (.int .i64 m.metre.g1), .sc (.int .i64 m.metre.g2), .sc (.int .i64 m.metre.g3), .sc (.int .i64 m.metre.g4), .sc (.int .i64 m.metre.g5), .sc (.int .i64 m.length), .sc (.int .i64 m.fifths), .sc (.bool m.rstart), .sc (.int .i64 m.rend), .sc (.int .i64 m.endings), .sc (.int .i64 m.jump), .sc (.int .i64 m.labels), .sc (.int .i64 m.swing), .sc (.int .i64 m.brk), .sc (.str m.rehearsal), slm Tempo.enc m.tempi, a]
theorem Measure.cells0_eq {m : Measure} {a : AV} : m.cells0 a = [.sc (.int .i64 m.id.site), .sc (.int .i64 m.id.number), .sc (.int .i64 m.metre.count), .sc (.int .i64 m.metre.unit), .sc (.int .i64 m.metre.g0), .sc (.int .i64 m.metre.g1), .sc (.int .i64 m.metre.g2), .sc (.int .i64 m.metre.g3), .sc (.int .i64 m.metre.g4), .sc (.int .i64 m.metre.g5), .sc (.int .i64 m.length), .sc (.int .i64 m.fifths), .sc (.bool m.rstart), .sc (.int .i64 m.rend), .sc (.int .i64 m.endings), .sc (.int .i64 m.jump), .sc (.int .i64 m.labels), .sc (.int .i64 m.swing), .sc (.int .i64 m.brk), .sc (.str m.rehearsal), slm Tempo.enc m.tempi, a] := rfl
theorem shortMeasure_pv (hp : pol.pure 46 = true) (hp2 : pol.pure 96 = true) (hp3 : pol.pure 59 = true) (m : Measure) : Pv prog pol 41 [m.enc] m.short.enc := by
  refine Pv_of' ok41 (by simp only [AV.closedBs, Measure.enc_closed, Bool.and_self]) ?_
  simp -implicitDefEqProofs (maxDischargeDepth := 12) only [wpF, cf41, WW,List.replicate,e_splice,if_true,if_false,ite_true,ite_false,true_or,ne_eq,Nat.reduceAdd,Nat.reduceSub,Nat.reduceMul,Nat.reduceLeDiff,Nat.reduceEqDiff,Nat.reduceGT,Nat.reduceLT,Int.reduceLE,Int.reduceLT,Int.reduceToNat,Int.reduceAdd,reduceCtorEq,h_putc,beq_self_eq_true,eq_self,exists_eq_left,exists_eq_left', m.enc_eq, min20, min3, e_cutm Tempo.enc_len, Nat.min_le_left, slm_take]
  refine wp_loop (Inv := fun k t H => ∃ (i : Nat) (fp : List Nat) (a : AV), i + k = 6 ∧ i ≤ m.cells.l.length ∧ H.cells 0 = some (m.short.cells0 a) ∧ (∃ z, H.cells 1 = some z ∧ z.length = 22) ∧
    Acc 4 2 Cell.enc H a (Sl.of ((m.cells.l.take i).map Cell.short)) fp ∧ (∀ b ∈ fp, 2 ≤ b) ∧
    ∃ x : Nat → AV, t = [m.enc, .ptr 0 0, .ptr 1 0, slm Cell.enc m.cells, .sc (.int .i64 i), x 5, x 6, x 7, x 8, x 9, x 10, x 11, x 12, x 13, x 14, x 15, x 16, x 17, x 18, x 19, x 20, x 21, x 22, x 23, x 24, x 25, x 26, x 27, x 28, x 29, x 30, x 31, x 32, x 33, x 34, x 35, x 36, x 37, x 38, x 39, x 40, x 41, x 42, x 43, .sc .undef]) (k := 6) ?_
    ⟨0, [], _, rfl, Nat.zero_le _, ?_, ?_, acc_none, by simp, ex_x rfl⟩
  rotate_left
  · simp -implicitDefEqProofs (maxDischargeDepth := 12) only [WW,List.replicate,e_splice,if_true,if_false,ite_true,ite_false,true_or,ne_eq,Nat.reduceAdd,Nat.reduceSub,Nat.reduceMul,Nat.reduceLeDiff,Nat.reduceEqDiff,Nat.reduceGT,Nat.reduceLT,Int.reduceLE,Int.reduceLT,Int.reduceToNat,Int.reduceAdd,reduceCtorEq,h_putc,beq_self_eq_true,eq_self,exists_eq_left,exists_eq_left']; rfl
  · refine Exists.intro [.sc (.int .i64 0), .sc (.int .i64 0), .sc (.int .i64 0), .sc (.int .i64 0), .sc (.int .i64 0), .sc (.int .i64 0), .sc (.int .i64 0), .sc (.int .i64 0), .sc (.int .i64 0), .sc (.int .i64 0), .sc (.int .i64 0), .sc (.int .i64 0), .sc (.bool false), .sc (.int .i64 0), .sc (.int .i64 0), .sc (.int .i64 0), .sc (.int .i64 0), .sc (.int .i64 0), .sc (.int .i64 0), .sc (.str ⟨#[]⟩), .sc .nils, .sc .nils] ⟨?_, rfl⟩
    simp -implicitDefEqProofs (maxDischargeDepth := 12) only [WW,List.replicate,e_splice,if_true,if_false,ite_true,ite_false,true_or,ne_eq,Nat.reduceAdd,Nat.reduceSub,Nat.reduceMul,Nat.reduceLeDiff,Nat.reduceEqDiff,Nat.reduceGT,Nat.reduceLT,Int.reduceLE,Int.reduceLT,Int.reduceToNat,Int.reduceAdd,reduceCtorEq,h_putc,beq_self_eq_true,eq_self,exists_eq_left,exists_eq_left']
  rintro k t H ⟨i, fp, a, hk, hi, hH0, ⟨z, hH1, hz⟩, hA, hfp, x, rfl⟩
  rw [Measure.cells0_eq] at hH0
  by_cases h1 : (i : Int) < (m.cells.l.length : Int)
  · by_cases h2 : (i : Int) < 6
    · obtain ⟨y, hy⟩ : ∃ y, m.cells.l[i]? = some y := ⟨_, List.getElem?_eq_getElem (by omega)⟩
      have e2 : IntKind.i64.wrap ((i : Int) + 1) = ((i + 1 : Nat) : Int) := by rw [w64 (by omega) (by omega)]; omega
      simp -implicitDefEqProofs (maxDischargeDepth := 12) only [WW,List.replicate,e_splice,if_true,if_false,ite_true,ite_false,true_or,ne_eq,Nat.reduceAdd,Nat.reduceSub,Nat.reduceMul,Nat.reduceLeDiff,Nat.reduceEqDiff,Nat.reduceGT,Nat.reduceLT,Int.reduceLE,Int.reduceLT,Int.reduceToNat,Int.reduceAdd,reduceCtorEq,h_putc,beq_self_eq_true,eq_self,exists_eq_left,exists_eq_left', hH0, h1, h2, hy, y.enc_eq, m.enc_eq]
      rw [← y.enc_eq]
      refine wA_pure hp3 (shortCell_pv hp hp2 y) ?_
      simp -implicitDefEqProofs (maxDischargeDepth := 12) only [WW,List.replicate,e_splice,if_true,if_false,ite_true,ite_false,true_or,ne_eq,Nat.reduceAdd,Nat.reduceSub,Nat.reduceMul,Nat.reduceLeDiff,Nat.reduceEqDiff,Nat.reduceGT,Nat.reduceLT,Int.reduceLE,Int.reduceLT,Int.reduceToNat,Int.reduceAdd,reduceCtorEq,h_putc,beq_self_eq_true,eq_self,exists_eq_left,exists_eq_left', y.short.enc_eq]
      refine wA_app2 row_Cell hA (by repeat (first | exact Keep.refl | refine Keep.put (by (try simp only [AHeap.next_alloc, AHeap.next_put]); omega) ?_ | refine Keep.alloc (by (try simp only [AHeap.next_alloc, AHeap.next_put]); omega) ?_)) (by simp) (ys := [y.short]) (by simp) rfl (asrc_new (by simp) rfl) (own_one (Cell.enc_plain y.short) y.short.enc_eq) Apart.nil_right ?_ ?_
      · rw [l_of]; simp only [List.length_map, List.length_take, List.length_cons, List.length_nil]; omega
      intro v' H2 fp' hA' hn2 hk2 hfp2 ho2 hc2
      rw [of_snoc, ← List.map_singleton, ← List.map_append, ← take_snoc hy] at hA'
      have l1 := h_lt hH1
      have g0 := (hk2 0 (fun h => by have := hfp 0 h; omega) (by omega)).trans hH0
      have g1 := (hk2 1 (fun h => by have := hfp 1 h; omega) (by omega)).trans hH1
      have hfp3 : ∀ b ∈ fp', 2 ≤ b := fun b hb => by
        rcases hfp2 b hb with h | h | h
        · exact hfp b h
        · simp at h
        · omega
      simp -implicitDefEqProofs (maxDischargeDepth := 12) only [WW,List.replicate,e_splice,if_true,if_false,ite_true,ite_false,true_or,ne_eq,Nat.reduceAdd,Nat.reduceSub,Nat.reduceMul,Nat.reduceLeDiff,Nat.reduceEqDiff,Nat.reduceGT,Nat.reduceLT,Int.reduceLE,Int.reduceLT,Int.reduceToNat,Int.reduceAdd,reduceCtorEq,h_putc,beq_self_eq_true,eq_self,exists_eq_left,exists_eq_left', e2, g0, g1, ho2, hc2]
      refine ⟨k - 1, by omega, i + 1, fp', v', by omega, by omega, rfl, hz, hA'.fr fun b hb => h_put_ne (by have := hfp3 b hb; omega), hfp3, ex_x rfl⟩
    · simp -implicitDefEqProofs (maxDischargeDepth := 12) only [WW,List.replicate,e_splice,if_true,if_false,ite_true,ite_false,true_or,ne_eq,Nat.reduceAdd,Nat.reduceSub,Nat.reduceMul,Nat.reduceLeDiff,Nat.reduceEqDiff,Nat.reduceGT,Nat.reduceLT,Int.reduceLE,Int.reduceLT,Int.reduceToNat,Int.reduceAdd,reduceCtorEq,h_putc,beq_self_eq_true,eq_self,exists_eq_left,exists_eq_left', hH0, hH1, hz, h1, h2, hA.one, m.enc_eq]

      have hi3 : m.cells.l.take i = m.cells.l.take 6 := by rw [List.take_eq_take_iff]; omega
      rw [hi3] at hA
      obtain ⟨fq2, hO, hq2⟩ := hA.own row_Cell
      refine Own.frz (d := 6) (fp := [] ++ fq2) (u := m.short.enc) ⟨_, rfl, ?_⟩ (by omega)
      exact OwnL.append (fp := []) (OwnL.plain (d := 4) (cs := (m.short.cells0 a).take 21) (by simp [Measure.cells0, pl_sc, plain1_slm Tempo.enc_closed])) (OwnL.single (hO.frame fun b hb => h_put_ne (by have := hfp b (hq2 b hb); omega))) Apart.nil_left
  · simp -implicitDefEqProofs (maxDischargeDepth := 12) only [WW,List.replicate,e_splice,if_true,if_false,ite_true,ite_false,true_or,ne_eq,Nat.reduceAdd,Nat.reduceSub,Nat.reduceMul,Nat.reduceLeDiff,Nat.reduceEqDiff,Nat.reduceGT,Nat.reduceLT,Int.reduceLE,Int.reduceLT,Int.reduceToNat,Int.reduceAdd,reduceCtorEq,h_putc,beq_self_eq_true,eq_self,exists_eq_left,exists_eq_left', hH0, hH1, hz, h1, hA.one, m.enc_eq]
    have hi3 : m.cells.l.take i = m.cells.l.take 6 := by rw [List.take_eq_take_iff]; omega
    rw [hi3] at hA
    obtain ⟨fq2, hO, hq2⟩ := hA.own row_Cell
    refine Own.frz (d := 6) (fp := [] ++ fq2) (u := m.short.enc) ⟨_, rfl, ?_⟩ (by omega)
    exact OwnL.append (fp := []) (OwnL.plain (d := 4) (cs := (m.short.cells0 a).take 21) (by simp [Measure.cells0, pl_sc, plain1_slm Tempo.enc_closed])) (OwnL.single (hO.frame fun b hb => h_put_ne (by have := hfp b (hq2 b hb); omega))) Apart.nil_left
end Go.Hem
/- Walks: Short. -/
set_option maxRecDepth 10000
set_option linter.unusedSimpArgs false
set_option linter.unusedVariables false
namespace Go.Hem
variable {pol : Pol}
def Score.short (s : Score) : Score := { title := s.title.extract 0 (min s.title.size 20), written := s.written, parts := Sl.of ((s.parts.l.take 4).map Part.short), measures := Sl.of ((s.measures.l.take 5).map Measure.short), spanners := s.spanners.map (·.take 6), last := s.last.map (·.take 4) }
theorem short_pv (hp : pol.pure 46 = true) (hp2 : pol.pure 96 = true) (hp3 : pol.pure 59 = true) (hp4 : pol.pure 41 = true) (hp5 : pol.pure 58 = true) (s : Score) : Pv prog pol 14 [s.enc] s.short.enc := by
  refine Pv_of' ok14 (by simp only [AV.closedBs, Score.enc_closed, Bool.and_self]) ?_
  simp -implicitDefEqProofs (maxDischargeDepth := 12) only [wpF, cf14, WW,List.replicate,e_splice,if_true,if_false,ite_true,ite_false,true_or,ne_eq,Nat.reduceAdd,Nat.reduceSub,Nat.reduceMul,Nat.reduceLeDiff,Nat.reduceEqDiff,Nat.reduceGT,Nat.reduceLT,Int.reduceLE,Int.reduceLT,Int.reduceToNat,Int.reduceAdd,reduceCtorEq,h_putc,beq_self_eq_true,eq_self,exists_eq_left,exists_eq_left', s.enc_eq, min20, min6, min4, e_cutm Spanner.enc_len, e_cutm ID.enc_len, Nat.min_le_left, slm_take]
  refine wp_loop (Inv := fun k t H => ∃ (i : Nat) (fp : List Nat) (a : AV), i + k = 4 ∧ i ≤ s.parts.l.length ∧ H.cells 0 = some [.sc (.str s.title), .sc (.bool s.written), slm Part.enc s.parts, slm Measure.enc s.measures, slm Spanner.enc s.spanners, slm ID.enc s.last] ∧
    H.cells 1 = some [.sc (.str ⟨#[]⟩), .sc (.bool false), .sc .nils, .sc .nils, .sc .nils, .sc .nils] ∧
    H.cells 2 = some [.sc (.str s.short.title), .sc (.bool s.written), a, .sc .nils, slm Spanner.enc s.short.spanners, slm ID.enc s.short.last] ∧
    Acc 5 6 Part.enc H a (Sl.of ((s.parts.l.take i).map Part.short)) fp ∧ (∀ b ∈ fp, 3 ≤ b) ∧
    ∃ x : Nat → AV, t = [s.enc, .ptr 0 0, .ptr 1 0, .ptr 2 0, .sc (.int .i64 i), x 5, x 6, x 7, x 8, x 9, x 10, x 11, x 12, x 13, x 14, x 15, x 16, x 17, x 18, x 19, x 20, x 21, x 22, x 23, x 24, x 25, x 26, x 27, x 28, x 29, x 30, x 31, x 32, x 33, x 34, x 35, x 36, x 37, x 38, x 39, x 40, x 41, x 42, x 43, x 44, x 45, x 46, x 47, x 48, x 49, x 50, x 51, x 52, x 53, x 54, x 55, x 56, x 57, x 58, x 59, x 60, x 61, x 62, x 63, x 64, x 65, x 66, x 67, x 68, x 69, x 70, x 71, x 72, x 73, .sc .undef]) (k := 4) ?_
    ⟨0, [], _, rfl, Nat.zero_le _, ?_, ?_, ?_, acc_none, by simp, ex_x rfl⟩
  rotate_left
  · simp -implicitDefEqProofs (maxDischargeDepth := 12) only [WW,List.replicate,e_splice,if_true,if_false,ite_true,ite_false,true_or,ne_eq,Nat.reduceAdd,Nat.reduceSub,Nat.reduceMul,Nat.reduceLeDiff,Nat.reduceEqDiff,Nat.reduceGT,Nat.reduceLT,Int.reduceLE,Int.reduceLT,Int.reduceToNat,Int.reduceAdd,reduceCtorEq,h_putc,beq_self_eq_true,eq_self,exists_eq_left,exists_eq_left']
  · simp -implicitDefEqProofs (maxDischargeDepth := 12) only [WW,List.replicate,e_splice,if_true,if_false,ite_true,ite_false,true_or,ne_eq,Nat.reduceAdd,Nat.reduceSub,Nat.reduceMul,Nat.reduceLeDiff,Nat.reduceEqDiff,Nat.reduceGT,Nat.reduceLT,Int.reduceLE,Int.reduceLT,Int.reduceToNat,Int.reduceAdd,reduceCtorEq,h_putc,beq_self_eq_true,eq_self,exists_eq_left,exists_eq_left']
  · simp -implicitDefEqProofs (maxDischargeDepth := 12) only [WW,List.replicate,e_splice,if_true,if_false,ite_true,ite_false,true_or,ne_eq,Nat.reduceAdd,Nat.reduceSub,Nat.reduceMul,Nat.reduceLeDiff,Nat.reduceEqDiff,Nat.reduceGT,Nat.reduceLT,Int.reduceLE,Int.reduceLT,Int.reduceToNat,Int.reduceAdd,reduceCtorEq,h_putc,beq_self_eq_true,eq_self,exists_eq_left,exists_eq_left']; rfl
  rintro k t H ⟨i, fp, a, hk, hi, hH0, hH1, hH2, hA, hfp, x, rfl⟩
  by_cases h1 : (i : Int) < (s.parts.l.length : Int)
  · by_cases h2 : (i : Int) < 4
    · obtain ⟨y, hy⟩ : ∃ y, s.parts.l[i]? = some y := ⟨_, List.getElem?_eq_getElem (by omega)⟩
      have e2 : IntKind.i64.wrap ((i : Int) + 1) = ((i + 1 : Nat) : Int) := by rw [w64 (by omega) (by omega)]; omega
      simp -implicitDefEqProofs (maxDischargeDepth := 12) only [WW,List.replicate,e_splice,if_true,if_false,ite_true,ite_false,true_or,ne_eq,Nat.reduceAdd,Nat.reduceSub,Nat.reduceMul,Nat.reduceLeDiff,Nat.reduceEqDiff,Nat.reduceGT,Nat.reduceLT,Int.reduceLE,Int.reduceLT,Int.reduceToNat,Int.reduceAdd,reduceCtorEq,h_putc,beq_self_eq_true,eq_self,exists_eq_left,exists_eq_left', hH0, hH2, h1, h2, hy, y.enc_eq]
      rw [← y.enc_eq]
      refine wA_pure hp5 (shortPart_pv y) ?_
      simp -implicitDefEqProofs (maxDischargeDepth := 12) only [WW,List.replicate,e_splice,if_true,if_false,ite_true,ite_false,true_or,ne_eq,Nat.reduceAdd,Nat.reduceSub,Nat.reduceMul,Nat.reduceLeDiff,Nat.reduceEqDiff,Nat.reduceGT,Nat.reduceLT,Int.reduceLE,Int.reduceLT,Int.reduceToNat,Int.reduceAdd,reduceCtorEq,h_putc,beq_self_eq_true,eq_self,exists_eq_left,exists_eq_left', y.short.enc_eq]
      refine wA_app2 row_Part hA (by repeat (first | exact Keep.refl | refine Keep.put (by (try simp only [AHeap.next_alloc, AHeap.next_put]); omega) ?_ | refine Keep.alloc (by (try simp only [AHeap.next_alloc, AHeap.next_put]); omega) ?_)) (by simp) (ys := [y.short]) (by simp) rfl (asrc_new (by simp) rfl) (own_one (Part.enc_plain y.short) y.short.enc_eq) Apart.nil_right ?_ ?_
      · rw [l_of]; simp only [List.length_map, List.length_take, List.length_cons, List.length_nil]; omega
      intro v' H2 fp' hA' hn2 hk2 hfp2 ho2 hc2
      rw [of_snoc, ← List.map_singleton, ← List.map_append, ← take_snoc hy] at hA'
      have l1 := h_lt hH2
      have g0 := (hk2 0 (fun h => by have := hfp 0 h; omega) (by omega)).trans hH0
      have g1 := (hk2 1 (fun h => by have := hfp 1 h; omega) (by omega)).trans hH1
      have g2 := (hk2 2 (fun h => by have := hfp 2 h; omega) (by omega)).trans hH2
      have hfp3 : ∀ b ∈ fp', 3 ≤ b := fun b hb => by
        rcases hfp2 b hb with h | h | h
        · exact hfp b h
        · simp at h
        · omega
      simp -implicitDefEqProofs (maxDischargeDepth := 12) only [WW,List.replicate,e_splice,if_true,if_false,ite_true,ite_false,true_or,ne_eq,Nat.reduceAdd,Nat.reduceSub,Nat.reduceMul,Nat.reduceLeDiff,Nat.reduceEqDiff,Nat.reduceGT,Nat.reduceLT,Int.reduceLE,Int.reduceLT,Int.reduceToNat,Int.reduceAdd,reduceCtorEq,h_putc,beq_self_eq_true,eq_self,exists_eq_left,exists_eq_left', e2, g0, g1, g2, ho2, hc2]
      exact ⟨k - 1, by omega, i + 1, fp', v', by omega, by omega, rfl, hA'.fr fun b hb => h_put_ne (by have := hfp3 b hb; omega), hfp3, ex_x rfl⟩
    · simp -implicitDefEqProofs (maxDischargeDepth := 12) only [WW,List.replicate,e_splice,if_true,if_false,ite_true,ite_false,true_or,ne_eq,Nat.reduceAdd,Nat.reduceSub,Nat.reduceMul,Nat.reduceLeDiff,Nat.reduceEqDiff,Nat.reduceGT,Nat.reduceLT,Int.reduceLE,Int.reduceLT,Int.reduceToNat,Int.reduceAdd,reduceCtorEq,h_putc,beq_self_eq_true,eq_self,exists_eq_left,exists_eq_left', hH0, hH1, hH2, h1, h2, hA.one]
      have hi3 : s.parts.l.take i = s.parts.l.take 4 := by rw [List.take_eq_take_iff]; omega
      rw [hi3] at hA
      have hP := hA
      have hfpP := hfp
      clear hA hfp
      refine wp_loop (Inv := fun k t H => ∃ (i : Nat) (fq : List Nat) (b : AV), i + k = 5 ∧ i ≤ s.measures.l.length ∧ H.cells 0 = some [.sc (.str s.title), .sc (.bool s.written), slm Part.enc s.parts, slm Measure.enc s.measures, slm Spanner.enc s.spanners, slm ID.enc s.last] ∧
        H.cells 1 = some [.sc (.str ⟨#[]⟩), .sc (.bool false), .sc .nils, .sc .nils, .sc .nils, .sc .nils] ∧
        H.cells 2 = some [.sc (.str s.short.title), .sc (.bool s.written), a, b, slm Spanner.enc s.short.spanners, slm ID.enc s.short.last] ∧
        Acc 5 6 Part.enc H a (Sl.of ((s.parts.l.take 4).map Part.short)) fp ∧ Acc 6 22 Measure.enc H b (Sl.of ((s.measures.l.take i).map Measure.short)) fq ∧ (∀ b ∈ fq, 3 ≤ b) ∧ Apart fp fq ∧
        ∃ x : Nat → AV, t = [s.enc, .ptr 0 0, .ptr 1 0, .ptr 2 0, x 4, .sc (.int .i64 i), x 6, x 7, x 8, x 9, x 10, x 11, x 12, x 13, x 14, x 15, x 16, x 17, x 18, x 19, x 20, x 21, x 22, x 23, x 24, x 25, x 26, x 27, x 28, x 29, x 30, x 31, x 32, x 33, x 34, x 35, x 36, x 37, x 38, x 39, x 40, x 41, x 42, x 43, x 44, x 45, x 46, x 47, x 48, x 49, x 50, x 51, x 52, x 53, x 54, x 55, x 56, x 57, x 58, x 59, x 60, x 61, x 62, x 63, x 64, x 65, x 66, x 67, x 68, x 69, x 70, x 71, x 72, x 73, .sc .undef]) (k := 5) ?_
        ⟨0, [], _, rfl, Nat.zero_le _, hH0, hH1, hH2, hP, acc_none, by simp, Apart.nil_right, ex_x rfl⟩
      clear hH0 hH1 hH2 hP x hi h1 hk hi3
      rintro k t H ⟨i, fq, c, hk, hi, hH0, hH1, hH2, hP, hA, hfp, hap, x, rfl⟩
      by_cases h1 : (i : Int) < (s.measures.l.length : Int)
      · by_cases h2 : (i : Int) < 5
        · obtain ⟨y, hy⟩ : ∃ y, s.measures.l[i]? = some y := ⟨_, List.getElem?_eq_getElem (by omega)⟩
          have e2 : IntKind.i64.wrap ((i : Int) + 1) = ((i + 1 : Nat) : Int) := by rw [w64 (by omega) (by omega)]; omega
          simp -implicitDefEqProofs (maxDischargeDepth := 12) only [WW,List.replicate,e_splice,if_true,if_false,ite_true,ite_false,true_or,ne_eq,Nat.reduceAdd,Nat.reduceSub,Nat.reduceMul,Nat.reduceLeDiff,Nat.reduceEqDiff,Nat.reduceGT,Nat.reduceLT,Int.reduceLE,Int.reduceLT,Int.reduceToNat,Int.reduceAdd,reduceCtorEq,h_putc,beq_self_eq_true,eq_self,exists_eq_left,exists_eq_left', hH0, hH2, h1, h2, hy, y.enc_eq]
          rw [← y.enc_eq]
          refine wA_pure hp4 (shortMeasure_pv hp hp2 hp3 y) ?_
          simp -implicitDefEqProofs (maxDischargeDepth := 12) only [WW,List.replicate,e_splice,if_true,if_false,ite_true,ite_false,true_or,ne_eq,Nat.reduceAdd,Nat.reduceSub,Nat.reduceMul,Nat.reduceLeDiff,Nat.reduceEqDiff,Nat.reduceGT,Nat.reduceLT,Int.reduceLE,Int.reduceLT,Int.reduceToNat,Int.reduceAdd,reduceCtorEq,h_putc,beq_self_eq_true,eq_self,exists_eq_left,exists_eq_left', y.short.enc_eq]
          refine wA_app2 row_Measure hA (by repeat (first | exact Keep.refl | refine Keep.put (by (try simp only [AHeap.next_alloc, AHeap.next_put]); omega) ?_ | refine Keep.alloc (by (try simp only [AHeap.next_alloc, AHeap.next_put]); omega) ?_)) (by simp) (ys := [y.short]) (by simp) rfl (asrc_new (by simp) rfl) (own_one (Measure.enc_plain y.short) y.short.enc_eq) Apart.nil_right ?_ ?_
          · rw [l_of]; simp only [List.length_map, List.length_take, List.length_cons, List.length_nil]; omega
          intro v' H2 fp' hA' hn2 hk2 hfp2 ho2 hc2
          rw [of_snoc, ← List.map_singleton, ← List.map_append, ← take_snoc hy] at hA'
          have l1 := h_lt hH2
          have g0 := (hk2 0 (fun h => by have := hfp 0 h; omega) (by omega)).trans hH0
          have g1 := (hk2 1 (fun h => by have := hfp 1 h; omega) (by omega)).trans hH1
          have g2 := (hk2 2 (fun h => by have := hfp 2 h; omega) (by omega)).trans hH2
          have hfp3 : ∀ b ∈ fp', 3 ≤ b := fun b hb => by
            rcases hfp2 b hb with h | h | h
            · exact hfp b h
            · simp at h
            · omega
          have hlts := hP.lts
          simp -implicitDefEqProofs (maxDischargeDepth := 12) only [WW,List.replicate,e_splice,if_true,if_false,ite_true,ite_false,true_or,ne_eq,Nat.reduceAdd,Nat.reduceSub,Nat.reduceMul,Nat.reduceLeDiff,Nat.reduceEqDiff,Nat.reduceGT,Nat.reduceLT,Int.reduceLE,Int.reduceLT,Int.reduceToNat,Int.reduceAdd,reduceCtorEq,h_putc,beq_self_eq_true,eq_self,exists_eq_left,exists_eq_left', e2, g0, g1, g2, ho2, hc2]
          refine ⟨k - 1, by omega, i + 1, fp', v', by omega, by omega, rfl, hP.fr fun b hb => ?_, hA'.fr fun b hb => h_put_ne (by have := hfp3 b hb; omega), hfp3, fun b hb hb2 => ?_, ex_x rfl⟩
          · rw [h_put_ne (by have := hfpP b hb; omega), hk2 b (hap b hb) (hlts b hb)]
          · rcases hfp2 b hb2 with h | h | h
            · exact hap b hb h
            · simp at h
            · have := hlts b hb; omega
        · simp -implicitDefEqProofs (maxDischargeDepth := 12) only [WW,List.replicate,e_splice,if_true,if_false,ite_true,ite_false,true_or,ne_eq,Nat.reduceAdd,Nat.reduceSub,Nat.reduceMul,Nat.reduceLeDiff,Nat.reduceEqDiff,Nat.reduceGT,Nat.reduceLT,Int.reduceLE,Int.reduceLT,Int.reduceToNat,Int.reduceAdd,reduceCtorEq,h_putc,beq_self_eq_true,eq_self,exists_eq_left,exists_eq_left', hH0, hH1, hH2, h1, h2, hP.one, hA.one]
          have hi3 : s.measures.l.take i = s.measures.l.take 5 := by rw [List.take_eq_take_iff]; omega
          rw [hi3] at hA
          obtain ⟨fq2, hO, hq2⟩ := hA.own row_Measure
          obtain ⟨fq3, hO3, hq3⟩ := hP.own row_Part
          refine Own.frz (d := 8) (fp := [] ++ ([] ++ (fq3 ++ (fq2 ++ ([] ++ ([] ++ [])))))) (u := s.short.enc) ⟨_, rfl, ?_⟩ (by omega)
          have w : ∀ b ∈ fq2, ∀ z, (H.put 1 (some (.cells z))).cells b = H.cells b := fun b hb z => h_put_ne (by have := hfp b (hq2 b hb); omega)
          have w3 : ∀ b ∈ fq3, ∀ z, (H.put 1 (some (.cells z))).cells b = H.cells b := fun b hb z => h_put_ne (by have := hfpP b (hq3 b hb); omega)
          refine .cons (Own.plain rfl) (.cons (Own.plain rfl) (.cons ((hO3.mono (by decide)).frame fun b hb => w3 b hb _) (.cons ((hO.mono (by decide)).frame fun b hb => w b hb _) (.cons (Own.plain (plain1_slm Spanner.enc_closed)) (.cons (Own.plain (plain1_slm ID.enc_closed)) .nil Apart.nil_right) Apart.nil_left) ?_) ?_) Apart.nil_left) Apart.nil_left
          · simpa using Apart.nil_right
          · intro b hb hb2
            simp only [List.append_nil, List.nil_append] at hb2
            exact hap b (hq3 b hb) (hq2 b hb2)
      · simp -implicitDefEqProofs (maxDischargeDepth := 12) only [WW,List.replicate,e_splice,if_true,if_false,ite_true,ite_false,true_or,ne_eq,Nat.reduceAdd,Nat.reduceSub,Nat.reduceMul,Nat.reduceLeDiff,Nat.reduceEqDiff,Nat.reduceGT,Nat.reduceLT,Int.reduceLE,Int.reduceLT,Int.reduceToNat,Int.reduceAdd,reduceCtorEq,h_putc,beq_self_eq_true,eq_self,exists_eq_left,exists_eq_left', hH0, hH1, hH2, h1, hP.one, hA.one]
        have hi3 : s.measures.l.take i = s.measures.l.take 5 := by rw [List.take_eq_take_iff]; omega
        rw [hi3] at hA
        obtain ⟨fq2, hO, hq2⟩ := hA.own row_Measure
        obtain ⟨fq3, hO3, hq3⟩ := hP.own row_Part
        refine Own.frz (d := 8) (fp := [] ++ ([] ++ (fq3 ++ (fq2 ++ ([] ++ ([] ++ [])))))) (u := s.short.enc) ⟨_, rfl, ?_⟩ (by omega)
        have w : ∀ b ∈ fq2, ∀ z, (H.put 1 (some (.cells z))).cells b = H.cells b := fun b hb z => h_put_ne (by have := hfp b (hq2 b hb); omega)
        have w3 : ∀ b ∈ fq3, ∀ z, (H.put 1 (some (.cells z))).cells b = H.cells b := fun b hb z => h_put_ne (by have := hfpP b (hq3 b hb); omega)
        refine .cons (Own.plain rfl) (.cons (Own.plain rfl) (.cons ((hO3.mono (by decide)).frame fun b hb => w3 b hb _) (.cons ((hO.mono (by decide)).frame fun b hb => w b hb _) (.cons (Own.plain (plain1_slm Spanner.enc_closed)) (.cons (Own.plain (plain1_slm ID.enc_closed)) .nil Apart.nil_right) Apart.nil_left) ?_) ?_) Apart.nil_left) Apart.nil_left
        · simpa using Apart.nil_right
        · intro b hb hb2
          simp only [List.append_nil, List.nil_append] at hb2
          exact hap b (hq3 b hb) (hq2 b hb2)
  · simp -implicitDefEqProofs (maxDischargeDepth := 12) only [WW,List.replicate,e_splice,if_true,if_false,ite_true,ite_false,true_or,ne_eq,Nat.reduceAdd,Nat.reduceSub,Nat.reduceMul,Nat.reduceLeDiff,Nat.reduceEqDiff,Nat.reduceGT,Nat.reduceLT,Int.reduceLE,Int.reduceLT,Int.reduceToNat,Int.reduceAdd,reduceCtorEq,h_putc,beq_self_eq_true,eq_self,exists_eq_left,exists_eq_left', hH0, hH1, hH2, h1, hA.one]
    have hi3 : s.parts.l.take i = s.parts.l.take 4 := by rw [List.take_eq_take_iff]; omega
    rw [hi3] at hA
    have hP := hA
    have hfpP := hfp
    clear hA hfp
    refine wp_loop (Inv := fun k t H => ∃ (i : Nat) (fq : List Nat) (b : AV), i + k = 5 ∧ i ≤ s.measures.l.length ∧ H.cells 0 = some [.sc (.str s.title), .sc (.bool s.written), slm Part.enc s.parts, slm Measure.enc s.measures, slm Spanner.enc s.spanners, slm ID.enc s.last] ∧
      H.cells 1 = some [.sc (.str ⟨#[]⟩), .sc (.bool false), .sc .nils, .sc .nils, .sc .nils, .sc .nils] ∧
      H.cells 2 = some [.sc (.str s.short.title), .sc (.bool s.written), a, b, slm Spanner.enc s.short.spanners, slm ID.enc s.short.last] ∧
      Acc 5 6 Part.enc H a (Sl.of ((s.parts.l.take 4).map Part.short)) fp ∧ Acc 6 22 Measure.enc H b (Sl.of ((s.measures.l.take i).map Measure.short)) fq ∧ (∀ b ∈ fq, 3 ≤ b) ∧ Apart fp fq ∧
      ∃ x : Nat → AV, t = [s.enc, .ptr 0 0, .ptr 1 0, .ptr 2 0, x 4, .sc (.int .i64 i), x 6, x 7, x 8, x 9, x 10, x 11, x 12, x 13, x 14, x 15, x 16, x 17, x 18, x 19, x 20, x 21, x 22, x 23, x 24, x 25, x 26, x 27, x 28, x 29, x 30, x 31, x 32, x 33, x 34, x 35, x 36, x 37, x 38, x 39, x 40, x 41, x 42, x 43, x 44, x 45, x 46, x 47, x 48, x 49, x 50, x 51, x 52, x 53, x 54, x 55, x 56, x 57, x 58, x 59, x 60, x 61, x 62, x 63, x 64, x 65, x 66, x 67, x 68, x 69, x 70, x 71, x 72, x 73, .sc .undef]) (k := 5) ?_
      ⟨0, [], _, rfl, Nat.zero_le _, hH0, hH1, hH2, hP, acc_none, by simp, Apart.nil_right, ex_x rfl⟩
    clear hH0 hH1 hH2 hP x hi h1 hk hi3
    rintro k t H ⟨i, fq, c, hk, hi, hH0, hH1, hH2, hP, hA, hfp, hap, x, rfl⟩
    by_cases h1 : (i : Int) < (s.measures.l.length : Int)
    · by_cases h2 : (i : Int) < 5
      · obtain ⟨y, hy⟩ : ∃ y, s.measures.l[i]? = some y := ⟨_, List.getElem?_eq_getElem (by omega)⟩
        have e2 : IntKind.i64.wrap ((i : Int) + 1) = ((i + 1 : Nat) : Int) := by rw [w64 (by omega) (by omega)]; omega
        simp -implicitDefEqProofs (maxDischargeDepth := 12) only [WW,List.replicate,e_splice,if_true,if_false,ite_true,ite_false,true_or,ne_eq,Nat.reduceAdd,Nat.reduceSub,Nat.reduceMul,Nat.reduceLeDiff,Nat.reduceEqDiff,Nat.reduceGT,Nat.reduceLT,Int.reduceLE,Int.reduceLT,Int.reduceToNat,Int.reduceAdd,reduceCtorEq,h_putc,beq_self_eq_true,eq_self,exists_eq_left,exists_eq_left', hH0, hH2, h1, h2, hy, y.enc_eq]
        rw [← y.enc_eq]
        refine wA_pure hp4 (shortMeasure_pv hp hp2 hp3 y) ?_
        simp -implicitDefEqProofs (maxDischargeDepth := 12) only [WW,List.replicate,e_splice,if_true,if_false,ite_true,ite_false,true_or,ne_eq,Nat.reduceAdd,Nat.reduceSub,Nat.reduceMul,Nat.reduceLeDiff,Nat.reduceEqDiff,Nat.reduceGT,Nat.reduceLT,Int.reduceLE,Int.reduceLT,Int.reduceToNat,Int.reduceAdd,reduceCtorEq,h_putc,beq_self_eq_true,eq_self,exists_eq_left,exists_eq_left', y.short.enc_eq]
        refine wA_app2 row_Measure hA (by repeat (first | exact Keep.refl | refine Keep.put (by (try simp only [AHeap.next_alloc, AHeap.next_put]); omega) ?_ | refine Keep.alloc (by (try simp only [AHeap.next_alloc, AHeap.next_put]); omega) ?_)) (by simp) (ys := [y.short]) (by simp) rfl (asrc_new (by simp) rfl) (own_one (Measure.enc_plain y.short) y.short.enc_eq) Apart.nil_right ?_ ?_
        · rw [l_of]; simp only [List.length_map, List.length_take, List.length_cons, List.length_nil]; omega
        intro v' H2 fp' hA' hn2 hk2 hfp2 ho2 hc2
        rw [of_snoc, ← List.map_singleton, ← List.map_append, ← take_snoc hy] at hA'
        have l1 := h_lt hH2
        have g0 := (hk2 0 (fun h => by have := hfp 0 h; omega) (by omega)).trans hH0
        have g1 := (hk2 1 (fun h => by have := hfp 1 h; omega) (by omega)).trans hH1
        have g2 := (hk2 2 (fun h => by have := hfp 2 h; omega) (by omega)).trans hH2
        have hfp3 : ∀ b ∈ fp', 3 ≤ b := fun b hb => by
          rcases hfp2 b hb with h | h | h
          · exact hfp b h
          · simp at h
          · omega
        have hlts := hP.lts
        simp -implicitDefEqProofs (maxDischargeDepth := 12) only [WW,List.replicate,e_splice,if_true,if_false,ite_true,ite_false,true_or,ne_eq,Nat.reduceAdd,Nat.reduceSub,Nat.reduceMul,Nat.reduceLeDiff,Nat.reduceEqDiff,Nat.reduceGT,Nat.reduceLT,Int.reduceLE,Int.reduceLT,Int.reduceToNat,Int.reduceAdd,reduceCtorEq,h_putc,beq_self_eq_true,eq_self,exists_eq_left,exists_eq_left', e2, g0, g1, g2, ho2, hc2]
        refine ⟨k - 1, by omega, i + 1, fp', v', by omega, by omega, rfl, hP.fr fun b hb => ?_, hA'.fr fun b hb => h_put_ne (by have := hfp3 b hb; omega), hfp3, fun b hb hb2 => ?_, ex_x rfl⟩
        · rw [h_put_ne (by have := hfpP b hb; omega), hk2 b (hap b hb) (hlts b hb)]
        · rcases hfp2 b hb2 with h | h | h
          · exact hap b hb h
          · simp at h
          · have := hlts b hb; omega
      · simp -implicitDefEqProofs (maxDischargeDepth := 12) only [WW,List.replicate,e_splice,if_true,if_false,ite_true,ite_false,true_or,ne_eq,Nat.reduceAdd,Nat.reduceSub,Nat.reduceMul,Nat.reduceLeDiff,Nat.reduceEqDiff,Nat.reduceGT,Nat.reduceLT,Int.reduceLE,Int.reduceLT,Int.reduceToNat,Int.reduceAdd,reduceCtorEq,h_putc,beq_self_eq_true,eq_self,exists_eq_left,exists_eq_left', hH0, hH1, hH2, h1, h2, hP.one, hA.one]
        have hi3 : s.measures.l.take i = s.measures.l.take 5 := by rw [List.take_eq_take_iff]; omega
        rw [hi3] at hA
        obtain ⟨fq2, hO, hq2⟩ := hA.own row_Measure
        obtain ⟨fq3, hO3, hq3⟩ := hP.own row_Part
        refine Own.frz (d := 8) (fp := [] ++ ([] ++ (fq3 ++ (fq2 ++ ([] ++ ([] ++ [])))))) (u := s.short.enc) ⟨_, rfl, ?_⟩ (by omega)
        have w : ∀ b ∈ fq2, ∀ z, (H.put 1 (some (.cells z))).cells b = H.cells b := fun b hb z => h_put_ne (by have := hfp b (hq2 b hb); omega)
        have w3 : ∀ b ∈ fq3, ∀ z, (H.put 1 (some (.cells z))).cells b = H.cells b := fun b hb z => h_put_ne (by have := hfpP b (hq3 b hb); omega)
        refine .cons (Own.plain rfl) (.cons (Own.plain rfl) (.cons ((hO3.mono (by decide)).frame fun b hb => w3 b hb _) (.cons ((hO.mono (by decide)).frame fun b hb => w b hb _) (.cons (Own.plain (plain1_slm Spanner.enc_closed)) (.cons (Own.plain (plain1_slm ID.enc_closed)) .nil Apart.nil_right) Apart.nil_left) ?_) ?_) Apart.nil_left) Apart.nil_left
        · simpa using Apart.nil_right
        · intro b hb hb2
          simp only [List.append_nil, List.nil_append] at hb2
          exact hap b (hq3 b hb) (hq2 b hb2)
    · simp -implicitDefEqProofs (maxDischargeDepth := 12) only [WW,List.replicate,e_splice,if_true,if_false,ite_true,ite_false,true_or,ne_eq,Nat.reduceAdd,Nat.reduceSub,Nat.reduceMul,Nat.reduceLeDiff,Nat.reduceEqDiff,Nat.reduceGT,Nat.reduceLT,Int.reduceLE,Int.reduceLT,Int.reduceToNat,Int.reduceAdd,reduceCtorEq,h_putc,beq_self_eq_true,eq_self,exists_eq_left,exists_eq_left', hH0, hH1, hH2, h1, hP.one, hA.one]
      have hi3 : s.measures.l.take i = s.measures.l.take 5 := by rw [List.take_eq_take_iff]; omega
      rw [hi3] at hA
      obtain ⟨fq2, hO, hq2⟩ := hA.own row_Measure
      obtain ⟨fq3, hO3, hq3⟩ := hP.own row_Part
      refine Own.frz (d := 8) (fp := [] ++ ([] ++ (fq3 ++ (fq2 ++ ([] ++ ([] ++ [])))))) (u := s.short.enc) ⟨_, rfl, ?_⟩ (by omega)
      have w : ∀ b ∈ fq2, ∀ z, (H.put 1 (some (.cells z))).cells b = H.cells b := fun b hb z => h_put_ne (by have := hfp b (hq2 b hb); omega)
      have w3 : ∀ b ∈ fq3, ∀ z, (H.put 1 (some (.cells z))).cells b = H.cells b := fun b hb z => h_put_ne (by have := hfpP b (hq3 b hb); omega)
      refine .cons (Own.plain rfl) (.cons (Own.plain rfl) (.cons ((hO3.mono (by decide)).frame fun b hb => w3 b hb _) (.cons ((hO.mono (by decide)).frame fun b hb => w b hb _) (.cons (Own.plain (plain1_slm Spanner.enc_closed)) (.cons (Own.plain (plain1_slm ID.enc_closed)) .nil Apart.nil_right) Apart.nil_left) ?_) ?_) Apart.nil_left) Apart.nil_left
      · simpa using Apart.nil_right
      · intro b hb hb2
        simp only [List.append_nil, List.nil_append] at hb2
        exact hap b (hq3 b hb) (hq2 b hb2)
end Go.Hem
/- Walks: slices.Clone, whatever the elements; event.Clone. -/
set_option maxRecDepth 10000
set_option maxHeartbeats 4000000
set_option linter.unusedSimpArgs false
set_option linter.unusedVariables false
namespace Go.Hem
variable {pol : Pol}
def sclCode (n bytes : Nat) : CF := ⟨.seq (.ops [⟨some 2, none, .mv (.const (.slice none 0 0)), []⟩]) (.seq (.seq (.ops [⟨some 3, none, .mv (.tmp 0), []⟩, ⟨some 4, none, .bnil false .slice (.tmp 3) (.const (.slice none 0 0)), []⟩]) (.cond (.tmp 4) (.seq (.ops [⟨some 2, none, .mv (.const (.slice none 0 0)), []⟩]) .ret) .skip)) (.seq (.ops [⟨some 5, none, .eslice 0 n, []⟩, ⟨some 6, none, .mv (.tmp 0), []⟩, ⟨some 7, none, .app n bytes (.tmp 5) (.tmp 6), []⟩, ⟨some 2, none, .mv (.tmp 7), []⟩]) .ret)), 8, [.tmp 2]⟩
/-- A copy of a list of plain elements: fresh, what lies below stays. -/
def Fresh (H0 H' : AHeap) (fp : List Nat) : Prop := (∀ b ∈ fp, H0.next ≤ b) ∧ H0.next ≤ H'.next ∧ Keep H0.next H0 H'
theorem sclone_ok {α : Type} {f : α → AV} {n bytes : Nat} {fn : FuncId} (row : RowOf n f) (hlen : ∀ x, (f x).cells.length = n) (hsc : ∀ x, (f x).cells.all AV.isSc = true) (hf : compF prog fn = some (sclCode n bytes)) (a : Sl α) (ha : a.l.length < 1000000) (hb : bytes ≤ 1000) (H0 : AHeap) :
    Ev prog pol (.call fn [slm f a]) H0 fun o H' => ∃ v fp, o = .val v ∧ AccX false 1 n f H' v a fp ∧ Fresh H0 H' fp := by
  refine (wpF_ok hf (Q := fun v H' => ∃ fp, AccX false 1 n f H' v a fp ∧ Fresh H0 H' fp) ?_).mono ?_
  rotate_left
  · rintro o H' ⟨v, rfl, fp, h⟩; exact ⟨v, fp, rfl, h⟩
  cases a with
  | none =>
    simp -implicitDefEqProofs (maxDischargeDepth := 12) only [wpF, sclCode, WW,List.replicate,e_splice,if_true,if_false,ite_true,ite_false,true_or,ne_eq,Nat.reduceAdd,Nat.reduceSub,Nat.reduceMul,Nat.reduceLeDiff,Nat.reduceEqDiff,Nat.reduceGT,Nat.reduceLT,Int.reduceLE,Int.reduceLT,Int.reduceToNat,Int.reduceAdd,reduceCtorEq,h_putc,beq_self_eq_true,eq_self,exists_eq_left,exists_eq_left', Option.isNone_none, Bool.bne_false]
    exact ⟨[], acc_none, by simp, Nat.le_refl _, Keep.refl⟩
  | some l =>
    simp only [Sl.l, Option.getD_some] at ha
    have e1 : alen (slm f (some l)) = some l.length := by rw [e_alenm]; rfl
    have e2 : asrc n (H0.alloc (.cells [])) (slm f (some l)) l.length = some (l.flatMap fun v => (f v).cells) := by
      rw [e_srcm hlen (by simp [Sl.l])]; simp [Sl.l]
    have hbig : (2 * (0 + l.length) + 1000) * bytes ≤ 2 ^ 47 := by
      have : (2 * (0 + l.length) + 1000) * bytes ≤ (2 * (0 + l.length) + 1000) * 1000 := Nat.mul_le_mul_left _ hb
      omega
    have own : ∀ H, OwnL (OwnX false 1) H (l.flatMap fun x => (f x).cells) (l.flatMap fun x => (f x).cells) [] := fun H => OwnL.scal (by
      simp only [List.all_eq_true]
      intro v hv
      obtain ⟨x, _, hx⟩ := List.mem_flatMap.1 hv
      exact List.all_eq_true.1 (hsc x) v hx)
    by_cases h0 : l = []
    · subst h0
      have e1' : alen (slm f (some [])) = some 0 := rfl
      have e2' : asrc n (H0.alloc (.cells [])) (slm f (some [])) 0 = some [] := by simpa using e2
      have sp : splice [] 0 [] = ([] : List AV) := rfl
      simp -implicitDefEqProofs (maxDischargeDepth := 12) only [wpF, sclCode, WW,List.replicate,e_splice,if_true,if_false,ite_true,ite_false,true_or,ne_eq,Nat.reduceAdd,Nat.reduceSub,Nat.reduceMul,Nat.reduceLeDiff,Nat.reduceEqDiff,Nat.reduceGT,Nat.reduceLT,Int.reduceLE,Int.reduceLT,Int.reduceToNat,Int.reduceAdd,reduceCtorEq,h_putc,beq_self_eq_true,eq_self,exists_eq_left,exists_eq_left', Option.isNone_some, Bool.bne_false, appTo, e1', e2', Nat.zero_mul, sp]
      refine ⟨[H0.next], .inr ⟨H0.next, 0, [], [], [], [], rfl, rfl, Nat.le_refl _, ?_, by simp, by simp, .nil, by simp, rfl⟩, by simp, by simp, (by repeat (first | exact Keep.refl | refine Keep.put (by (try simp only [AHeap.next_alloc, AHeap.next_put]); omega) ?_ | refine Keep.alloc (by (try simp only [AHeap.next_alloc, AHeap.next_put]); omega) ?_))⟩
      simp -implicitDefEqProofs (maxDischargeDepth := 12) only [WW,List.replicate,e_splice,if_true,if_false,ite_true,ite_false,true_or,ne_eq,Nat.reduceAdd,Nat.reduceSub,Nat.reduceMul,Nat.reduceLeDiff,Nat.reduceEqDiff,Nat.reduceGT,Nat.reduceLT,Int.reduceLE,Int.reduceLT,Int.reduceToNat,Int.reduceAdd,reduceCtorEq,h_putc,beq_self_eq_true,eq_self,exists_eq_left,exists_eq_left']
    · have h1 : ¬ l.length = 0 := by simpa using h0
      have h2 : ¬ (0 + l.length ≤ 0) := by omega
      have h3 : ¬ (l.length ≤ 0) := by omega
      have hb2 := hbig
      rw [Nat.zero_add] at hb2
      simp -implicitDefEqProofs (maxDischargeDepth := 12) only [wpF, sclCode, WW,List.replicate,e_splice,if_true,if_false,ite_true,ite_false,true_or,ne_eq,Nat.reduceAdd,Nat.reduceSub,Nat.reduceMul,Nat.reduceLeDiff,Nat.reduceEqDiff,Nat.reduceGT,Nat.reduceLT,Int.reduceLE,Int.reduceLT,Int.reduceToNat,Int.reduceAdd,reduceCtorEq,h_putc,beq_self_eq_true,eq_self,exists_eq_left,exists_eq_left', Option.isNone_some, Bool.bne_false, appTo, e1, e2, h2, h3, hbig, hb2, Nat.zero_mul]
      refine ⟨[H0.next + 1], .inr ⟨H0.next + 1, l.length, _, [], [], l, rfl, rfl, Nat.le_refl _, by simp -implicitDefEqProofs (maxDischargeDepth := 12) only [WW,List.replicate,e_splice,if_true,if_false,ite_true,ite_false,true_or,ne_eq,Nat.reduceAdd,Nat.reduceSub,Nat.reduceMul,Nat.reduceLeDiff,Nat.reduceEqDiff,Nat.reduceGT,Nat.reduceLT,Int.reduceLE,Int.reduceLT,Int.reduceToNat,Int.reduceAdd,reduceCtorEq,h_putc,beq_self_eq_true,eq_self,exists_eq_left,exists_eq_left'], flat_len row l, by simp, own _, by simp, rfl⟩, by simp, by simp only [AHeap.next_alloc, AHeap.next_put]; omega, (by repeat (first | exact Keep.refl | refine Keep.put (by (try simp only [AHeap.next_alloc, AHeap.next_put]); omega) ?_ | refine Keep.alloc (by (try simp only [AHeap.next_alloc, AHeap.next_put]); omega) ?_))⟩
theorem row_Spanner' : RowOf 7 Spanner.enc := ⟨by decide, fun _ => ⟨rfl, rfl⟩⟩
theorem sclSpanner_ok (a : Sl Spanner) (ha : a.l.length < 1000000) (H0 : AHeap) : Ev prog pol (.call 84 [slm Spanner.enc a]) H0 fun o H' => ∃ v fp, o = .val v ∧ AccX false 1 7 Spanner.enc H' v a fp ∧ Fresh H0 H' fp :=
  sclone_ok row_Spanner' Spanner.enc_len (fun _ => rfl) (bytes := 56) ok84 a ha (by decide) H0
theorem row_ID' : RowOf 2 ID.enc := ⟨by decide, fun _ => ⟨rfl, rfl⟩⟩
theorem sclID_ok (a : Sl ID) (ha : a.l.length < 1000000) (H0 : AHeap) : Ev prog pol (.call 85 [slm ID.enc a]) H0 fun o H' => ∃ v fp, o = .val v ∧ AccX false 1 2 ID.enc H' v a fp ∧ Fresh H0 H' fp :=
  sclone_ok row_ID' ID.enc_len (fun _ => rfl) (bytes := 16) ok85 a ha (by decide) H0
theorem row_ClefChange' : RowOf 2 ClefChange.enc := ⟨by decide, fun _ => ⟨rfl, rfl⟩⟩
theorem sclClefChange_ok (a : Sl ClefChange) (ha : a.l.length < 1000000) (H0 : AHeap) : Ev prog pol (.call 117 [slm ClefChange.enc a]) H0 fun o H' => ∃ v fp, o = .val v ∧ AccX false 1 2 ClefChange.enc H' v a fp ∧ Fresh H0 H' fp :=
  sclone_ok row_ClefChange' ClefChange.enc_len (fun _ => rfl) (bytes := 16) ok117 a ha (by decide) H0
theorem row_Staff' : RowOf 3 Staff.enc := ⟨by decide, fun _ => ⟨rfl, rfl⟩⟩
theorem sclStaff_ok (a : Sl Staff) (ha : a.l.length < 1000000) (H0 : AHeap) : Ev prog pol (.call 123 [slm Staff.enc a]) H0 fun o H' => ∃ v fp, o = .val v ∧ AccX false 1 3 Staff.enc H' v a fp ∧ Fresh H0 H' fp :=
  sclone_ok row_Staff' Staff.enc_len (fun _ => rfl) (bytes := 24) ok123 a ha (by decide) H0
theorem row_Tempo' : RowOf 3 Tempo.enc := ⟨by decide, fun _ => ⟨rfl, rfl⟩⟩
theorem sclTempo_ok (a : Sl Tempo) (ha : a.l.length < 1000000) (H0 : AHeap) : Ev prog pol (.call 124 [slm Tempo.enc a]) H0 fun o H' => ∃ v fp, o = .val v ∧ AccX false 1 3 Tempo.enc H' v a fp ∧ Fresh H0 H' fp :=
  sclone_ok row_Tempo' Tempo.enc_len (fun _ => rfl) (bytes := 24) ok124 a ha (by decide) H0
theorem row_Head' : RowOf 5 Head.enc := ⟨by decide, fun _ => ⟨rfl, rfl⟩⟩
theorem sclHead_ok (a : Sl Head) (ha : a.l.length < 1000000) (H0 : AHeap) : Ev prog pol (.call 129 [slm Head.enc a]) H0 fun o H' => ∃ v fp, o = .val v ∧ AccX false 1 5 Head.enc H' v a fp ∧ Fresh H0 H' fp :=
  sclone_ok row_Head' Head.enc_len (fun _ => rfl) (bytes := 40) ok129 a ha (by decide) H0
theorem row_Grace' : RowOf 5 Grace.enc := ⟨by decide, fun _ => ⟨rfl, rfl⟩⟩
theorem sclGrace_ok (a : Sl Grace) (ha : a.l.length < 1000000) (H0 : AHeap) : Ev prog pol (.call 130 [slm Grace.enc a]) H0 fun o H' => ∃ v fp, o = .val v ∧ AccX false 1 5 Grace.enc H' v a fp ∧ Fresh H0 H' fp :=
  sclone_ok row_Grace' Grace.enc_len (fun _ => rfl) (bytes := 40) ok130 a ha (by decide) H0
theorem row_Syllable' : RowOf 2 Syllable.enc := ⟨by decide, fun _ => ⟨rfl, rfl⟩⟩
theorem sclSyllable_ok (a : Sl Syllable) (ha : a.l.length < 1000000) (H0 : AHeap) : Ev prog pol (.call 131 [slm Syllable.enc a]) H0 fun o H' => ∃ v fp, o = .val v ∧ AccX false 1 2 Syllable.enc H' v a fp ∧ Fresh H0 H' fp :=
  sclone_ok row_Syllable' Syllable.enc_len (fun _ => rfl) (bytes := 24) ok131 a ha (by decide) H0
theorem nq1 (q : Nat) : (q = q + 1) = False := by simp
theorem nq2 (q : Nat) : (q = q + 2) = False := by simp
theorem nq3 (q : Nat) : (q = q + 3) = False := by simp
theorem mq1 (q : Nat) : (q + 1 = q) = False := by simp
theorem mq2 (q : Nat) : (q + 2 = q) = False := by simp
theorem mq3 (q : Nat) : (q + 3 = q) = False := by simp
theorem mq12 (q : Nat) : (q + 1 = q + 2) = False := by simp
theorem mq21 (q : Nat) : (q + 2 = q + 1) = False := by simp
theorem addq (q : Nat) : q + 1 + 1 = q + 2 := rfl
theorem addq2 (q : Nat) : q + 2 + 1 = q + 3 := rfl
theorem eClone_ok (h1 : pol.pure 129 = false) (h2 : pol.pure 130 = false) (h3 : pol.pure 131 = false) (x : Event) (hx : x.tame) (H0 : AHeap) :
    Ev prog pol (.call 97 [x.enc]) H0 fun o H' => ∃ cs fp, o = .val (.agg cs) ∧ OwnL (OwnX false 2) H' cs x.enc.cells fp ∧ cs.length = 13 ∧ AV.ones cs = true ∧ Fresh H0 H' fp := by
  refine (wpF_ok ok97 (Q := fun v H' => ∃ cs fp, v = .agg cs ∧ OwnL (OwnX false 2) H' cs x.enc.cells fp ∧ cs.length = 13 ∧ AV.ones cs = true ∧ Fresh H0 H' fp) ?_).mono ?_
  rotate_left
  · rintro o H' ⟨v, rfl, cs, fp, rfl, h⟩; exact ⟨cs, fp, rfl, h⟩
  obtain ⟨b1, b2, b3⟩ := hx
  simp -implicitDefEqProofs (maxDischargeDepth := 12) only [wpF, cf97, WW,List.replicate,e_splice,if_true,if_false,ite_true,ite_false,true_or,ne_eq,Nat.reduceAdd,Nat.reduceSub,Nat.reduceMul,Nat.reduceLeDiff,Nat.reduceEqDiff,Nat.reduceGT,Nat.reduceLT,Int.reduceLE,Int.reduceLT,Int.reduceToNat,Int.reduceAdd,reduceCtorEq,h_putc,beq_self_eq_true,eq_self,exists_eq_left,exists_eq_left', x.enc_eq, nq1, mq1, addq]
  refine wA_call h1 ((sclHead_ok x.heads b1 _).mono ?_)
  rintro o H1 ⟨v1, fp1, rfl, hA1, hF1, hN1, hK1⟩
  refine ⟨_, rfl, ?_⟩
  simp only [AHeap.next_alloc, addq] at hF1 hN1
  have c0 := hK1 H0.next (by simp only [AHeap.next_alloc]; omega)
  have c1 := hK1 (H0.next + 1) (by simp only [AHeap.next_alloc]; omega)
  simp -implicitDefEqProofs (maxDischargeDepth := 12) only [WW,List.replicate,e_splice,if_true,if_false,ite_true,ite_false,true_or,ne_eq,Nat.reduceAdd,Nat.reduceSub,Nat.reduceMul,Nat.reduceLeDiff,Nat.reduceEqDiff,Nat.reduceGT,Nat.reduceLT,Int.reduceLE,Int.reduceLT,Int.reduceToNat,Int.reduceAdd,reduceCtorEq,h_putc,beq_self_eq_true,eq_self,exists_eq_left,exists_eq_left', nq1, mq1, addq] at c0 c1
  simp -implicitDefEqProofs (maxDischargeDepth := 12) only [WW,List.replicate,e_splice,if_true,if_false,ite_true,ite_false,true_or,ne_eq,Nat.reduceAdd,Nat.reduceSub,Nat.reduceMul,Nat.reduceLeDiff,Nat.reduceEqDiff,Nat.reduceGT,Nat.reduceLT,Int.reduceLE,Int.reduceLT,Int.reduceToNat,Int.reduceAdd,reduceCtorEq,h_putc,beq_self_eq_true,eq_self,exists_eq_left,exists_eq_left', nq1, mq1, addq, c0, c1]
  have hK0 : Keep H0.next H0 H1 := fun b hb => by
    rw [hK1 b (by simp only [AHeap.next_alloc]; omega)]
    simp only [c_alloc_ne (show b ≠ H0.next by omega), c_alloc_ne (show b ≠ (H0.alloc _).next by simp only [AHeap.next_alloc]; omega)]
  clear hK1
  refine wA_call h2 ((sclGrace_ok x.graces b2 _).mono ?_)
  rintro o H2 ⟨v2, fp2, rfl, hA2, hF2, hN2, hK2⟩
  refine ⟨_, rfl, ?_⟩
  have d0 := (hK2 H0.next (by omega)).trans c0
  have d1 := (hK2 (H0.next + 1) (by omega)).trans c1
  simp -implicitDefEqProofs (maxDischargeDepth := 12) only [WW,List.replicate,e_splice,if_true,if_false,ite_true,ite_false,true_or,ne_eq,Nat.reduceAdd,Nat.reduceSub,Nat.reduceMul,Nat.reduceLeDiff,Nat.reduceEqDiff,Nat.reduceGT,Nat.reduceLT,Int.reduceLE,Int.reduceLT,Int.reduceToNat,Int.reduceAdd,reduceCtorEq,h_putc,beq_self_eq_true,eq_self,exists_eq_left,exists_eq_left', nq1, mq1, addq, c0, c1, d0, d1]
  refine wA_call h3 ((sclSyllable_ok x.lyrics b3 _).mono ?_)
  rintro o H3 ⟨v3, fp3, rfl, hA3, hF3, hN3, hK3⟩
  refine ⟨_, rfl, ?_⟩
  have e0 := (hK3 H0.next (by omega)).trans d0
  have e1 := (hK3 (H0.next + 1) (by omega)).trans d1
  simp -implicitDefEqProofs (maxDischargeDepth := 12) only [WW,List.replicate,e_splice,if_true,if_false,ite_true,ite_false,true_or,ne_eq,Nat.reduceAdd,Nat.reduceSub,Nat.reduceMul,Nat.reduceLeDiff,Nat.reduceEqDiff,Nat.reduceGT,Nat.reduceLT,Int.reduceLE,Int.reduceLT,Int.reduceToNat,Int.reduceAdd,reduceCtorEq,h_putc,beq_self_eq_true,eq_self,exists_eq_left,exists_eq_left', nq1, mq1, addq, e0, e1, hA1.one, hA1.cells, hA2.one, hA2.cells, hA3.one, hA3.cells]
  have l1 := hA1.lts
  have l2 := hA2.lts
  obtain ⟨g1, o1, k1⟩ := hA1.own row_Head'
  obtain ⟨g2, o2, k2⟩ := hA2.own row_Grace'
  obtain ⟨g3, o3, k3⟩ := hA3.own row_Syllable'
  have w1 : ∀ H', (∀ b, H0.next + 2 ≤ b → H'.cells b = H3.cells b) → OwnX false 2 H' v1 (slm Head.enc x.heads) g1 := fun H' hh => o1.frame fun b hb => by
    have := l1 b (k1 b hb)
    rw [hh b (hF1 b (k1 b hb)), hK3 b (by omega), hK2 b (by omega)]
  have w2 : ∀ H', (∀ b, H0.next + 2 ≤ b → H'.cells b = H3.cells b) → OwnX false 2 H' v2 (slm Grace.enc x.graces) g2 := fun H' hh => o2.frame fun b hb => by
    have := l2 b (k2 b hb)
    have := hF2 b (k2 b hb)
    rw [hh b (by omega), hK3 b (by omega)]
  have w3 : ∀ H', (∀ b, H0.next + 2 ≤ b → H'.cells b = H3.cells b) → OwnX false 2 H' v3 (slm Syllable.enc x.lyrics) g3 := fun H' hh => o3.frame fun b hb => by
    have := hF3 b (k3 b hb)
    rw [hh b (by omega)]
  have ap12 : Apart g1 g2 := fun b hb hb2 => by have := l1 b (k1 b hb); have := hF2 b (k2 b hb2); omega
  have ap13 : Apart g1 g3 := fun b hb hb2 => by have := l1 b (k1 b hb); have := hF3 b (k3 b hb2); omega
  have ap23 : Apart g2 g3 := fun b hb hb2 => by have := l2 b (k2 b hb); have := hF3 b (k3 b hb2); omega
  refine ⟨_, _, rfl, .cons OwnX.scal (.cons OwnX.scal (.cons OwnX.scal (.cons OwnX.scal (.cons OwnX.scal (.cons (w1 _ ?_) (.cons (w2 _ ?_) (.cons OwnX.scal (.cons OwnX.scal (.cons OwnX.scal (.cons (w3 _ ?_) (.cons OwnX.scal (.cons OwnX.scal .nil
    Apart.nil_left) Apart.nil_left) ?_) Apart.nil_left) Apart.nil_left) Apart.nil_left) ?_) ?_) Apart.nil_left) Apart.nil_left) Apart.nil_left) Apart.nil_left) Apart.nil_left, rfl, ?_, ?_, ?_, ?_⟩
  · exact fun b hb => by simp only [c_put_ne (show b ≠ H0.next by omega), c_put_ne (show b ≠ H0.next + 1 by omega)]
  · exact fun b hb => by simp only [c_put_ne (show b ≠ H0.next by omega), c_put_ne (show b ≠ H0.next + 1 by omega)]
  · exact fun b hb => by simp only [c_put_ne (show b ≠ H0.next by omega), c_put_ne (show b ≠ H0.next + 1 by omega)]
  · simpa using Apart.nil_right
  · simpa using ap23
  · simpa using ap12.app_right ap13
  · simp only [AV.ones, List.all_cons, List.all_nil, o_int, hA1.one, hA2.one, hA3.one, Bool.and_self]
  · intro b hb
    simp only [List.nil_append, List.append_nil, List.mem_append] at hb
    rcases hb with h | h | h
    · have := hF1 b (k1 b h); omega
    · have := hF2 b (k2 b h); omega
    · have := hF3 b (k3 b h); omega
  · simp only [AHeap.next_put]; omega
  · intro b hb
    simp only [c_put_ne (show b ≠ H0.next by omega), c_put_ne (show b ≠ H0.next + 1 by omega)]
    rw [hK3 b (by omega), hK2 b (by omega), hK0 b hb]
end Go.Hem
/- Walks: part, voice.Clone. -/
set_option maxRecDepth 10000
set_option maxHeartbeats 4000000
set_option linter.unusedSimpArgs false
set_option linter.unusedVariables false
namespace Go.Hem
variable {pol : Pol}
/-- A copy whose cells own their blocks. -/
def ClPost (d n : Nat) (H0 : AHeap) (u : AV) (o : Out) (H' : AHeap) : Prop := ∃ cs fp, o = .val (.agg cs) ∧ OwnL (OwnX false d) H' cs u.cells fp ∧ cs.length = n ∧ AV.ones cs = true ∧ Fresh H0 H' fp
theorem pClone_ok (h1 : pol.pure 123 = false) (x : Part) (hx : x.tame) (H0 : AHeap) : Ev prog pol (.call 78 [x.enc]) H0 (ClPost 2 6 H0 x.enc) := by
  refine (wpF_ok ok78 (Q := fun v H' => ∃ cs fp, v = .agg cs ∧ OwnL (OwnX false 2) H' cs x.enc.cells fp ∧ cs.length = 6 ∧ AV.ones cs = true ∧ Fresh H0 H' fp) ?_).mono ?_
  rotate_left
  · rintro o H' ⟨v, rfl, cs, fp, rfl, h⟩; exact ⟨cs, fp, rfl, h⟩
  simp -implicitDefEqProofs (maxDischargeDepth := 12) only [wpF, cf78, WW,List.replicate,e_splice,if_true,if_false,ite_true,ite_false,true_or,ne_eq,Nat.reduceAdd,Nat.reduceSub,Nat.reduceMul,Nat.reduceLeDiff,Nat.reduceEqDiff,Nat.reduceGT,Nat.reduceLT,Int.reduceLE,Int.reduceLT,Int.reduceToNat,Int.reduceAdd,reduceCtorEq,h_putc,beq_self_eq_true,eq_self,exists_eq_left,exists_eq_left', x.enc_eq, nq1, mq1, addq]
  refine wA_call h1 ((sclStaff_ok x.staves hx _).mono ?_)
  rintro o H1 ⟨v1, fp1, rfl, hA1, hF1, hN1, hK1⟩
  refine ⟨_, rfl, ?_⟩
  simp only [AHeap.next_alloc, addq] at hF1 hN1
  have c0 := hK1 H0.next (by simp only [AHeap.next_alloc]; omega)
  have c1 := hK1 (H0.next + 1) (by simp only [AHeap.next_alloc]; omega)
  simp -implicitDefEqProofs (maxDischargeDepth := 12) only [WW,List.replicate,e_splice,if_true,if_false,ite_true,ite_false,true_or,ne_eq,Nat.reduceAdd,Nat.reduceSub,Nat.reduceMul,Nat.reduceLeDiff,Nat.reduceEqDiff,Nat.reduceGT,Nat.reduceLT,Int.reduceLE,Int.reduceLT,Int.reduceToNat,Int.reduceAdd,reduceCtorEq,h_putc,beq_self_eq_true,eq_self,exists_eq_left,exists_eq_left', nq1, mq1, addq] at c0 c1
  simp -implicitDefEqProofs (maxDischargeDepth := 12) only [WW,List.replicate,e_splice,if_true,if_false,ite_true,ite_false,true_or,ne_eq,Nat.reduceAdd,Nat.reduceSub,Nat.reduceMul,Nat.reduceLeDiff,Nat.reduceEqDiff,Nat.reduceGT,Nat.reduceLT,Int.reduceLE,Int.reduceLT,Int.reduceToNat,Int.reduceAdd,reduceCtorEq,h_putc,beq_self_eq_true,eq_self,exists_eq_left,exists_eq_left', nq1, mq1, addq, c0, c1, hA1.one, hA1.cells]
  have hK0 : Keep H0.next H0 H1 := fun b hb => by
    rw [hK1 b (by simp only [AHeap.next_alloc]; omega)]
    simp only [c_alloc_ne (show b ≠ H0.next by omega), c_alloc_ne (show b ≠ (H0.alloc _).next by simp only [AHeap.next_alloc]; omega)]
  obtain ⟨g1, o1, k1⟩ := hA1.own row_Staff'
  refine ⟨_, _, rfl, .cons OwnX.scal (.cons OwnX.scal (.cons OwnX.scal (.cons OwnX.scal (.cons OwnX.scal (.cons (o1.frame fun b hb => ?_) .nil Apart.nil_right) Apart.nil_left) Apart.nil_left) Apart.nil_left) Apart.nil_left) Apart.nil_left, rfl, ?_, ?_, ?_, ?_⟩
  · have := hF1 b (k1 b hb)
    simp only [c_put_ne (show b ≠ H0.next by omega), c_put_ne (show b ≠ H0.next + 1 by omega)]
  · simp only [AV.ones, List.all_cons, List.all_nil, o_int, o_str, hA1.one, Bool.and_self]
  · intro b hb
    simp only [List.nil_append, List.append_nil] at hb
    have := hF1 b (k1 b hb); omega
  · simp only [AHeap.next_put]; omega
  · intro b hb
    simp only [c_put_ne (show b ≠ H0.next by omega), c_put_ne (show b ≠ H0.next + 1 by omega)]
    rw [hK0 b hb]
def Voice.cl (v : Voice) : Voice := { events := Sl.of v.events.l, tuplets := Sl.of v.tuplets.l }
theorem of_take_succ {α : Type} {l : List α} {i : Nat} {x : α} (h : l[i]? = some x) : (some ((Sl.of (l.take i)).l ++ [x]) : Sl α) = Sl.of (l.take (i + 1)) := by
  rw [l_of, List.take_add_one, h]
  unfold Sl.of
  rw [if_neg (by simp)]; rfl
theorem ones_take {l : List AV} {n : Nat} (h : l.length = n) : l.take n = l := List.take_of_length_le (by omega)
theorem drop_all {l : List AV} {n : Nat} (h : l.length ≤ n) : l.drop n = [] := List.drop_of_length_le h
theorem vClone_ok (h0 : pol.pure 97 = false) (h1 : pol.pure 129 = false) (h2 : pol.pure 130 = false) (h3 : pol.pure 131 = false) (x : Voice) (hx : x.tame) (H0 : AHeap) : Ev prog pol (.call 118 [x.enc]) H0 (ClPost 3 2 H0 x.cl.enc) := by
  refine (wpF_ok ok118 (Q := fun v H' => ∃ cs fp, v = .agg cs ∧ OwnL (OwnX false 3) H' cs x.cl.enc.cells fp ∧ cs.length = 2 ∧ AV.ones cs = true ∧ Fresh H0 H' fp) ?_).mono ?_
  rotate_left
  · rintro o H' ⟨v, rfl, cs, fp, rfl, h⟩; exact ⟨cs, fp, rfl, h⟩
  obtain ⟨b1, b2, b3⟩ := hx
  generalize hq : H0.next = q
  simp -implicitDefEqProofs (maxDischargeDepth := 12) only [wpF, cf118, WW,List.replicate,e_splice,if_true,if_false,ite_true,ite_false,true_or,ne_eq,Nat.reduceAdd,Nat.reduceSub,Nat.reduceMul,Nat.reduceLeDiff,Nat.reduceEqDiff,Nat.reduceGT,Nat.reduceLT,Int.reduceLE,Int.reduceLT,Int.reduceToNat,Int.reduceAdd,reduceCtorEq,h_putc,beq_self_eq_true,eq_self,exists_eq_left,exists_eq_left', x.enc_eq, nq1, mq1, addq, hq, nq2, mq2, mq12, mq21]
  refine wp_loop (Inv := fun k t H => ∃ (i : Nat) (fp : List Nat) (a : AV), i + k = x.events.l.length ∧ H.cells q = some [slm Event.enc x.events, slm Tuplet.enc x.tuplets] ∧ H.cells (q + 1) = some [.sc .nils, .sc .nils] ∧
    H.cells (q + 2) = some [a, .sc .nils] ∧ AccX false 2 13 Event.enc H a (Sl.of (x.events.l.take i)) fp ∧ (∀ b ∈ fp, q + 3 ≤ b) ∧ q + 3 ≤ H.next ∧ Keep q H0 H ∧
    ∃ y : Nat → AV, t = [.agg [slm Event.enc x.events, slm Tuplet.enc x.tuplets], .ptr q 0, .ptr (q + 1) 0, .ptr (q + 2) 0, y 4, y 5, y 6, slm Event.enc x.events, .sc (.int .i64 x.events.l.length), .sc (.int .i64 i), y 10, y 11, y 12, y 13, y 14, y 15, y 16, y 17, y 18, y 19, y 20, y 21, y 22, y 23, y 24, y 25, y 26, y 27]) (k := x.events.l.length) ?_
    ⟨0, [], _, by omega, ?_, ?_, ?_, acc_none, by simp, ?_, ?_, ex_x rfl⟩
  rotate_left
  · simp -implicitDefEqProofs (maxDischargeDepth := 12) only [WW,List.replicate,e_splice,if_true,if_false,ite_true,ite_false,true_or,ne_eq,Nat.reduceAdd,Nat.reduceSub,Nat.reduceMul,Nat.reduceLeDiff,Nat.reduceEqDiff,Nat.reduceGT,Nat.reduceLT,Int.reduceLE,Int.reduceLT,Int.reduceToNat,Int.reduceAdd,reduceCtorEq,h_putc,beq_self_eq_true,eq_self,exists_eq_left,exists_eq_left', nq1, mq1, addq, hq, nq2, mq2, mq12, mq21]
  · simp -implicitDefEqProofs (maxDischargeDepth := 12) only [WW,List.replicate,e_splice,if_true,if_false,ite_true,ite_false,true_or,ne_eq,Nat.reduceAdd,Nat.reduceSub,Nat.reduceMul,Nat.reduceLeDiff,Nat.reduceEqDiff,Nat.reduceGT,Nat.reduceLT,Int.reduceLE,Int.reduceLT,Int.reduceToNat,Int.reduceAdd,reduceCtorEq,h_putc,beq_self_eq_true,eq_self,exists_eq_left,exists_eq_left', nq1, mq1, addq, hq, nq2, mq2, mq12, mq21]
  · simp -implicitDefEqProofs (maxDischargeDepth := 12) only [WW,List.replicate,e_splice,if_true,if_false,ite_true,ite_false,true_or,ne_eq,Nat.reduceAdd,Nat.reduceSub,Nat.reduceMul,Nat.reduceLeDiff,Nat.reduceEqDiff,Nat.reduceGT,Nat.reduceLT,Int.reduceLE,Int.reduceLT,Int.reduceToNat,Int.reduceAdd,reduceCtorEq,h_putc,beq_self_eq_true,eq_self,exists_eq_left,exists_eq_left', nq1, mq1, addq, hq, nq2, mq2, mq12, mq21]
  · simp only [AHeap.next_alloc, hq]; omega
  · subst hq; exact (by repeat (first | exact Keep.refl | refine Keep.put (by (try simp only [AHeap.next_alloc, AHeap.next_put]); omega) ?_ | refine Keep.alloc (by (try simp only [AHeap.next_alloc, AHeap.next_put]); omega) ?_))
  rintro k t H ⟨i, fp, a, hk, hA, hB, hC, hE, hfp, hN, hKp, y, rfl⟩
  have g0 : ¬ q = H.next := by omega
  have g1 : ¬ q + 1 = H.next := by omega
  have g2 : ¬ q + 2 = H.next := by omega
  have g3 : ¬ H.next = q := by omega
  have g4 : ¬ H.next = q + 1 := by omega
  have g5 : ¬ H.next = q + 2 := by omega
  by_cases c1 : (i : Int) < (x.events.l.length : Int)
  · obtain ⟨e, he⟩ : ∃ y, x.events.l[i]? = some y := ⟨_, List.getElem?_eq_getElem (by omega)⟩
    have e2 : IntKind.i64.wrap ((i : Int) + 1) = ((i + 1 : Nat) : Int) := by rw [w64 (by omega) (by omega)]; omega
    simp -implicitDefEqProofs (maxDischargeDepth := 12) only [WW,List.replicate,e_splice,if_true,if_false,ite_true,ite_false,true_or,ne_eq,Nat.reduceAdd,Nat.reduceSub,Nat.reduceMul,Nat.reduceLeDiff,Nat.reduceEqDiff,Nat.reduceGT,Nat.reduceLT,Int.reduceLE,Int.reduceLT,Int.reduceToNat,Int.reduceAdd,reduceCtorEq,h_putc,beq_self_eq_true,eq_self,exists_eq_left,exists_eq_left', hA, hB, hC, c1, he, e.enc_eq, g0, g1, g2, g3, g4, g5]
    rw [← e.enc_eq]
    refine wA_call h0 ((eClone_ok h1 h2 h3 e (b3 e (List.mem_of_getElem? he)) _).mono ?_)
    rintro o H1 ⟨cs, fp1, rfl, ho, hl, hones, hF1, hN1, hK1⟩
    refine ⟨_, rfl, ?_⟩
    simp only [AHeap.next_alloc, AHeap.next_put] at hF1 hN1
    have d0 := hK1 q (by simp only [AHeap.next_alloc, AHeap.next_put]; omega)
    have d1 := hK1 (q + 1) (by simp only [AHeap.next_alloc, AHeap.next_put]; omega)
    have d2 := hK1 (q + 2) (by simp only [AHeap.next_alloc, AHeap.next_put]; omega)
    simp -implicitDefEqProofs (maxDischargeDepth := 12) only [WW,List.replicate,e_splice,if_true,if_false,ite_true,ite_false,true_or,ne_eq,Nat.reduceAdd,Nat.reduceSub,Nat.reduceMul,Nat.reduceLeDiff,Nat.reduceEqDiff,Nat.reduceGT,Nat.reduceLT,Int.reduceLE,Int.reduceLT,Int.reduceToNat,Int.reduceAdd,reduceCtorEq,h_putc,beq_self_eq_true,eq_self,exists_eq_left,exists_eq_left', g0, g1, g2, g3, g4, g5, hA, hB, hC] at d0 d1 d2
    have hE1 : AccX false 2 13 Event.enc H1 a (Sl.of (x.events.l.take i)) fp := hE.fr fun b hb => by
      have := hE.lts b hb
      rw [hK1 b (by simp only [AHeap.next_alloc, AHeap.next_put]; omega), c_put_ne (by omega), c_alloc_ne (by omega)]
    have hK2 : Keep q H0 H1 := fun b hb => by
      rw [hK1 b (by simp only [AHeap.next_alloc, AHeap.next_put]; omega), c_put_ne (by omega), c_alloc_ne (by omega), hKp b hb]
    simp -implicitDefEqProofs (maxDischargeDepth := 12) only [WW,List.replicate,e_splice,if_true,if_false,ite_true,ite_false,true_or,ne_eq,Nat.reduceAdd,Nat.reduceSub,Nat.reduceMul,Nat.reduceLeDiff,Nat.reduceEqDiff,Nat.reduceGT,Nat.reduceLT,Int.reduceLE,Int.reduceLT,Int.reduceToNat,Int.reduceAdd,reduceCtorEq,h_putc,beq_self_eq_true,eq_self,exists_eq_left,exists_eq_left', g0, g1, g2, g3, g4, g5, hA, hB, hC, d0, d1, d2, hl, hones, ones_take hl]
    have apf : Apart fp fp1 := fun b hb hb2 => by
      have := hE.lts b hb
      have := hF1 b hb2; omega
    refine wA_app2 row_Event hE1 (by repeat (first | exact Keep.refl | refine Keep.put (by (try simp only [AHeap.next_alloc, AHeap.next_put]); omega) ?_ | refine Keep.alloc (by (try simp only [AHeap.next_alloc, AHeap.next_put]); omega) ?_)) (by simp) (ys := [e]) (by simp) rfl (asrc_new rfl (by simpa using hl)) (fp1 := fp1) (by
      have : ([e].flatMap fun y => (Event.enc y).cells) = e.enc.cells := by simp
      rw [this]
      exact ho.fr fun b hb => c_alloc_ne (by have := ho.lts b hb; omega)) apf ?_ ?_
    · rw [l_of]; simp only [List.length_take, List.length_cons, List.length_nil]; omega
    intro v' H2 fp' hE' hn2 hk2 hfp2 ho2 hc2
    rw [of_take_succ he] at hE'
    have k0 := (hk2 q (fun h => by have := hfp q h; omega) (by omega)).trans d0
    have k1 := (hk2 (q + 1) (fun h => by have := hfp _ h; omega) (by omega)).trans d1
    have k2 := (hk2 (q + 2) (fun h => by have := hfp _ h; omega) (by omega)).trans d2
    have hfp3 : ∀ b ∈ fp', q + 3 ≤ b := fun b hb => by
      rcases hfp2 b hb with h | h | h
      · exact hfp b h
      · have := hF1 b h; omega
      · omega
    simp -implicitDefEqProofs (maxDischargeDepth := 12) only [WW,List.replicate,e_splice,if_true,if_false,ite_true,ite_false,true_or,ne_eq,Nat.reduceAdd,Nat.reduceSub,Nat.reduceMul,Nat.reduceLeDiff,Nat.reduceEqDiff,Nat.reduceGT,Nat.reduceLT,Int.reduceLE,Int.reduceLT,Int.reduceToNat,Int.reduceAdd,reduceCtorEq,h_putc,beq_self_eq_true,eq_self,exists_eq_left,exists_eq_left', e2, k0, k1, k2, ho2, hc2, nq2, mq2, mq12, mq21, nq1, mq1]
    refine ⟨k - 1, by omega, i + 1, fp', v', by omega, rfl, hE'.fr fun b hb => h_put_ne (by have := hfp3 b hb; omega), hfp3, by omega, fun b hb => ?_, ex_x rfl⟩
    rw [h_put_ne (by omega), hk2 b (fun h => by have := hfp b h; omega) (by omega), hK2 b hb]
  · have hi : i = x.events.l.length := by omega
    subst hi
    rw [List.take_length] at hE
    have ea : alen (slm Tuplet.enc x.tuplets) = some x.tuplets.l.length := e_alenm
    have es : ∀ H, asrc 4 H (slm Tuplet.enc x.tuplets) x.tuplets.l.length = some (x.tuplets.l.flatMap fun v => (Tuplet.enc v).cells) := fun H => by
      rw [e_srcm Tuplet.enc_len (Nat.le_refl _), List.take_length]
    have hbig : (2 * x.tuplets.l.length + 1000) * 32 ≤ 2 ^ 47 := by omega
    obtain ⟨g, og, kg⟩ := hE.own row_Event
    by_cases h0 : x.tuplets.l = []
    · have h0' : x.tuplets.l.length = 0 := by rw [h0]; rfl
      have es0 : ∀ H, asrc 4 H (slm Tuplet.enc x.tuplets) 0 = some [] := fun H => by have := es H; rw [h0'] at this; rw [this, h0]; rfl
      simp -implicitDefEqProofs (maxDischargeDepth := 12) only [WW,List.replicate,e_splice,if_true,if_false,ite_true,ite_false,true_or,ne_eq,Nat.reduceAdd,Nat.reduceSub,Nat.reduceMul,Nat.reduceLeDiff,Nat.reduceEqDiff,Nat.reduceGT,Nat.reduceLT,Int.reduceLE,Int.reduceLT,Int.reduceToNat,Int.reduceAdd,reduceCtorEq,h_putc,beq_self_eq_true,eq_self,exists_eq_left,exists_eq_left', hA, hB, hC, c1, appTo, ea, es0, h0', hE.one, hE.cells, nq1, nq2, mq1, mq2, mq12, mq21]
      refine ⟨_, _, rfl, .cons (og.frame fun b hb => ?_) (.cons (f := []) ?_ .nil Apart.nil_right) (by simpa using Apart.nil_right), rfl, ?_, ?_, ?_, ?_⟩
      · have := hfp b (kg b hb)
        simp only [c_put_ne (show b ≠ q + 2 by omega), c_put_ne (show b ≠ q + 1 by omega)]
      · have e : slm Tuplet.enc x.cl.tuplets = .sc .nils := by show slm Tuplet.enc (Sl.of x.tuplets.l) = _; rw [h0]; rfl
        rw [e]; exact OwnX.scal
      · simp only [AV.ones, List.all_cons, List.all_nil, hE.one, o_nils, Bool.and_self]
      · intro b hb
        simp only [List.append_nil] at hb
        have := hfp b (kg b hb); omega
      · simp only [AHeap.next_put]; omega
      · intro b hb
        simp only [c_put_ne (show b ≠ q + 2 by omega), c_put_ne (show b ≠ q + 1 by omega)]
        exact hKp b (by omega)
    · have h1' : ¬ x.tuplets.l.length = 0 := by simpa using h0
      have row4 : RowOf 4 Tuplet.enc := ⟨by decide, fun _ => ⟨rfl, rfl⟩⟩
      simp -implicitDefEqProofs (maxDischargeDepth := 12) only [WW,List.replicate,e_splice,if_true,if_false,ite_true,ite_false,true_or,ne_eq,Nat.reduceAdd,Nat.reduceSub,Nat.reduceMul,Nat.reduceLeDiff,Nat.reduceEqDiff,Nat.reduceGT,Nat.reduceLT,Int.reduceLE,Int.reduceLT,Int.reduceToNat,Int.reduceAdd,reduceCtorEq,h_putc,beq_self_eq_true,eq_self,exists_eq_left,exists_eq_left', hA, hB, hC, c1, appTo, ea, es, h1', hbig, hE.one, hE.cells, nq1, nq2, mq1, mq2, mq12, mq21, g0, g1, g2, g3, g4, g5]
      have hT : AccX false 1 4 Tuplet.enc (H.alloc (.cells (x.tuplets.l.flatMap fun v => (Tuplet.enc v).cells))) (.slice H.next 0 x.tuplets.l.length x.tuplets.l.length 4) (Sl.of x.tuplets.l) [H.next] :=
        .inr ⟨H.next, _, _, [], [], x.tuplets.l, by unfold Sl.of; rw [if_neg (by simpa using h0)], rfl, Nat.le_refl _, by simp -implicitDefEqProofs (maxDischargeDepth := 12) only [WW,List.replicate,e_splice,if_true,if_false,ite_true,ite_false,true_or,ne_eq,Nat.reduceAdd,Nat.reduceSub,Nat.reduceMul,Nat.reduceLeDiff,Nat.reduceEqDiff,Nat.reduceGT,Nat.reduceLT,Int.reduceLE,Int.reduceLT,Int.reduceToNat,Int.reduceAdd,reduceCtorEq,h_putc,beq_self_eq_true,eq_self,exists_eq_left,exists_eq_left'], flat_len row4 _, by simp, OwnL.scal (by
          simp only [List.all_eq_true]
          intro v hv
          obtain ⟨z, _, hz⟩ := List.mem_flatMap.1 hv
          have : (Tuplet.enc z).cells.all AV.isSc = true := rfl
          exact List.all_eq_true.1 this v hz), by simp, rfl⟩
      obtain ⟨gt, ot, kt⟩ := hT.own row4
      refine ⟨_, _, rfl, .cons (og.frame fun b hb => ?_) (.cons ((ot.mono (by decide)).frame fun b hb => ?_) .nil Apart.nil_right) ?_, rfl, ?_, ?_, ?_, ?_⟩
      · have := hfp b (kg b hb)
        have := hE.lts b (kg b hb)
        simp only [c_put_ne (show b ≠ q + 2 by omega), c_put_ne (show b ≠ q + 1 by omega), c_alloc_ne (show b ≠ H.next by omega)]
      · have := kt b hb
        simp only [List.mem_singleton] at this
        simp only [c_put_ne (show b ≠ q + 2 by omega), c_put_ne (show b ≠ q + 1 by omega)]
      · intro b hb hb2
        simp only [List.append_nil] at hb2
        have := hE.lts b (kg b hb)
        have := kt b hb2
        simp only [List.mem_singleton] at this
        omega
      · simp only [AV.ones, List.all_cons, List.all_nil, hE.one, o_slice, Bool.and_self]
      · intro b hb
        simp only [List.append_nil, List.mem_append] at hb
        rcases hb with h | h
        · have := hfp b (kg b h); omega
        · have := kt b h
          simp only [List.mem_singleton] at this
          omega
      · simp only [AHeap.next_put, AHeap.next_alloc]; omega
      · intro b hb
        simp only [c_put_ne (show b ≠ q + 2 by omega), c_put_ne (show b ≠ q + 1 by omega), c_alloc_ne (show b ≠ H.next by omega)]
        exact hKp b (by omega)
end Go.Hem
/- Walks: measure.CloneCell, measure.Clone. -/
set_option maxRecDepth 10000
set_option maxHeartbeats 4000000
set_option linter.unusedSimpArgs false
set_option linter.unusedVariables false
namespace Go.Hem
variable {pol : Pol}
/-- The functions of Clone are run where their results may be changed. -/
def ClPol (pol : Pol) : Prop := ∀ f ∈ [39, 75, 78, 83, 84, 85, 97, 117, 118, 123, 124, 129, 130, 131], pol.pure f = false
def Cell.cl (c : Cell) : Cell := { clefs := c.clefs, voices := Sl.of (c.voices.l.map Voice.cl) }
theorem of_map_succ {α β : Type} {g : α → β} {l : List α} {i : Nat} {x : α} (h : l[i]? = some x) : (some ((Sl.of ((l.take i).map g)).l ++ [g x]) : Sl β) = Sl.of ((l.take (i + 1)).map g) := by
  rw [l_of, List.take_add_one, h]
  unfold Sl.of
  rw [if_neg (by simp)]; simp
theorem ClPost.own {d n : Nat} {H0 H' : AHeap} {u : AV} {o : Out} (h : ClPost d n H0 u o H') : ∃ cs fp, o = .val (.agg cs) ∧ OwnL (OwnX false d) H' cs u.cells fp ∧ cs.length = n ∧ AV.ones cs = true ∧ Fresh H0 H' fp := h
theorem cClone_ok (hc : ClPol pol) (x : Cell) (hx : x.tame) (H0 : AHeap) : Ev prog pol (.call 75 [x.enc]) H0 (ClPost 4 2 H0 x.cl.enc) := by
  refine (wpF_ok ok75 (Q := fun v H' => ∃ cs fp, v = .agg cs ∧ OwnL (OwnX false 4) H' cs x.cl.enc.cells fp ∧ cs.length = 2 ∧ AV.ones cs = true ∧ Fresh H0 H' fp) ?_).mono ?_
  rotate_left
  · rintro o H' ⟨v, rfl, cs, fp, rfl, h⟩; exact ⟨cs, fp, rfl, h⟩
  obtain ⟨b1, b2, b3⟩ := hx
  generalize hq : H0.next = q
  simp -implicitDefEqProofs (maxDischargeDepth := 12) only [wpF, cf75, WW,List.replicate,e_splice,if_true,if_false,ite_true,ite_false,true_or,ne_eq,Nat.reduceAdd,Nat.reduceSub,Nat.reduceMul,Nat.reduceLeDiff,Nat.reduceEqDiff,Nat.reduceGT,Nat.reduceLT,Int.reduceLE,Int.reduceLT,Int.reduceToNat,Int.reduceAdd,reduceCtorEq,h_putc,beq_self_eq_true,eq_self,exists_eq_left,exists_eq_left', x.enc_eq, nq1, mq1, addq, hq, nq2, mq2, mq12, mq21]
  refine wA_call (hc _ (by decide)) ((sclClefChange_ok x.clefs b1 _).mono ?_)
  rintro o Hc ⟨vc, fpc, rfl, hAc, hFc, hNc, hKc⟩
  refine ⟨_, rfl, ?_⟩
  simp only [AHeap.next_alloc, addq, hq] at hFc hNc
  have a0 := hKc q (by simp only [AHeap.next_alloc, hq]; omega)
  have a1 := hKc (q + 1) (by simp only [AHeap.next_alloc, hq]; omega)
  simp -implicitDefEqProofs (maxDischargeDepth := 12) only [WW,List.replicate,e_splice,if_true,if_false,ite_true,ite_false,true_or,ne_eq,Nat.reduceAdd,Nat.reduceSub,Nat.reduceMul,Nat.reduceLeDiff,Nat.reduceEqDiff,Nat.reduceGT,Nat.reduceLT,Int.reduceLE,Int.reduceLT,Int.reduceToNat,Int.reduceAdd,reduceCtorEq,h_putc,beq_self_eq_true,eq_self,exists_eq_left,exists_eq_left', nq1, mq1, addq, hq, nq2, mq2, mq12, mq21] at a0 a1
  have hK0 : Keep q H0 Hc := fun b hb => by
    rw [hKc b (by simp only [AHeap.next_alloc, hq]; omega)]
    simp only [c_alloc_ne (show b ≠ H0.next by omega), c_alloc_ne (show b ≠ (H0.alloc _).next by simp only [AHeap.next_alloc]; omega)]
  have lc := hAc.lts
  generalize hr : Hc.next = r
  rw [hr] at hNc
  have p0 : ¬ q = r := by omega
  have p1 : ¬ q + 1 = r := by omega
  have p2 : ¬ r = q := by omega
  have p3 : ¬ r = q + 1 := by omega
  simp -implicitDefEqProofs (maxDischargeDepth := 12) only [WW,List.replicate,e_splice,if_true,if_false,ite_true,ite_false,true_or,ne_eq,Nat.reduceAdd,Nat.reduceSub,Nat.reduceMul,Nat.reduceLeDiff,Nat.reduceEqDiff,Nat.reduceGT,Nat.reduceLT,Int.reduceLE,Int.reduceLT,Int.reduceToNat,Int.reduceAdd,reduceCtorEq,h_putc,beq_self_eq_true,eq_self,exists_eq_left,exists_eq_left', nq1, mq1, addq, hq, hr, nq2, mq2, mq12, mq21, a0, a1, p0, p1, p2, p3, hAc.one, hAc.cells]
  refine wp_loop (Inv := fun k t H => ∃ (i : Nat) (fp : List Nat) (a : AV), i + k = x.voices.l.length ∧ H.cells q = some [slm ClefChange.enc x.clefs, slm Voice.enc x.voices] ∧ H.cells (q + 1) = some [.sc .nils, .sc .nils] ∧
    H.cells r = some [vc, a] ∧ AccX false 1 2 ClefChange.enc H vc x.clefs fpc ∧ AccX false 3 2 Voice.enc H a (Sl.of ((x.voices.l.take i).map Voice.cl)) fp ∧ (∀ b ∈ fp, r + 1 ≤ b) ∧ r + 1 ≤ H.next ∧ Keep q H0 H ∧
    ∃ y : Nat → AV, t = [.agg [slm ClefChange.enc x.clefs, slm Voice.enc x.voices], .ptr q 0, .ptr (q + 1) 0, .ptr r 0, y 4, y 5, y 6, y 7, y 8, y 9, y 10, slm Voice.enc x.voices, .sc (.int .i64 x.voices.l.length), .sc (.int .i64 i), y 14, y 15, y 16, y 17, y 18, y 19, y 20, y 21, y 22, y 23, y 24, y 25]) (k := x.voices.l.length) ?_
    ⟨0, [], _, by omega, ?_, ?_, ?_, ?_, acc_none, by simp, ?_, ?_, ex_x rfl⟩
  rotate_left
  · simp -implicitDefEqProofs (maxDischargeDepth := 12) only [WW,List.replicate,e_splice,if_true,if_false,ite_true,ite_false,true_or,ne_eq,Nat.reduceAdd,Nat.reduceSub,Nat.reduceMul,Nat.reduceLeDiff,Nat.reduceEqDiff,Nat.reduceGT,Nat.reduceLT,Int.reduceLE,Int.reduceLT,Int.reduceToNat,Int.reduceAdd,reduceCtorEq,h_putc,beq_self_eq_true,eq_self,exists_eq_left,exists_eq_left', nq1, mq1, addq, hq, hr, nq2, mq2, mq12, mq21, a0, a1, p0, p1, p2, p3]
  · simp -implicitDefEqProofs (maxDischargeDepth := 12) only [WW,List.replicate,e_splice,if_true,if_false,ite_true,ite_false,true_or,ne_eq,Nat.reduceAdd,Nat.reduceSub,Nat.reduceMul,Nat.reduceLeDiff,Nat.reduceEqDiff,Nat.reduceGT,Nat.reduceLT,Int.reduceLE,Int.reduceLT,Int.reduceToNat,Int.reduceAdd,reduceCtorEq,h_putc,beq_self_eq_true,eq_self,exists_eq_left,exists_eq_left', nq1, mq1, addq, hq, hr, nq2, mq2, mq12, mq21, a0, a1, p0, p1, p2, p3]
  · simp -implicitDefEqProofs (maxDischargeDepth := 12) only [WW,List.replicate,e_splice,if_true,if_false,ite_true,ite_false,true_or,ne_eq,Nat.reduceAdd,Nat.reduceSub,Nat.reduceMul,Nat.reduceLeDiff,Nat.reduceEqDiff,Nat.reduceGT,Nat.reduceLT,Int.reduceLE,Int.reduceLT,Int.reduceToNat,Int.reduceAdd,reduceCtorEq,h_putc,beq_self_eq_true,eq_self,exists_eq_left,exists_eq_left', nq1, mq1, addq, hq, hr, nq2, mq2, mq12, mq21, a0, a1, p0, p1, p2, p3]
  · exact hAc.fr fun b hb => by have := lc b hb; rw [c_put_ne (by omega), c_alloc_ne (by omega)]
  · simp only [AHeap.next_alloc, AHeap.next_put, hr]; omega
  · intro b hb; rw [c_put_ne (by omega), c_alloc_ne (by omega), hK0 b hb]
  clear a0 a1 hAc
  rintro k t H ⟨i, fp, a, hk, hA, hB, hC, hAc, hE, hfp, hN, hKp, y, rfl⟩
  have g0 : ¬ q = H.next := by omega
  have g1 : ¬ q + 1 = H.next := by omega
  have g2 : ¬ r = H.next := by omega
  have g3 : ¬ H.next = q := by omega
  have g4 : ¬ H.next = q + 1 := by omega
  have g5 : ¬ H.next = r := by omega
  by_cases c1 : (i : Int) < (x.voices.l.length : Int)
  · obtain ⟨e, he⟩ : ∃ y, x.voices.l[i]? = some y := ⟨_, List.getElem?_eq_getElem (by omega)⟩
    have e2 : IntKind.i64.wrap ((i : Int) + 1) = ((i + 1 : Nat) : Int) := by rw [w64 (by omega) (by omega)]; omega
    simp -implicitDefEqProofs (maxDischargeDepth := 12) only [WW,List.replicate,e_splice,if_true,if_false,ite_true,ite_false,true_or,ne_eq,Nat.reduceAdd,Nat.reduceSub,Nat.reduceMul,Nat.reduceLeDiff,Nat.reduceEqDiff,Nat.reduceGT,Nat.reduceLT,Int.reduceLE,Int.reduceLT,Int.reduceToNat,Int.reduceAdd,reduceCtorEq,h_putc,beq_self_eq_true,eq_self,exists_eq_left,exists_eq_left', hA, hB, hC, c1, he, e.enc_eq, g0, g1, g2, g3, g4, g5, p0, p1, p2, p3]
    rw [← e.enc_eq]
    refine wA_call (hc _ (by decide)) ((vClone_ok (hc _ (by decide)) (hc _ (by decide)) (hc _ (by decide)) (hc _ (by decide)) e (b3 e (List.mem_of_getElem? he)) _).mono ?_)
    rintro o H1 ⟨cs, fp1, rfl, ho, hl, hones, hF1, hN1, hK1⟩
    refine ⟨_, rfl, ?_⟩
    simp only [AHeap.next_alloc, AHeap.next_put] at hF1 hN1
    have d0 := hK1 q (by simp only [AHeap.next_alloc, AHeap.next_put]; omega)
    have d1 := hK1 (q + 1) (by simp only [AHeap.next_alloc, AHeap.next_put]; omega)
    have d2 := hK1 r (by simp only [AHeap.next_alloc, AHeap.next_put]; omega)
    simp -implicitDefEqProofs (maxDischargeDepth := 12) only [WW,List.replicate,e_splice,if_true,if_false,ite_true,ite_false,true_or,ne_eq,Nat.reduceAdd,Nat.reduceSub,Nat.reduceMul,Nat.reduceLeDiff,Nat.reduceEqDiff,Nat.reduceGT,Nat.reduceLT,Int.reduceLE,Int.reduceLT,Int.reduceToNat,Int.reduceAdd,reduceCtorEq,h_putc,beq_self_eq_true,eq_self,exists_eq_left,exists_eq_left', g0, g1, g2, g3, g4, g5, hA, hB, hC] at d0 d1 d2
    have hE1 : AccX false 3 2 Voice.enc H1 a (Sl.of ((x.voices.l.take i).map Voice.cl)) fp := hE.fr fun b hb => by
      have := hE.lts b hb
      rw [hK1 b (by simp only [AHeap.next_alloc, AHeap.next_put]; omega), c_put_ne (by omega), c_alloc_ne (by omega)]
    have hAc1 : AccX false 1 2 ClefChange.enc H1 vc x.clefs fpc := hAc.fr fun b hb => by
      have := lc b hb
      rw [hK1 b (by simp only [AHeap.next_alloc, AHeap.next_put]; omega), c_put_ne (by omega), c_alloc_ne (by omega)]
    have hK2 : Keep q H0 H1 := fun b hb => by
      rw [hK1 b (by simp only [AHeap.next_alloc, AHeap.next_put]; omega), c_put_ne (by omega), c_alloc_ne (by omega), hKp b hb]
    simp -implicitDefEqProofs (maxDischargeDepth := 12) only [WW,List.replicate,e_splice,if_true,if_false,ite_true,ite_false,true_or,ne_eq,Nat.reduceAdd,Nat.reduceSub,Nat.reduceMul,Nat.reduceLeDiff,Nat.reduceEqDiff,Nat.reduceGT,Nat.reduceLT,Int.reduceLE,Int.reduceLT,Int.reduceToNat,Int.reduceAdd,reduceCtorEq,h_putc,beq_self_eq_true,eq_self,exists_eq_left,exists_eq_left', g0, g1, g2, g3, g4, g5, hA, hB, hC, d0, d1, d2, hl, hones, ones_take hl]
    have apf : Apart fp fp1 := fun b hb hb2 => by
      have := hE.lts b hb
      have := hF1 b hb2; omega
    refine wA_app2 row_Voice hE1 (by repeat (first | exact Keep.refl | refine Keep.put (by (try simp only [AHeap.next_alloc, AHeap.next_put]); omega) ?_ | refine Keep.alloc (by (try simp only [AHeap.next_alloc, AHeap.next_put]); omega) ?_)) (by simp) (ys := [e.cl]) (by simp) rfl (asrc_new rfl (by simpa using hl)) (fp1 := fp1) (by
      have : ([e.cl].flatMap fun y => (Voice.enc y).cells) = e.cl.enc.cells := by simp
      rw [this]
      exact ho.fr fun b hb => c_alloc_ne (by have := ho.lts b hb; omega)) apf ?_ ?_
    · rw [l_of]; simp only [List.length_map, List.length_take, List.length_cons, List.length_nil]; omega
    intro v' H2 fp' hE' hn2 hk2 hfp2 ho2 hc2
    rw [of_map_succ he] at hE'
    have k0 := (hk2 q (fun h => by have := hfp q h; omega) (by omega)).trans d0
    have k1 := (hk2 (q + 1) (fun h => by have := hfp _ h; omega) (by omega)).trans d1
    have k2 := (hk2 r (fun h => by have := hfp _ h; omega) (by omega)).trans d2
    have hfp3 : ∀ b ∈ fp', r + 1 ≤ b := fun b hb => by
      rcases hfp2 b hb with h | h | h
      · exact hfp b h
      · have := hF1 b h; omega
      · omega
    simp -implicitDefEqProofs (maxDischargeDepth := 12) only [WW,List.replicate,e_splice,if_true,if_false,ite_true,ite_false,true_or,ne_eq,Nat.reduceAdd,Nat.reduceSub,Nat.reduceMul,Nat.reduceLeDiff,Nat.reduceEqDiff,Nat.reduceGT,Nat.reduceLT,Int.reduceLE,Int.reduceLT,Int.reduceToNat,Int.reduceAdd,reduceCtorEq,h_putc,beq_self_eq_true,eq_self,exists_eq_left,exists_eq_left', e2, k0, k1, k2, ho2, hc2, nq2, mq2, mq12, mq21, nq1, mq1, p0, p1, p2, p3]
    refine ⟨k - 1, by omega, i + 1, fp', v', by omega, rfl, hAc1.fr fun b hb => ?_, hE'.fr fun b hb => h_put_ne (by have := hfp3 b hb; omega), hfp3, by omega, fun b hb => ?_, ex_x rfl⟩
    · have := lc b hb
      rw [h_put_ne (by omega), hk2 b (fun h => by have := hfp b h; omega) (by omega)]
    rw [h_put_ne (by omega), hk2 b (fun h => by have := hfp b h; omega) (by omega), hK2 b hb]
  · have hi : i = x.voices.l.length := by omega
    subst hi
    rw [List.take_length] at hE
    obtain ⟨g, og, kg⟩ := hE.own row_Voice
    obtain ⟨gc, oc, kc⟩ := hAc.own row_ClefChange'
    simp -implicitDefEqProofs (maxDischargeDepth := 12) only [WW,List.replicate,e_splice,if_true,if_false,ite_true,ite_false,true_or,ne_eq,Nat.reduceAdd,Nat.reduceSub,Nat.reduceMul,Nat.reduceLeDiff,Nat.reduceEqDiff,Nat.reduceGT,Nat.reduceLT,Int.reduceLE,Int.reduceLT,Int.reduceToNat,Int.reduceAdd,reduceCtorEq,h_putc,beq_self_eq_true,eq_self,exists_eq_left,exists_eq_left', hA, hB, hC, c1, hE.one, hE.cells, hAc.one, hAc.cells, nq1, nq2, mq1, mq2, mq12, mq21, p0, p1, p2, p3]
    refine ⟨_, _, rfl, .cons ((oc.mono (by decide)).frame fun b hb => ?_) (.cons (og.frame fun b hb => ?_) .nil Apart.nil_right) ?_, rfl, ?_, ?_, ?_, ?_⟩
    · have := hFc b (kc b hb)
      simp only [c_put_ne (show b ≠ q + 1 by omega)]
    · have := hfp b (kg b hb)
      simp only [c_put_ne (show b ≠ q + 1 by omega)]
    · intro b hb hb2
      simp only [List.append_nil] at hb2
      have := lc b (kc b hb)
      have := hfp b (kg b hb2)
      omega
    · simp only [AV.ones, List.all_cons, List.all_nil, hE.one, hAc.one, Bool.and_self]
    · intro b hb
      simp only [List.append_nil, List.mem_append] at hb
      rcases hb with h | h
      · have := hFc b (kc b h); omega
      · have := hfp b (kg b h); omega
    · simp only [AHeap.next_put]; omega
    · intro b hb
      simp only [c_put_ne (show b ≠ q + 1 by omega)]
      exact hKp b (by omega)
end Go.Hem
/- Walks: measure.Clone. -/
set_option maxRecDepth 10000
set_option maxHeartbeats 4000000
set_option linter.unusedSimpArgs false
set_option linter.unusedVariables false
namespace Go.Hem
variable {pol : Pol}
def Measure.cl (m : Measure) : Measure := { m with cells := Sl.of (m.cells.l.map Cell.cl) }
theorem mClone_ok (hc : ClPol pol) (x : Measure) (hx : x.tame) (H0 : AHeap) : Ev prog pol (.call 83 [x.enc]) H0 (ClPost 5 22 H0 x.cl.enc) := by
  refine (wpF_ok ok83 (Q := fun v H' => ∃ cs fp, v = .agg cs ∧ OwnL (OwnX false 5) H' cs x.cl.enc.cells fp ∧ cs.length = 22 ∧ AV.ones cs = true ∧ Fresh H0 H' fp) ?_).mono ?_
  rotate_left
  · rintro o H' ⟨v, rfl, cs, fp, rfl, h⟩; exact ⟨cs, fp, rfl, h⟩
  obtain ⟨b1, b2, b3⟩ := hx
  generalize hq : H0.next = q
  simp -implicitDefEqProofs (maxDischargeDepth := 12) only [wpF, cf83, WW,List.replicate,e_splice,if_true,if_false,ite_true,ite_false,true_or,ne_eq,Nat.reduceAdd,Nat.reduceSub,Nat.reduceMul,Nat.reduceLeDiff,Nat.reduceEqDiff,Nat.reduceGT,Nat.reduceLT,Int.reduceLE,Int.reduceLT,Int.reduceToNat,Int.reduceAdd,reduceCtorEq,h_putc,beq_self_eq_true,eq_self,exists_eq_left,exists_eq_left', x.enc_eq, nq1, mq1, addq, hq, nq2, mq2, mq12, mq21]
  refine wA_call (hc _ (by decide)) ((sclTempo_ok x.tempi b1 _).mono ?_)
  rintro o Hc ⟨vc, fpc, rfl, hAc, hFc, hNc, hKc⟩
  refine ⟨_, rfl, ?_⟩
  simp only [AHeap.next_alloc, addq, hq] at hFc hNc
  have a0 := hKc q (by simp only [AHeap.next_alloc, hq]; omega)
  have a1 := hKc (q + 1) (by simp only [AHeap.next_alloc, hq]; omega)
  simp -implicitDefEqProofs (maxDischargeDepth := 12) only [WW,List.replicate,e_splice,if_true,if_false,ite_true,ite_false,true_or,ne_eq,Nat.reduceAdd,Nat.reduceSub,Nat.reduceMul,Nat.reduceLeDiff,Nat.reduceEqDiff,Nat.reduceGT,Nat.reduceLT,Int.reduceLE,Int.reduceLT,Int.reduceToNat,Int.reduceAdd,reduceCtorEq,h_putc,beq_self_eq_true,eq_self,exists_eq_left,exists_eq_left', nq1, mq1, addq, hq, nq2, mq2, mq12, mq21] at a0 a1
  have hK0 : Keep q H0 Hc := fun b hb => by
    rw [hKc b (by simp only [AHeap.next_alloc, hq]; omega)]
    simp only [c_alloc_ne (show b ≠ H0.next by omega), c_alloc_ne (show b ≠ (H0.alloc _).next by simp only [AHeap.next_alloc]; omega)]
  have lc := hAc.lts
  simp -implicitDefEqProofs (maxDischargeDepth := 12) only [WW,List.replicate,e_splice,if_true,if_false,ite_true,ite_false,true_or,ne_eq,Nat.reduceAdd,Nat.reduceSub,Nat.reduceMul,Nat.reduceLeDiff,Nat.reduceEqDiff,Nat.reduceGT,Nat.reduceLT,Int.reduceLE,Int.reduceLT,Int.reduceToNat,Int.reduceAdd,reduceCtorEq,h_putc,beq_self_eq_true,eq_self,exists_eq_left,exists_eq_left', nq1, mq1, addq, hq, nq2, mq2, mq12, mq21, a0, a1, hAc.one, hAc.cells]
  refine wp_loop (Inv := fun k t H => ∃ (i : Nat) (fp : List Nat) (a : AV), i + k = x.cells.l.length ∧ H.cells q = some [.sc (.int .i64 x.id.site), .sc (.int .i64 x.id.number), .sc (.int .i64 x.metre.count), .sc (.int .i64 x.metre.unit), .sc (.int .i64 x.metre.g0), .sc (.int .i64 x.metre.g1), .sc (.int .i64 x.metre.g2), .sc (.int .i64 x.metre.g3), .sc (.int .i64 x.metre.g4), .sc (.int .i64 x.metre.g5), .sc (.int .i64 x.length), .sc (.int .i64 x.fifths), .sc (.bool x.rstart), .sc (.int .i64 x.rend), .sc (.int .i64 x.endings), .sc (.int .i64 x.jump), .sc (.int .i64 x.labels), .sc (.int .i64 x.swing), .sc (.int .i64 x.brk), .sc (.str x.rehearsal), vc, a] ∧ H.cells (q + 1) = some [.sc (.int .i64 0), .sc (.int .i64 0), .sc (.int .i64 0), .sc (.int .i64 0), .sc (.int .i64 0), .sc (.int .i64 0), .sc (.int .i64 0), .sc (.int .i64 0), .sc (.int .i64 0), .sc (.int .i64 0), .sc (.int .i64 0), .sc (.int .i64 0), .sc (.bool false), .sc (.int .i64 0), .sc (.int .i64 0), .sc (.int .i64 0), .sc (.int .i64 0), .sc (.int .i64 0), .sc (.int .i64 0), .sc (.str ⟨#[]⟩), .sc .nils, .sc .nils] ∧
    AccX false 1 3 Tempo.enc H vc x.tempi fpc ∧ AccX false 4 2 Cell.enc H a (Sl.of ((x.cells.l.take i).map Cell.cl)) fp ∧ (∀ b ∈ fp, Hc.next ≤ b) ∧ Hc.next ≤ H.next ∧ Keep q H0 H ∧
    ∃ y : Nat → AV, t = [.agg [.sc (.int .i64 x.id.site), .sc (.int .i64 x.id.number), .sc (.int .i64 x.metre.count), .sc (.int .i64 x.metre.unit), .sc (.int .i64 x.metre.g0), .sc (.int .i64 x.metre.g1), .sc (.int .i64 x.metre.g2), .sc (.int .i64 x.metre.g3), .sc (.int .i64 x.metre.g4), .sc (.int .i64 x.metre.g5), .sc (.int .i64 x.length), .sc (.int .i64 x.fifths), .sc (.bool x.rstart), .sc (.int .i64 x.rend), .sc (.int .i64 x.endings), .sc (.int .i64 x.jump), .sc (.int .i64 x.labels), .sc (.int .i64 x.swing), .sc (.int .i64 x.brk), .sc (.str x.rehearsal), slm Tempo.enc x.tempi, slm Cell.enc x.cells], .ptr q 0, .ptr (q + 1) 0, slm Cell.enc x.cells, y 4, y 5, y 6, y 7, y 8, y 9, y 10, y 11, y 12, slm Cell.enc x.cells, .sc (.int .i64 x.cells.l.length), .sc (.int .i64 i), y 16, y 17, y 18, y 19, y 20, y 21, y 22, y 23, y 24, y 25, y 26, y 27]) (k := x.cells.l.length) ?_
    ⟨0, [], _, by omega, ?_, ?_, ?_, acc_none, by simp, ?_, ?_, ex_x rfl⟩
  rotate_left
  · simp -implicitDefEqProofs (maxDischargeDepth := 12) only [WW,List.replicate,e_splice,if_true,if_false,ite_true,ite_false,true_or,ne_eq,Nat.reduceAdd,Nat.reduceSub,Nat.reduceMul,Nat.reduceLeDiff,Nat.reduceEqDiff,Nat.reduceGT,Nat.reduceLT,Int.reduceLE,Int.reduceLT,Int.reduceToNat,Int.reduceAdd,reduceCtorEq,h_putc,beq_self_eq_true,eq_self,exists_eq_left,exists_eq_left', nq1, mq1, addq, hq, nq2, mq2, mq12, mq21, a0, a1]
  · simp -implicitDefEqProofs (maxDischargeDepth := 12) only [WW,List.replicate,e_splice,if_true,if_false,ite_true,ite_false,true_or,ne_eq,Nat.reduceAdd,Nat.reduceSub,Nat.reduceMul,Nat.reduceLeDiff,Nat.reduceEqDiff,Nat.reduceGT,Nat.reduceLT,Int.reduceLE,Int.reduceLT,Int.reduceToNat,Int.reduceAdd,reduceCtorEq,h_putc,beq_self_eq_true,eq_self,exists_eq_left,exists_eq_left', nq1, mq1, addq, hq, nq2, mq2, mq12, mq21, a0, a1]
  · exact hAc.fr fun b hb => by have := hFc b hb; rw [c_put_ne (by omega), c_put_ne (by omega)]
  · simp only [AHeap.next_alloc, AHeap.next_put]; omega
  · intro b hb; rw [c_put_ne (by omega), c_put_ne (by omega), hK0 b hb]
  clear a0 a1 hAc
  rintro k t H ⟨i, fp, a, hk, hA, hB, hAc, hE, hfp, hN, hKp, y, rfl⟩
  have g0 : ¬ q = H.next := by omega
  have g1 : ¬ q + 1 = H.next := by omega
  have g3 : ¬ H.next = q := by omega
  have g4 : ¬ H.next = q + 1 := by omega
  by_cases c1 : (i : Int) < (x.cells.l.length : Int)
  · obtain ⟨e, he⟩ : ∃ y, x.cells.l[i]? = some y := ⟨_, List.getElem?_eq_getElem (by omega)⟩
    have e2 : IntKind.i64.wrap ((i : Int) + 1) = ((i + 1 : Nat) : Int) := by rw [w64 (by omega) (by omega)]; omega
    simp -implicitDefEqProofs (maxDischargeDepth := 12) only [WW,List.replicate,e_splice,if_true,if_false,ite_true,ite_false,true_or,ne_eq,Nat.reduceAdd,Nat.reduceSub,Nat.reduceMul,Nat.reduceLeDiff,Nat.reduceEqDiff,Nat.reduceGT,Nat.reduceLT,Int.reduceLE,Int.reduceLT,Int.reduceToNat,Int.reduceAdd,reduceCtorEq,h_putc,beq_self_eq_true,eq_self,exists_eq_left,exists_eq_left', hA, hB, c1, he, e.enc_eq, g0, g1, g3, g4]
    rw [← e.enc_eq]
    refine wA_call (hc _ (by decide)) ((cClone_ok hc e (b3 e (List.mem_of_getElem? he)) _).mono ?_)
    rintro o H1 ⟨cs, fp1, rfl, ho, hl, hones, hF1, hN1, hK1⟩
    refine ⟨_, rfl, ?_⟩
    simp only [AHeap.next_alloc, AHeap.next_put] at hF1 hN1
    have d0 := hK1 q (by simp only [AHeap.next_alloc, AHeap.next_put]; omega)
    have d1 := hK1 (q + 1) (by simp only [AHeap.next_alloc, AHeap.next_put]; omega)
    simp -implicitDefEqProofs (maxDischargeDepth := 12) only [WW,List.replicate,e_splice,if_true,if_false,ite_true,ite_false,true_or,ne_eq,Nat.reduceAdd,Nat.reduceSub,Nat.reduceMul,Nat.reduceLeDiff,Nat.reduceEqDiff,Nat.reduceGT,Nat.reduceLT,Int.reduceLE,Int.reduceLT,Int.reduceToNat,Int.reduceAdd,reduceCtorEq,h_putc,beq_self_eq_true,eq_self,exists_eq_left,exists_eq_left', g0, g1, g3, g4, hA, hB] at d0 d1
    have hE1 : AccX false 4 2 Cell.enc H1 a (Sl.of ((x.cells.l.take i).map Cell.cl)) fp := hE.fr fun b hb => by
      have := hE.lts b hb
      rw [hK1 b (by simp only [AHeap.next_alloc, AHeap.next_put]; omega), c_put_ne (by omega), c_alloc_ne (by omega)]
    have hAc1 : AccX false 1 3 Tempo.enc H1 vc x.tempi fpc := hAc.fr fun b hb => by
      have := lc b hb
      rw [hK1 b (by simp only [AHeap.next_alloc, AHeap.next_put]; omega), c_put_ne (by omega), c_alloc_ne (by omega)]
    have hK2 : Keep q H0 H1 := fun b hb => by
      rw [hK1 b (by simp only [AHeap.next_alloc, AHeap.next_put]; omega), c_put_ne (by omega), c_alloc_ne (by omega), hKp b hb]
    simp -implicitDefEqProofs (maxDischargeDepth := 12) only [WW,List.replicate,e_splice,if_true,if_false,ite_true,ite_false,true_or,ne_eq,Nat.reduceAdd,Nat.reduceSub,Nat.reduceMul,Nat.reduceLeDiff,Nat.reduceEqDiff,Nat.reduceGT,Nat.reduceLT,Int.reduceLE,Int.reduceLT,Int.reduceToNat,Int.reduceAdd,reduceCtorEq,h_putc,beq_self_eq_true,eq_self,exists_eq_left,exists_eq_left', g0, g1, g3, g4, hA, hB, d0, d1, hl, hones, ones_take hl]
    have apf : Apart fp fp1 := fun b hb hb2 => by
      have := hE.lts b hb
      have := hF1 b hb2; omega
    refine wA_app2 row_Cell hE1 (by repeat (first | exact Keep.refl | refine Keep.put (by (try simp only [AHeap.next_alloc, AHeap.next_put]); omega) ?_ | refine Keep.alloc (by (try simp only [AHeap.next_alloc, AHeap.next_put]); omega) ?_)) (by simp) (ys := [e.cl]) (by simp) rfl (asrc_new rfl (by simpa using hl)) (fp1 := fp1) (by
      have : ([e.cl].flatMap fun y => (Cell.enc y).cells) = e.cl.enc.cells := by simp
      rw [this]
      exact ho.fr fun b hb => c_alloc_ne (by have := ho.lts b hb; omega)) apf ?_ ?_
    · rw [l_of]; simp only [List.length_map, List.length_take, List.length_cons, List.length_nil]; omega
    intro v' H2 fp' hE' hn2 hk2 hfp2 ho2 hc2
    rw [of_map_succ he] at hE'
    have k0 := (hk2 q (fun h => by have := hfp q h; omega) (by omega)).trans d0
    have k1 := (hk2 (q + 1) (fun h => by have := hfp _ h; omega) (by omega)).trans d1
    have hfp3 : ∀ b ∈ fp', Hc.next ≤ b := fun b hb => by
      rcases hfp2 b hb with h | h | h
      · exact hfp b h
      · have := hF1 b h; omega
      · omega
    simp -implicitDefEqProofs (maxDischargeDepth := 12) only [WW,List.replicate,e_splice,if_true,if_false,ite_true,ite_false,true_or,ne_eq,Nat.reduceAdd,Nat.reduceSub,Nat.reduceMul,Nat.reduceLeDiff,Nat.reduceEqDiff,Nat.reduceGT,Nat.reduceLT,Int.reduceLE,Int.reduceLT,Int.reduceToNat,Int.reduceAdd,reduceCtorEq,h_putc,beq_self_eq_true,eq_self,exists_eq_left,exists_eq_left', e2, k0, k1, ho2, hc2, nq2, mq2, mq12, mq21, nq1, mq1]
    refine ⟨k - 1, by omega, i + 1, fp', v', by omega, rfl, hAc1.fr fun b hb => ?_, hE'.fr fun b hb => h_put_ne (by have := hfp3 b hb; omega), hfp3, by omega, fun b hb => ?_, ex_x rfl⟩
    · have := lc b hb
      have := hFc b hb
      rw [h_put_ne (by omega), hk2 b (fun h => by have := hfp b h; omega) (by omega)]
    rw [h_put_ne (by omega), hk2 b (fun h => by have := hfp b h; omega) (by omega), hK2 b hb]
  · have hi : i = x.cells.l.length := by omega
    subst hi
    rw [List.take_length] at hE
    obtain ⟨g, og, kg⟩ := hE.own row_Cell
    obtain ⟨gc, oc, kc⟩ := hAc.own row_Tempo'
    simp -implicitDefEqProofs (maxDischargeDepth := 12) only [WW,List.replicate,e_splice,if_true,if_false,ite_true,ite_false,true_or,ne_eq,Nat.reduceAdd,Nat.reduceSub,Nat.reduceMul,Nat.reduceLeDiff,Nat.reduceEqDiff,Nat.reduceGT,Nat.reduceLT,Int.reduceLE,Int.reduceLT,Int.reduceToNat,Int.reduceAdd,reduceCtorEq,h_putc,beq_self_eq_true,eq_self,exists_eq_left,exists_eq_left', hA, hB, c1, hE.one, hE.cells, hAc.one, hAc.cells, nq1, nq2, mq1, mq2, mq12, mq21]
    refine ⟨_, _, rfl, (.cons OwnX.scal (.cons OwnX.scal (.cons OwnX.scal (.cons OwnX.scal (.cons OwnX.scal (.cons OwnX.scal (.cons OwnX.scal (.cons OwnX.scal (.cons OwnX.scal (.cons OwnX.scal (.cons OwnX.scal (.cons OwnX.scal (.cons OwnX.scal (.cons OwnX.scal (.cons OwnX.scal (.cons OwnX.scal (.cons OwnX.scal (.cons OwnX.scal (.cons OwnX.scal (.cons OwnX.scal (.cons ((oc.mono (by decide)).frame fun b hb => ?_) (.cons (og.frame fun b hb => ?_) .nil Apart.nil_right) ?_) Apart.nil_left) Apart.nil_left) Apart.nil_left) Apart.nil_left) Apart.nil_left) Apart.nil_left) Apart.nil_left) Apart.nil_left) Apart.nil_left) Apart.nil_left) Apart.nil_left) Apart.nil_left) Apart.nil_left) Apart.nil_left) Apart.nil_left) Apart.nil_left) Apart.nil_left) Apart.nil_left) Apart.nil_left) Apart.nil_left), rfl, ?_, ?_, ?_, ?_⟩
    · have := hFc b (kc b hb)
      simp only [c_put_ne (show b ≠ q + 1 by omega)]
    · have := hfp b (kg b hb)
      simp only [c_put_ne (show b ≠ q + 1 by omega)]
    · intro b hb hb2
      simp only [List.append_nil] at hb2
      have := lc b (kc b hb)
      have := hfp b (kg b hb2)
      omega
    · simp only [AV.ones, List.all_cons, List.all_nil, o_int, o_bool, o_str, hE.one, hAc.one, Bool.and_self]
    · intro b hb
      simp only [List.nil_append, List.append_nil, List.mem_append] at hb
      rcases hb with h | h
      · have := hFc b (kc b h); omega
      · have := hfp b (kg b h); omega
    · simp only [AHeap.next_put]; omega
    · intro b hb
      simp only [c_put_ne (show b ≠ q + 1 by omega)]
      exact hKp b (by omega)
end Go.Hem
/- Walks: score.Clone. -/
set_option maxRecDepth 10000
set_option maxHeartbeats 4000000
set_option linter.unusedSimpArgs false
set_option linter.unusedVariables false
namespace Go.Hem
variable {pol : Pol}
def Score.cl (s : Score) : Score := { s with parts := some s.parts.l, measures := some (s.measures.l.map Measure.cl) }
theorem some_take_succ {α : Type} {l : List α} {i : Nat} {x : α} (h : l[i]? = some x) : (some (Sl.l (some (l.take i)) ++ [x]) : Sl α) = some (l.take (i + 1)) := by
  rw [List.take_add_one, h]; rfl
theorem some_map_succ {α β : Type} {g : α → β} {l : List α} {i : Nat} {x : α} (h : l[i]? = some x) : (some (Sl.l (some ((l.take i).map g)) ++ [g x]) : Sl β) = some ((l.take (i + 1)).map g) := by
  rw [List.take_add_one, h]; simp [Sl.l]
theorem acc_room {α : Type} {f : α → AV} {d n c b : Nat} {H : AHeap} {z : List AV} (hz : z.length = n) (h : H.cells b = some (rep c z)) : AccX false d n f H (.slice b 0 0 c n) (some []) [b] :=
  .inr ⟨b, c, [], rep c z, [], [], rfl, rfl, Nat.zero_le _, by simpa using h, by simp, by rw [len_rep, hz]; simp, .nil, by simp, rfl⟩
theorem sClone_ok (hc : ClPol pol) (x : Score) (hx : x.tame) (H0 : AHeap) : Ev prog pol (.call 39 [x.enc]) H0 (ClPost 7 6 H0 x.cl.enc) := by
  refine (wpF_ok ok39 (Q := fun v H' => ∃ cs fp, v = .agg cs ∧ OwnL (OwnX false 7) H' cs x.cl.enc.cells fp ∧ cs.length = 6 ∧ AV.ones cs = true ∧ Fresh H0 H' fp) ?_).mono ?_
  rotate_left
  · rintro o H' ⟨v, rfl, cs, fp, rfl, h⟩; exact ⟨cs, fp, rfl, h⟩
  obtain ⟨b1, b2, b3, b4, b5, b6⟩ := hx
  have m1 : ((72 : Nat) : Int) * ((x.parts.l.length : Nat) : Int) ≤ 2 ^ 47 := by omega
  have m2 : x.parts.l.length < 2 ^ 40 := by omega
  have m3 : ((216 : Nat) : Int) * ((x.measures.l.length : Nat) : Int) ≤ 2 ^ 47 := by omega
  have m4 : x.measures.l.length < 2 ^ 40 := by omega
  generalize hq : H0.next = q
  simp -implicitDefEqProofs (maxDischargeDepth := 12) only [wpF, cf39, WW,List.replicate,e_splice,if_true,if_false,ite_true,ite_false,true_or,ne_eq,Nat.reduceAdd,Nat.reduceSub,Nat.reduceMul,Nat.reduceLeDiff,Nat.reduceEqDiff,Nat.reduceGT,Nat.reduceLT,Int.reduceLE,Int.reduceLT,Int.reduceToNat,Int.reduceAdd,reduceCtorEq,h_putc,beq_self_eq_true,eq_self,exists_eq_left,exists_eq_left', x.enc_eq, nq1, mq1, addq, nq2, mq2, mq12, mq21, hq, mksOf, m1, m2]
  refine wp_loop (Inv := fun k t H => ∃ (i : Nat) (fp : List Nat) (a : AV), i + k = x.parts.l.length ∧ H.cells q = some [.sc (.str x.title), .sc (.bool x.written), slm Part.enc x.parts, slm Measure.enc x.measures, slm Spanner.enc x.spanners, slm ID.enc x.last] ∧ H.cells (q + 1) = some [.sc (.str ⟨#[]⟩), .sc (.bool false), .sc .nils, .sc .nils, .sc .nils, .sc .nils] ∧
    AccX false 3 6 Part.enc H a (some (x.parts.l.take i)) fp ∧ (∀ b ∈ fp, q + 2 ≤ b) ∧ q + 2 ≤ H.next ∧ Keep q H0 H ∧
    ∃ y : Nat → AV, t = [.agg [.sc (.str x.title), .sc (.bool x.written), slm Part.enc x.parts, slm Measure.enc x.measures, slm Spanner.enc x.spanners, slm ID.enc x.last], .ptr q 0, .ptr (q + 1) 0, a, y 4, y 5, y 6, y 7, y 8, y 9, y 10, y 11, y 12, y 13, slm Part.enc x.parts, .sc (.int .i64 x.parts.l.length), .sc (.int .i64 i), y 17, y 18, y 19, y 20, y 21, y 22, y 23, y 24, y 25, y 26, y 27, y 28, y 29, y 30, y 31, y 32, y 33, y 34, y 35, y 36, y 37, y 38, y 39, y 40, y 41, y 42, y 43, y 44, y 45, y 46, y 47, y 48, y 49, y 50, y 51, y 52, y 53, y 54, y 55]) (k := x.parts.l.length) ?_
    ⟨0, [q + 2], _, by omega, ?_, ?_, ?_, ?_, ?_, ?_, ex_x rfl⟩
  rotate_left
  · simp -implicitDefEqProofs (maxDischargeDepth := 12) only [WW,List.replicate,e_splice,if_true,if_false,ite_true,ite_false,true_or,ne_eq,Nat.reduceAdd,Nat.reduceSub,Nat.reduceMul,Nat.reduceLeDiff,Nat.reduceEqDiff,Nat.reduceGT,Nat.reduceLT,Int.reduceLE,Int.reduceLT,Int.reduceToNat,Int.reduceAdd,reduceCtorEq,h_putc,beq_self_eq_true,eq_self,exists_eq_left,exists_eq_left', nq1, mq1, addq, nq2, mq2, mq12, mq21, hq]
  · simp -implicitDefEqProofs (maxDischargeDepth := 12) only [WW,List.replicate,e_splice,if_true,if_false,ite_true,ite_false,true_or,ne_eq,Nat.reduceAdd,Nat.reduceSub,Nat.reduceMul,Nat.reduceLeDiff,Nat.reduceEqDiff,Nat.reduceGT,Nat.reduceLT,Int.reduceLE,Int.reduceLT,Int.reduceToNat,Int.reduceAdd,reduceCtorEq,h_putc,beq_self_eq_true,eq_self,exists_eq_left,exists_eq_left', nq1, mq1, addq, nq2, mq2, mq12, mq21, hq]
  · exact acc_room (z := [.sc (.int .i64 0), .sc (.int .i64 0), .sc (.str ⟨#[]⟩), .sc (.int .i64 0), .sc (.int .i64 0), .sc .nils]) rfl (by simp -implicitDefEqProofs (maxDischargeDepth := 12) only [WW,List.replicate,e_splice,if_true,if_false,ite_true,ite_false,true_or,ne_eq,Nat.reduceAdd,Nat.reduceSub,Nat.reduceMul,Nat.reduceLeDiff,Nat.reduceEqDiff,Nat.reduceGT,Nat.reduceLT,Int.reduceLE,Int.reduceLT,Int.reduceToNat,Int.reduceAdd,reduceCtorEq,h_putc,beq_self_eq_true,eq_self,exists_eq_left,exists_eq_left', nq1, mq1, addq, nq2, mq2, mq12, mq21, hq])
  · intro b hb; simp only [List.mem_singleton] at hb; omega
  · simp only [AHeap.next_alloc, hq]; omega
  · subst hq; exact (by repeat (first | exact Keep.refl | refine Keep.put (by (try simp only [AHeap.next_alloc, AHeap.next_put]); omega) ?_ | refine Keep.alloc (by (try simp only [AHeap.next_alloc, AHeap.next_put]); omega) ?_))
  rintro k t H ⟨i, fp, a, hk, hA, hB, hE, hfp, hN, hKp, y, rfl⟩
  have g0 : ¬ q = H.next := by omega
  have g1 : ¬ q + 1 = H.next := by omega
  have g3 : ¬ H.next = q := by omega
  have g4 : ¬ H.next = q + 1 := by omega
  by_cases c1 : (i : Int) < (x.parts.l.length : Int)
  · obtain ⟨e, he⟩ : ∃ y, x.parts.l[i]? = some y := ⟨_, List.getElem?_eq_getElem (by omega)⟩
    have e2 : IntKind.i64.wrap ((i : Int) + 1) = ((i + 1 : Nat) : Int) := by rw [w64 (by omega) (by omega)]; omega
    simp -implicitDefEqProofs (maxDischargeDepth := 12) only [WW,List.replicate,e_splice,if_true,if_false,ite_true,ite_false,true_or,ne_eq,Nat.reduceAdd,Nat.reduceSub,Nat.reduceMul,Nat.reduceLeDiff,Nat.reduceEqDiff,Nat.reduceGT,Nat.reduceLT,Int.reduceLE,Int.reduceLT,Int.reduceToNat,Int.reduceAdd,reduceCtorEq,h_putc,beq_self_eq_true,eq_self,exists_eq_left,exists_eq_left', hA, hB, c1, he, e.enc_eq, g0, g1, g3, g4]
    rw [← e.enc_eq]
    refine wA_call (hc _ (by decide)) ((pClone_ok (hc _ (by decide)) e (b2 e (List.mem_of_getElem? he)) _).mono ?_)
    rintro o H1 ⟨cs, fp1, rfl, ho0, hl, hones, hF1, hN1, hK1⟩
    have ho := OwnL.mono (d' := 3) ho0 (by decide)
    refine ⟨_, rfl, ?_⟩
    simp only [AHeap.next_alloc, AHeap.next_put] at hF1 hN1
    have d0 := hK1 q (by simp only [AHeap.next_alloc, AHeap.next_put]; omega)
    have d1 := hK1 (q + 1) (by simp only [AHeap.next_alloc, AHeap.next_put]; omega)
    simp -implicitDefEqProofs (maxDischargeDepth := 12) only [WW,List.replicate,e_splice,if_true,if_false,ite_true,ite_false,true_or,ne_eq,Nat.reduceAdd,Nat.reduceSub,Nat.reduceMul,Nat.reduceLeDiff,Nat.reduceEqDiff,Nat.reduceGT,Nat.reduceLT,Int.reduceLE,Int.reduceLT,Int.reduceToNat,Int.reduceAdd,reduceCtorEq,h_putc,beq_self_eq_true,eq_self,exists_eq_left,exists_eq_left', g0, g1, g3, g4, hA, hB] at d0 d1
    have hold : ∀ b, b < H.next → H1.cells b = H.cells b := fun b hb => by
      rw [hK1 b (by simp only [AHeap.next_alloc, AHeap.next_put]; omega), c_put_ne (by omega), c_alloc_ne (by omega)]
    have hE1 : AccX false 3 6 Part.enc H1 a (some (x.parts.l.take i)) fp := hE.fr fun b hb => hold b (hE.lts b hb)
    have hK2 : Keep q H0 H1 := fun b hb => by rw [hold b (by omega), hKp b hb]
    simp -implicitDefEqProofs (maxDischargeDepth := 12) only [WW,List.replicate,e_splice,if_true,if_false,ite_true,ite_false,true_or,ne_eq,Nat.reduceAdd,Nat.reduceSub,Nat.reduceMul,Nat.reduceLeDiff,Nat.reduceEqDiff,Nat.reduceGT,Nat.reduceLT,Int.reduceLE,Int.reduceLT,Int.reduceToNat,Int.reduceAdd,reduceCtorEq,h_putc,beq_self_eq_true,eq_self,exists_eq_left,exists_eq_left', g0, g1, g3, g4, hA, hB, d0, d1, hl, hones, ones_take hl]
    have apf : Apart fp fp1 := fun b hb hb2 => by
      have := hE.lts b hb
      have := hF1 b hb2; omega
    refine wA_app2 row_Part hE1 (by repeat (first | exact Keep.refl | refine Keep.put (by (try simp only [AHeap.next_alloc, AHeap.next_put]); omega) ?_ | refine Keep.alloc (by (try simp only [AHeap.next_alloc, AHeap.next_put]); omega) ?_)) (by simp) (ys := [e]) (by simp) rfl (asrc_new rfl (by simpa using hl)) (fp1 := fp1) (by
      have : ([e].flatMap fun y => (Part.enc y).cells) = (e).enc.cells := by simp
      rw [this]
      exact ho.fr fun b hb => c_alloc_ne (by have := ho.lts b hb; omega)) apf ?_ ?_
    · simp only [Sl.l, Option.getD_some, List.length_map, List.length_take, List.length_cons, List.length_nil]; omega
    intro v' H2 fp' hE' hn2 hk2 hfp2 ho2 hc2
    rw [some_take_succ he] at hE'
    have k0 := (hk2 q (fun h => by have := hfp q h; omega) (by omega)).trans d0
    have k1 := (hk2 (q + 1) (fun h => by have := hfp _ h; omega) (by omega)).trans d1
    have hfp3 : ∀ b ∈ fp', q + 2 ≤ b := fun b hb => by
      rcases hfp2 b hb with h | h | h
      · exact hfp b h
      · have := hF1 b h; omega
      · omega
    simp -implicitDefEqProofs (maxDischargeDepth := 12) only [WW,List.replicate,e_splice,if_true,if_false,ite_true,ite_false,true_or,ne_eq,Nat.reduceAdd,Nat.reduceSub,Nat.reduceMul,Nat.reduceLeDiff,Nat.reduceEqDiff,Nat.reduceGT,Nat.reduceLT,Int.reduceLE,Int.reduceLT,Int.reduceToNat,Int.reduceAdd,reduceCtorEq,h_putc,beq_self_eq_true,eq_self,exists_eq_left,exists_eq_left', e2, k0, k1, ho2, hc2, nq1, mq1, addq, nq2, mq2, mq12, mq21]
    refine ⟨k - 1, by omega, i + 1, fp', v', by omega, hE', hfp3, by omega, fun b hb => ?_, ex_x rfl⟩
    rw [hk2 b (fun h => by have := hfp b h; omega) (by omega), hK2 b hb]
  have hi : i = x.parts.l.length := by omega
  subst hi
  rw [List.take_length] at hE
  have hP := hE
  have hPf := hfp
  have lp := hE.lts
  clear hE hfp
  generalize a = vp at *
  generalize fp = fpp at *
  generalize hr : H.next = r
  rw [hr] at lp
  have hqr : q + 2 ≤ r := by omega
  have p0 : ¬ q = r := by omega
  have p1 : ¬ q + 1 = r := by omega
  simp -implicitDefEqProofs (maxDischargeDepth := 12) only [WW,List.replicate,e_splice,if_true,if_false,ite_true,ite_false,true_or,ne_eq,Nat.reduceAdd,Nat.reduceSub,Nat.reduceMul,Nat.reduceLeDiff,Nat.reduceEqDiff,Nat.reduceGT,Nat.reduceLT,Int.reduceLE,Int.reduceLT,Int.reduceToNat,Int.reduceAdd,reduceCtorEq,h_putc,beq_self_eq_true,eq_self,exists_eq_left,exists_eq_left', hA, hB, c1, hr, p0, p1, mksOf, m3, m4]
  refine wp_loop (Inv := fun k t H => ∃ (i : Nat) (fp : List Nat) (a : AV), i + k = x.measures.l.length ∧ H.cells q = some [.sc (.str x.title), .sc (.bool x.written), slm Part.enc x.parts, slm Measure.enc x.measures, slm Spanner.enc x.spanners, slm ID.enc x.last] ∧ H.cells (q + 1) = some [.sc (.str ⟨#[]⟩), .sc (.bool false), .sc .nils, .sc .nils, .sc .nils, .sc .nils] ∧ AccX false 3 6 Part.enc H vp (some x.parts.l) fpp ∧
    AccX false 5 22 Measure.enc H a (some ((x.measures.l.take i).map Measure.cl)) fp ∧ (∀ b ∈ fp, r ≤ b) ∧ r ≤ H.next ∧ Keep q H0 H ∧
    ∃ y : Nat → AV, t = [.agg [.sc (.str x.title), .sc (.bool x.written), slm Part.enc x.parts, slm Measure.enc x.measures, slm Spanner.enc x.spanners, slm ID.enc x.last], .ptr q 0, .ptr (q + 1) 0, vp, y 4, y 5, a, y 7, y 8, y 9, y 10, y 11, y 12, y 13, y 14, y 15, y 16, y 17, y 18, y 19, y 20, y 21, y 22, y 23, y 24, y 25, y 26, y 27, y 28, y 29, y 30, slm Measure.enc x.measures, .sc (.int .i64 x.measures.l.length), .sc (.int .i64 i), y 34, y 35, y 36, y 37, y 38, y 39, y 40, y 41, y 42, y 43, y 44, y 45, y 46, y 47, y 48, y 49, y 50, y 51, y 52, y 53, y 54, y 55]) (k := x.measures.l.length) ?_
    ⟨0, [r], _, by omega, ?_, ?_, ?_, ?_, ?_, ?_, ?_, ex_x rfl⟩
  rotate_left
  · simp -implicitDefEqProofs (maxDischargeDepth := 12) only [WW,List.replicate,e_splice,if_true,if_false,ite_true,ite_false,true_or,ne_eq,Nat.reduceAdd,Nat.reduceSub,Nat.reduceMul,Nat.reduceLeDiff,Nat.reduceEqDiff,Nat.reduceGT,Nat.reduceLT,Int.reduceLE,Int.reduceLT,Int.reduceToNat,Int.reduceAdd,reduceCtorEq,h_putc,beq_self_eq_true,eq_self,exists_eq_left,exists_eq_left', nq1, mq1, addq, nq2, mq2, mq12, mq21, hr, p0, p1, hA, hB]
  · simp -implicitDefEqProofs (maxDischargeDepth := 12) only [WW,List.replicate,e_splice,if_true,if_false,ite_true,ite_false,true_or,ne_eq,Nat.reduceAdd,Nat.reduceSub,Nat.reduceMul,Nat.reduceLeDiff,Nat.reduceEqDiff,Nat.reduceGT,Nat.reduceLT,Int.reduceLE,Int.reduceLT,Int.reduceToNat,Int.reduceAdd,reduceCtorEq,h_putc,beq_self_eq_true,eq_self,exists_eq_left,exists_eq_left', nq1, mq1, addq, nq2, mq2, mq12, mq21, hr, p0, p1, hA, hB]
  · exact hP.fr fun b hb => by have := lp b hb; rw [c_alloc_ne (by omega)]
  · exact acc_room (z := [.sc (.int .i64 0), .sc (.int .i64 0), .sc (.int .i64 0), .sc (.int .i64 0), .sc (.int .i64 0), .sc (.int .i64 0), .sc (.int .i64 0), .sc (.int .i64 0), .sc (.int .i64 0), .sc (.int .i64 0), .sc (.int .i64 0), .sc (.int .i64 0), .sc (.bool false), .sc (.int .i64 0), .sc (.int .i64 0), .sc (.int .i64 0), .sc (.int .i64 0), .sc (.int .i64 0), .sc (.int .i64 0), .sc (.str ⟨#[]⟩), .sc .nils, .sc .nils]) rfl (by simp -implicitDefEqProofs (maxDischargeDepth := 12) only [WW,List.replicate,e_splice,if_true,if_false,ite_true,ite_false,true_or,ne_eq,Nat.reduceAdd,Nat.reduceSub,Nat.reduceMul,Nat.reduceLeDiff,Nat.reduceEqDiff,Nat.reduceGT,Nat.reduceLT,Int.reduceLE,Int.reduceLT,Int.reduceToNat,Int.reduceAdd,reduceCtorEq,h_putc,beq_self_eq_true,eq_self,exists_eq_left,exists_eq_left', nq1, mq1, addq, nq2, mq2, mq12, mq21, hr])
  · intro b hb; simp only [List.mem_singleton] at hb; omega
  · simp only [AHeap.next_alloc, hr]; omega
  · intro b hb; rw [c_alloc_ne (by omega), hKp b hb]
  clear hA hB hP hN hKp hk c1
  rintro k t H ⟨i, fp, a, hk, hA, hB, hP, hE, hfp, hN, hKp, y, rfl⟩
  have g0 : ¬ q = H.next := by omega
  have g1 : ¬ q + 1 = H.next := by omega
  have g3 : ¬ H.next = q := by omega
  have g4 : ¬ H.next = q + 1 := by omega
  by_cases c1 : (i : Int) < (x.measures.l.length : Int)
  · obtain ⟨e, he⟩ : ∃ y, x.measures.l[i]? = some y := ⟨_, List.getElem?_eq_getElem (by omega)⟩
    have e2 : IntKind.i64.wrap ((i : Int) + 1) = ((i + 1 : Nat) : Int) := by rw [w64 (by omega) (by omega)]; omega
    simp -implicitDefEqProofs (maxDischargeDepth := 12) only [WW,List.replicate,e_splice,if_true,if_false,ite_true,ite_false,true_or,ne_eq,Nat.reduceAdd,Nat.reduceSub,Nat.reduceMul,Nat.reduceLeDiff,Nat.reduceEqDiff,Nat.reduceGT,Nat.reduceLT,Int.reduceLE,Int.reduceLT,Int.reduceToNat,Int.reduceAdd,reduceCtorEq,h_putc,beq_self_eq_true,eq_self,exists_eq_left,exists_eq_left', hA, hB, c1, he, e.enc_eq, g0, g1, g3, g4]
    rw [← e.enc_eq]
    refine wA_call (hc _ (by decide)) ((mClone_ok hc e (b4 e (List.mem_of_getElem? he)) _).mono ?_)
    rintro o H1 ⟨cs, fp1, rfl, ho, hl, hones, hF1, hN1, hK1⟩
    refine ⟨_, rfl, ?_⟩
    simp only [AHeap.next_alloc, AHeap.next_put] at hF1 hN1
    have d0 := hK1 q (by simp only [AHeap.next_alloc, AHeap.next_put]; omega)
    have d1 := hK1 (q + 1) (by simp only [AHeap.next_alloc, AHeap.next_put]; omega)
    simp -implicitDefEqProofs (maxDischargeDepth := 12) only [WW,List.replicate,e_splice,if_true,if_false,ite_true,ite_false,true_or,ne_eq,Nat.reduceAdd,Nat.reduceSub,Nat.reduceMul,Nat.reduceLeDiff,Nat.reduceEqDiff,Nat.reduceGT,Nat.reduceLT,Int.reduceLE,Int.reduceLT,Int.reduceToNat,Int.reduceAdd,reduceCtorEq,h_putc,beq_self_eq_true,eq_self,exists_eq_left,exists_eq_left', g0, g1, g3, g4, hA, hB] at d0 d1
    have hold : ∀ b, b < H.next → H1.cells b = H.cells b := fun b hb => by
      rw [hK1 b (by simp only [AHeap.next_alloc, AHeap.next_put]; omega), c_put_ne (by omega), c_alloc_ne (by omega)]
    have hE1 : AccX false 5 22 Measure.enc H1 a (some ((x.measures.l.take i).map Measure.cl)) fp := hE.fr fun b hb => hold b (hE.lts b hb)
    have hK2 : Keep q H0 H1 := fun b hb => by rw [hold b (by omega), hKp b hb]
    have hP1 : AccX false 3 6 Part.enc H1 vp (some x.parts.l) fpp := hP.fr fun b hb => hold b (hP.lts b hb)
    simp -implicitDefEqProofs (maxDischargeDepth := 12) only [WW,List.replicate,e_splice,if_true,if_false,ite_true,ite_false,true_or,ne_eq,Nat.reduceAdd,Nat.reduceSub,Nat.reduceMul,Nat.reduceLeDiff,Nat.reduceEqDiff,Nat.reduceGT,Nat.reduceLT,Int.reduceLE,Int.reduceLT,Int.reduceToNat,Int.reduceAdd,reduceCtorEq,h_putc,beq_self_eq_true,eq_self,exists_eq_left,exists_eq_left', g0, g1, g3, g4, hA, hB, d0, d1, hl, hones, ones_take hl]
    have apf : Apart fp fp1 := fun b hb hb2 => by
      have := hE.lts b hb
      have := hF1 b hb2; omega
    refine wA_app2 row_Measure hE1 (by repeat (first | exact Keep.refl | refine Keep.put (by (try simp only [AHeap.next_alloc, AHeap.next_put]); omega) ?_ | refine Keep.alloc (by (try simp only [AHeap.next_alloc, AHeap.next_put]); omega) ?_)) (by simp) (ys := [e.cl]) (by simp) rfl (asrc_new rfl (by simpa using hl)) (fp1 := fp1) (by
      have : ([e.cl].flatMap fun y => (Measure.enc y).cells) = (e.cl).enc.cells := by simp
      rw [this]
      exact ho.fr fun b hb => c_alloc_ne (by have := ho.lts b hb; omega)) apf ?_ ?_
    · simp only [Sl.l, Option.getD_some, List.length_map, List.length_take, List.length_cons, List.length_nil]; omega
    intro v' H2 fp' hE' hn2 hk2 hfp2 ho2 hc2
    rw [some_map_succ he] at hE'
    have k0 := (hk2 q (fun h => by have := hfp q h; omega) (by omega)).trans d0
    have k1 := (hk2 (q + 1) (fun h => by have := hfp _ h; omega) (by omega)).trans d1
    have hfp3 : ∀ b ∈ fp', r ≤ b := fun b hb => by
      rcases hfp2 b hb with h | h | h
      · exact hfp b h
      · have := hF1 b h; omega
      · omega
    simp -implicitDefEqProofs (maxDischargeDepth := 12) only [WW,List.replicate,e_splice,if_true,if_false,ite_true,ite_false,true_or,ne_eq,Nat.reduceAdd,Nat.reduceSub,Nat.reduceMul,Nat.reduceLeDiff,Nat.reduceEqDiff,Nat.reduceGT,Nat.reduceLT,Int.reduceLE,Int.reduceLT,Int.reduceToNat,Int.reduceAdd,reduceCtorEq,h_putc,beq_self_eq_true,eq_self,exists_eq_left,exists_eq_left', e2, k0, k1, ho2, hc2, nq1, mq1, addq, nq2, mq2, mq12, mq21]
    refine ⟨k - 1, by omega, i + 1, fp', v', by omega, hP1.fr fun b hb => hk2 b (fun h => by have := hfp b h; have := lp b hb; omega) (by have := lp b hb; omega), hE', hfp3, by omega, fun b hb => ?_, ex_x rfl⟩
    rw [hk2 b (fun h => by have := hfp b h; omega) (by omega), hK2 b hb]
  have hi : i = x.measures.l.length := by omega
  subst hi
  rw [List.take_length] at hE
  have lm := hE.lts
  simp -implicitDefEqProofs (maxDischargeDepth := 12) only [WW,List.replicate,e_splice,if_true,if_false,ite_true,ite_false,true_or,ne_eq,Nat.reduceAdd,Nat.reduceSub,Nat.reduceMul,Nat.reduceLeDiff,Nat.reduceEqDiff,Nat.reduceGT,Nat.reduceLT,Int.reduceLE,Int.reduceLT,Int.reduceToNat,Int.reduceAdd,reduceCtorEq,h_putc,beq_self_eq_true,eq_self,exists_eq_left,exists_eq_left', hA, hB, c1]
  refine wA_call (hc _ (by decide)) ((sclSpanner_ok x.spanners b5 _).mono ?_)
  rintro o H3 ⟨vs, fps, rfl, hAs, hFs, hNs, hKs⟩
  refine ⟨_, rfl, ?_⟩
  have a0 := (hKs q (by omega)).trans hA
  have a1 := (hKs (q + 1) (by omega)).trans hB
  have ls := hAs.lts
  simp -implicitDefEqProofs (maxDischargeDepth := 12) only [WW,List.replicate,e_splice,if_true,if_false,ite_true,ite_false,true_or,ne_eq,Nat.reduceAdd,Nat.reduceSub,Nat.reduceMul,Nat.reduceLeDiff,Nat.reduceEqDiff,Nat.reduceGT,Nat.reduceLT,Int.reduceLE,Int.reduceLT,Int.reduceToNat,Int.reduceAdd,reduceCtorEq,h_putc,beq_self_eq_true,eq_self,exists_eq_left,exists_eq_left', hA, hB, a0, a1]
  refine wA_call (hc _ (by decide)) ((sclID_ok x.last b6 _).mono ?_)
  rintro o H4 ⟨vl, fpl, rfl, hAl, hFl, hNl, hKl⟩
  refine ⟨_, rfl, ?_⟩
  have d0 := (hKl q (by omega)).trans a0
  have d1 := (hKl (q + 1) (by omega)).trans a1
  simp -implicitDefEqProofs (maxDischargeDepth := 12) only [WW,List.replicate,e_splice,if_true,if_false,ite_true,ite_false,true_or,ne_eq,Nat.reduceAdd,Nat.reduceSub,Nat.reduceMul,Nat.reduceLeDiff,Nat.reduceEqDiff,Nat.reduceGT,Nat.reduceLT,Int.reduceLE,Int.reduceLT,Int.reduceToNat,Int.reduceAdd,reduceCtorEq,h_putc,beq_self_eq_true,eq_self,exists_eq_left,exists_eq_left', a0, a1, d0, d1, hP.one, hP.cells, hE.one, hE.cells, hAs.one, hAs.cells, hAl.one, hAl.cells, nq1, mq1, addq, nq2, mq2, mq12, mq21]
  obtain ⟨gp, op, kp⟩ := hP.own row_Part
  obtain ⟨gm, om, km⟩ := hE.own row_Measure
  obtain ⟨gs, os, ks⟩ := hAs.own row_Spanner'
  obtain ⟨gl, ol, kl⟩ := hAl.own row_ID'
  have old : ∀ b, b < H.next → H4.cells b = H.cells b := fun b hb => by rw [hKl b (by omega), hKs b hb]
  refine ⟨_, _, rfl, .cons OwnX.scal (.cons OwnX.scal (.cons ((op.mono (by decide)).frame fun b hb => ?_) (.cons ((om.mono (by decide)).frame fun b hb => ?_) (.cons ((os.mono (by decide)).frame fun b hb => ?_) (.cons ((ol.mono (by decide)).frame fun b hb => ?_) .nil Apart.nil_right) ?_) ?_) ?_) Apart.nil_left) Apart.nil_left, rfl, ?_, ?_, ?_, ?_⟩
  · have := hPf b (kp b hb)
    have := lp b (kp b hb)
    simp only [c_put_ne (show b ≠ q by omega), c_put_ne (show b ≠ q + 1 by omega)]
    exact old b (by omega)
  · have := hfp b (km b hb)
    have := lm b (km b hb)
    simp only [c_put_ne (show b ≠ q by omega), c_put_ne (show b ≠ q + 1 by omega)]
    exact old b (by omega)
  · have := hFs b (ks b hb)
    have := ls b (ks b hb)
    simp only [c_put_ne (show b ≠ q by omega), c_put_ne (show b ≠ q + 1 by omega)]
    exact hKl b (by omega)
  · have := hFl b (kl b hb)
    simp only [c_put_ne (show b ≠ q by omega), c_put_ne (show b ≠ q + 1 by omega)]
  · intro b hb hb2
    simp only [List.append_nil] at hb2
    have := ls b (ks b hb)
    have := hFl b (kl b hb2)
    omega
  · intro b hb hb2
    simp only [List.append_nil, List.mem_append] at hb2
    have := lm b (km b hb)
    rcases hb2 with h | h
    · have := hFs b (ks b h); omega
    · have := hFl b (kl b h); omega
  · intro b hb hb2
    simp only [List.append_nil, List.mem_append] at hb2
    have := lp b (kp b hb)
    rcases hb2 with h | h | h
    · have := hfp b (km b h); omega
    · have := hFs b (ks b h); omega
    · have := hFl b (kl b h); omega
  · simp only [AV.ones, List.all_cons, List.all_nil, o_str, o_bool, hP.one, hE.one, hAs.one, hAl.one, Bool.and_self]
  · intro b hb
    simp only [List.nil_append, List.append_nil, List.mem_append] at hb
    rcases hb with h | h | h | h
    · have := hPf b (kp b h); omega
    · have := hfp b (km b h); omega
    · have := hFs b (ks b h); omega
    · have := hFl b (kl b h); omega
  · simp only [AHeap.next_put]; omega
  · intro b hb
    simp only [c_put_ne (show b ≠ q by omega), c_put_ne (show b ≠ q + 1 by omega)]
    rw [old b (by omega), hKp b (by omega)]
end Go.Hem
/- What is written into a copy: numbers over numbers, a text over a text; the rest stays. -/
set_option maxRecDepth 10000
set_option linter.unusedSimpArgs false
set_option linter.unusedVariables false
namespace Go.Hem
variable {pol : Pol}

def Alike (S : Bool) (a b : AV) : Prop := a = b ∨ (∃ x y, a = .sc (.int .i64 x) ∧ b = .sc (.int .i64 y)) ∨ (S = true ∧ ∃ x y, a = .sc (.str x) ∧ b = .sc (.str y))

structure Mut (S : Bool) (fp : List Nat) (H0 H : AHeap) : Prop where
  sh : ∀ b ∈ fp, ∀ cs, H0.cells b = some cs → ∃ cs', H.cells b = some cs' ∧ cs'.length = cs.length ∧ ∀ (j : Nat) v, cs[j]? = some v → ∃ v', cs'[j]? = some v' ∧ Alike S v v'
  keep : ∀ b, b ∉ fp → H.cells b = H0.cells b

theorem Mut.refl {S : Bool} {fp : List Nat} {H : AHeap} : Mut S fp H H := ⟨fun b _ cs h => ⟨cs, h, rfl, fun j v e => ⟨v, e, .inl rfl⟩⟩, fun _ _ => rfl⟩
theorem Mut.text {S : Bool} {fp : List Nat} {H0 H : AHeap} (h : Mut false fp H0 H) : Mut S fp H0 H := by
  refine ⟨fun b hb cs hc => ?_, h.keep⟩
  obtain ⟨cs', h1, h2, h3⟩ := h.sh b hb cs hc
  refine ⟨cs', h1, h2, fun j v e => ?_⟩
  obtain ⟨v', e1, e2⟩ := h3 j v e
  rcases e2 with e2 | e2 | ⟨e2, _⟩
  · exact ⟨v', e1, .inl e2⟩
  · exact ⟨v', e1, .inr (.inl e2)⟩
  · cases e2

theorem OwnL.cell {O : AHeap → AV → AV → List Nat → Prop} {H : AHeap} {vs us : List AV} {fp : List Nat} (h : OwnL O H vs us fp) : ∀ {j : Nat} {u : AV}, us[j]? = some u → ∃ v fp', vs[j]? = some v ∧ O H v u fp' ∧ ∀ b ∈ fp', b ∈ fp := by
  induction h with
  | nil => intro j u h; simp at h
  | cons h1 h2 h3 ih =>
    rename_i v u vs us f g
    intro j w hj
    cases j with
    | zero => simp at hj; subst hj; exact ⟨v, f, by simp, h1, fun b hb => List.mem_append.2 (.inl hb)⟩
    | succ j =>
      obtain ⟨v', fp', a, b, c⟩ := ih (j := j) (u := w) (by simpa using hj)
      exact ⟨v', fp', by simpa using a, b, fun x hx => List.mem_append.2 (.inr (c x hx))⟩

theorem own_len {α : Type} {f : α → AV} {d : Nat} {H : AHeap} {v : AV} {s : Sl α} {fp : List Nat} (h : OwnX false (d + 1) H v (slm f s) fp) : lenOf v = some (.sc (.int .i64 s.l.length)) ∧ v.one = true ∧ v.cells = [v] := by
  cases v <;> simp only [OwnX] at h
  case sc x =>
    obtain ⟨h1, _⟩ := h
    cases s with
    | none => simp only [slm, AV.sc.injEq] at h1; subst h1; exact ⟨rfl, rfl, rfl⟩
    | some l => simp [slm] at h1
  case imm l =>
    obtain ⟨h0, h1, _⟩ := h
    cases s with
    | none => simp [slm] at h1
    | some m => simp only [slm, AV.imm.injEq] at h1; subst h1; exact ⟨by simp [lenOf, Sl.l], rfl, rfl⟩
  case agg cs =>
    obtain ⟨us, h1, _⟩ := h
    cases s <;> simp [slm] at h1
  case slice b off len cap n =>
    refine ⟨?_, rfl, rfl⟩
    rcases h with ⟨h0, h1, _⟩ | ⟨cs, us, fp', _, _, _, _, ho, _, _, h1, _⟩
    · cases s with
      | none => simp [slm] at h1
      | some m => simp only [slm, AV.imm.injEq] at h1; subst h0; have : m = [] := by simpa using h1
                  subst this; rfl
    · cases s with
      | none => simp [slm] at h1
      | some m =>
        simp only [slm, AV.imm.injEq] at h1
        have := congrArg List.length h1
        rw [rows_len, List.length_map] at this
        subst this; rfl

theorem own_elem {α : Type} {f : α → AV} {d n : Nat} {H : AHeap} {v : AV} {s : Sl α} {fp : List Nat} {i : Nat} {x : α} (row : RowOf n f) (hn1 : n ≠ 1) (h : OwnX false (d + 1) H v (slm f s) fp) (hi : s.l[i]? = some x) :
    ∃ b off cap cs fp', v = .slice b off s.l.length cap n ∧ H.cells b = some cs ∧ off + s.l.length * n ≤ cs.length ∧ b ∈ fp ∧ OwnL (OwnX false d) H ((cs.drop (off + i * n)).take n) (f x).cells fp' ∧ ∀ c ∈ fp', c ∈ fp := by
  have hlt : i < s.l.length := (List.getElem?_eq_some_iff.1 hi).1
  have hs : s = some s.l := by cases s with
    | none => simp [Sl.l] at hi
    | some l => rfl
  have hl := (own_len h).1
  rw [hs] at h
  cases v <;> simp only [OwnX] at h
  case sc y =>
    obtain ⟨h1, _⟩ := h
    simp [slm] at h1
  case imm l => simp at h
  case agg cs =>
    obtain ⟨us, h1, _⟩ := h
    simp [slm] at h1
  case slice b off len cap n' =>
    simp only [lenOf, Option.some.injEq, AV.sc.injEq, Sc.int.injEq, true_and] at hl
    have hl : len = s.l.length := by omega
    subst hl
    rcases h with ⟨h0, _, _⟩ | ⟨cs, us, fp', h1, h2, h3, h4, h5, h6, hq, h7, h8⟩
    · omega
    · simp only [slm, AV.imm.injEq] at h7
      have hul : us.length = s.l.length * n' := by
        have := h5.len
        simp only [List.length_take, List.length_drop] at this
        omega
      have hn : n' = n := by
        cases hl2 : s.l with
        | nil => rw [hl2] at hlt; simp at hlt
        | cons y l =>
          rw [hl2] at h7 hul
          simp only [List.map_cons, List.length_cons, rows, List.cons.injEq] at h7
          have ry := row.2 y
          rw [if_neg hn1] at ry
          have e3 := h7.1
          by_cases q : n' = 1
          · rw [if_pos q] at e3
            cases hus : us with
            | nil => rw [hus, q] at hul; simp at hul
            | cons w ws =>
              rw [hus] at e3
              simp only [List.headD_cons] at e3
              have := hq q w (by rw [hus]; simp)
              rw [← e3] at this
              have := congrArg List.length this
              rw [ry.1] at this
              simp at this; omega
          · rw [if_neg q, ry.2] at e3
            simp only [AV.agg.injEq] at e3
            have := congrArg List.length e3
            rw [ry.1, List.length_take, hul, List.length_cons, Nat.succ_mul] at this
            omega
      subst hn
      have hmap : us = s.l.flatMap fun x => (f x).cells := by
        have key : ∀ (l : List α) (us : List AV), us.length = l.length * n' → l.map f = rows n' l.length us → us = l.flatMap fun x => (f x).cells := by
          intro l
          induction l with
          | nil => intro us h1 _; simp at h1; simp [h1]
          | cons y l ih =>
            intro us h1 h2
            simp only [List.map_cons, List.length_cons, rows, List.cons.injEq] at h2
            have ry := row.2 y
            rw [if_neg hn1] at ry
            have e3 := h2.1
            rw [if_neg hn1, ry.2] at e3
            simp only [AV.agg.injEq] at e3
            have := ih (us.drop n') (by rw [List.length_drop, h1, List.length_cons, Nat.succ_mul]; omega) h2.2
            simp only [List.flatMap_cons]
            rw [← this, e3, List.take_append_drop]
        exact key s.l us hul h7
      have hmul : i * n' + n' ≤ s.l.length * n' := by
        have : (i + 1) * n' ≤ s.l.length * n' := Nat.mul_le_mul_right _ hlt
        rw [Nat.succ_mul] at this; exact this
      obtain ⟨f1, g1, p1, p2, p3, p4⟩ := h5.split (i * n')
      obtain ⟨f2, g2, q1, q2, q3, q4⟩ := p2.split n'
      refine ⟨b, off, cap, cs, f2, rfl, h1, h4, by rw [h8]; simp, ?_, ?_⟩
      · have e1 : (((cs.drop off).take (s.l.length * n')).drop (i * n')).take n' = (cs.drop (off + i * n')).take n' := by
          rw [List.drop_take, List.take_take, List.drop_drop, Nat.min_eq_left (by omega)]
        have e2 : (us.drop (i * n')).take n' = (f x).cells := by
          rw [hmap]
          have key : ∀ (l : List α) (i : Nat), l[i]? = some x → (((l.flatMap fun x => (f x).cells).drop (i * n')).take n') = (f x).cells := by
            intro l
            induction l with
            | nil => intro i h; simp at h
            | cons y l ih =>
              intro i h
              have ry := row.2 y
              cases i with
              | zero =>
                simp at h; subst h
                simp only [List.flatMap_cons, Nat.zero_mul, List.drop_zero]
                rw [List.take_append_of_le_length (by omega), List.take_of_length_le (by omega)]
              | succ i =>
                simp only [List.flatMap_cons, Nat.succ_mul]
                rw [List.drop_append, List.drop_of_length_le (by omega), List.nil_append, ry.1, Nat.add_sub_cancel]
                exact ih i (by simpa using h)
          exact key s.l i hi
        rw [e1, e2] at q1
        exact q1
      · intro c hc
        rw [h8, p4, q4]
        simp only [List.mem_cons, List.mem_append]
        exact .inr (.inr (.inl hc))

section
variable {S : Bool} {fp : List Nat} {H0 H : AHeap}
theorem Mut.elem (M : Mut S fp H0 H) {α : Type} {f : α → AV} {d n i j : Nat} {v u : AV} {s : Sl α} {fp1 : List Nat} {x : α} (row : RowOf n f) (hn1 : n ≠ 1) (h : OwnX false (d + 1) H0 v (slm f s) fp1) (hs : ∀ b ∈ fp1, b ∈ fp) (hi : s.l[i]? = some x) (hj : (f x).cells[j]? = some u) :
    ∃ b off cap cs cs' w w' fp2, v = .slice b off s.l.length cap n ∧ b ∈ fp ∧ H0.cells b = some cs ∧ H.cells b = some cs' ∧ cs'.length = cs.length ∧ off + i * n + j + 1 ≤ cs.length ∧ cs[off + i * n + j]? = some w ∧ cs'[off + i * n + j]? = some w' ∧ Alike S w w' ∧ OwnX false d H0 w u fp2 ∧ ∀ c ∈ fp2, c ∈ fp := by
  obtain ⟨b, off, cap, cs, fp', h1, h2, h3, h4, h5, h6⟩ := own_elem row hn1 h hi
  obtain ⟨w, fp2, h7, h8, h9⟩ := h5.cell hj
  have h10 : cs[off + i * n + j]? = some w := by
    rw [List.getElem?_take] at h7
    split at h7
    · rw [List.getElem?_drop] at h7; exact h7
    · cases h7
  obtain ⟨cs', g1, g2, g3⟩ := M.sh b (hs b h4) cs h2
  obtain ⟨w', g4, g5⟩ := g3 _ _ h10
  have := (List.getElem?_eq_some_iff.1 h10).1
  exact ⟨b, off, cap, cs, cs', w, w', fp2, h1, hs b h4, h2, g1, g2, by omega, h10, g4, g5, h8, fun c hc => hs c (h6 c (h9 c hc))⟩

theorem Mut.step (M : Mut S fp H0 H) {α β : Type} {f : α → AV} {g : β → AV} {d n i j : Nat} {v : AV} {s : Sl α} {s' : Sl β} {fp1 : List Nat} {x : α} (row : RowOf n f) (hn1 : n ≠ 1) (h : OwnX false (d + 2) H0 v (slm f s) fp1) (hs : ∀ b ∈ fp1, b ∈ fp) (hi : s.l[i]? = some x) (hj : (f x).cells[j]? = some (slm g s')) :
    ∃ b off cap cs w fp2, v = .slice b off s.l.length cap n ∧ H.cells b = some cs ∧ off + i * n + j + 1 ≤ cs.length ∧ cs[off + i * n + j]? = some w ∧ OwnX false (d + 1) H0 w (slm g s') fp2 ∧ ∀ c ∈ fp2, c ∈ fp := by
  obtain ⟨b, off, cap, cs, cs', w, w', fp2, h1, hb, h2, h3, h4, h5, h6, h7, h8, h9, h10⟩ := M.elem row hn1 h hs hi hj
  have hl := (own_len h9).1
  have : w' = w := by
    rcases h8 with rfl | ⟨x, y, rfl, _⟩ | ⟨_, x, y, rfl, _⟩
    · rfl
    · simp [lenOf] at hl
    · simp [lenOf] at hl
  subst this
  exact ⟨b, off, cap, cs', w', fp2, h1, h3, by omega, h7, h9, h10⟩

theorem splice_get {cs : List AV} {o j : Nat} {w : AV} (h : o + 1 ≤ cs.length) : (splice cs o [w])[j]? = if j = o then some w else cs[j]? := by
  have e : splice cs o [w] = cs.set o w := by
    unfold splice
    simp only [List.length_cons, List.length_nil, Nat.zero_add]
    rw [List.set_eq_take_append_cons_drop, if_pos (by omega)]
    simp
  rw [e, List.getElem?_set]
  by_cases q : o = j
  · subst q; simp; omega
  · rw [if_neg q, if_neg (fun k => q k.symm)]

theorem Mut.put (M : Mut S fp H0 H) {b o : Nat} {cs cs' : List AV} {w w2 : AV} (hb : b ∈ fp) (h0 : H0.cells b = some cs) (h1 : H.cells b = some cs') (hl : cs'.length = cs.length) (ho : o + 1 ≤ cs.length) (hw : cs[o]? = some w) (ha : Alike S w w2) :
    Mut S fp H0 (H.put b (some (.cells (splice cs' o [w2])))) := by
  refine ⟨fun c hc ds hd => ?_, fun c hc => ?_⟩
  · by_cases q : c = b
    · subst q
      rw [h0] at hd; cases hd
      refine ⟨splice cs' o [w2], by rw [h_putc (by rw [h1]; rfl)]; simp, ?_, fun j v hv => ?_⟩
      · unfold splice; simp; omega
      · rw [splice_get (by omega)]
        by_cases e : j = o
        · subst e; rw [hw] at hv; cases hv
          exact ⟨w2, if_pos rfl, ha⟩
        · rw [if_neg e]
          obtain ⟨es, e1, e2, e3⟩ := M.sh c hc _ h0
          rw [h1] at e1; cases e1
          exact e3 j v hv
    · rw [c_put_ne q]; exact M.sh c hc ds hd
  · have q : c ≠ b := fun e => hc (e ▸ hb)
    rw [c_put_ne q]; exact M.keep c hc

theorem Mut.int (M : Mut S fp H0 H) {α : Type} {f : α → AV} {d n i j : Nat} {v : AV} {s : Sl α} {fp1 : List Nat} {x : α} {z : Int} (row : RowOf n f) (hn1 : n ≠ 1) (h : OwnX false (d + 2) H0 v (slm f s) fp1) (hs : ∀ b ∈ fp1, b ∈ fp) (hi : s.l[i]? = some x) (hj : (f x).cells[j]? = some (.sc (.int .i64 z))) :
    ∃ b off cap cs z', v = .slice b off s.l.length cap n ∧ H.cells b = some cs ∧ off + i * n + j + 1 ≤ cs.length ∧ cs[off + i * n + j]? = some (.sc (.int .i64 z')) ∧ ∀ z2, Mut S fp H0 (H.put b (some (.cells (splice cs (off + i * n + j) [.sc (.int .i64 z2)])))) := by
  obtain ⟨b, off, cap, cs, cs', w, w', fp2, h1, hb, h2, h3, h4, h5, h6, h7, h8, h9, h10⟩ := M.elem row hn1 h hs hi hj
  have hw : w = .sc (.int .i64 z) := by
    cases w <;> simp only [OwnX] at h9
    case sc y => obtain ⟨e, _⟩ := h9; exact e.symm
    case imm => simp at h9
    case agg => obtain ⟨_, e, _⟩ := h9; cases e
    case slice => rcases h9 with ⟨_, e, _⟩ | ⟨_, _, _, _, _, _, _, _, _, _, e, _⟩ <;> cases e
  subst hw
  have hw' : ∃ z', w' = .sc (.int .i64 z') := by
    rcases h8 with rfl | ⟨x, y, e, rfl⟩ | ⟨_, x, y, e, rfl⟩
    · exact ⟨z, rfl⟩
    · exact ⟨y, rfl⟩
    · cases e
  obtain ⟨z', rfl⟩ := hw'
  exact ⟨b, off, cap, cs', z', h1, h3, by omega, h7, fun z2 => M.put hb h2 h3 h4 h5 h6 (.inr (.inl ⟨_, _, rfl, rfl⟩))⟩

theorem Mut.str (M : Mut false fp H0 H) {α : Type} {f : α → AV} {d n i j : Nat} {v : AV} {s : Sl α} {fp1 : List Nat} {x : α} {z : ByteArray} (row : RowOf n f) (hn1 : n ≠ 1) (h : OwnX false (d + 2) H0 v (slm f s) fp1) (hs : ∀ b ∈ fp1, b ∈ fp) (hi : s.l[i]? = some x) (hj : (f x).cells[j]? = some (.sc (.str z))) :
    ∃ b off cap cs, v = .slice b off s.l.length cap n ∧ H.cells b = some cs ∧ off + i * n + j + 1 ≤ cs.length ∧ cs[off + i * n + j]? = some (.sc (.str z)) ∧ ∀ z2, Mut true fp H0 (H.put b (some (.cells (splice cs (off + i * n + j) [.sc (.str z2)])))) := by
  obtain ⟨b, off, cap, cs, cs', w, w', fp2, h1, hb, h2, h3, h4, h5, h6, h7, h8, h9, h10⟩ := M.elem row hn1 h hs hi hj
  have hw : w = .sc (.str z) := by
    cases w <;> simp only [OwnX] at h9
    case sc y => obtain ⟨e, _⟩ := h9; exact e.symm
    case imm => simp at h9
    case agg => obtain ⟨_, e, _⟩ := h9; cases e
    case slice => rcases h9 with ⟨_, e, _⟩ | ⟨_, _, _, _, _, _, _, _, _, _, e, _⟩ <;> cases e
  subst hw
  have hw' : w' = .sc (.str z) := by
    rcases h8 with rfl | ⟨x, y, e, rfl⟩ | ⟨e, x, y, _, rfl⟩
    · rfl
    · cases e
    · cases e
  subst hw'
  exact ⟨b, off, cap, cs', h1, h3, by omega, h7, fun z2 => M.text.put hb h2 h3 h4 h5 h6 (.inr (.inr ⟨rfl, _, _, rfl, rfl⟩))⟩
end
end Go.Hem
/- Walks: known, by running it. -/
set_option maxRecDepth 10000
namespace Go.Hem
def pures : List Nat := [33, 25, 14, 15, 16, 17, 18, 20, 21, 22, 23, 24, 26, 27, 28, 31, 35, 36, 37, 38, 41, 46, 49, 50, 51, 58, 59, 68, 71, 72, 79, 80, 81, 82, 96, 99, 100, 106, 113, 19]
def polS : Pol := ⟨fun f => pures.contains f⟩
def okTrue : XR AV → Bool
  | .ok (.sc (.bool b)) => b
  | _ => false
theorem okTrue_spec {r : XR AV} (h : okTrue r = true) : r = .ok (.sc (.bool true)) := by
  unfold okTrue at h
  split at h
  · subst h; rfl
  · cases h
theorem known_run : okTrue (xPure (X prog polS memo0 1000) 19 []) = true := by decide +kernel
theorem known_pv : Pv prog polS 19 [] (.sc (.bool true)) := pv_of_x memo0_ok rfl (okTrue_spec known_run)
end Go.Hem
/- What is copied is equal; what is short is tame. -/
set_option maxRecDepth 10000
set_option linter.unusedSimpArgs false
set_option linter.unusedVariables false
namespace Go.Hem
theorem Voice.cl_cn (v : Voice) : v.cl.cn = v.cn := by unfold Voice.cl Voice.cn; rw [l_of, l_of]
theorem Cell.cl_cn (c : Cell) : c.cl.cn = c.cn := by
  unfold Cell.cl Cell.cn
  rw [l_of, List.map_map]
  have : Voice.cn ∘ Voice.cl = Voice.cn := by funext v; exact v.cl_cn
  rw [this]
theorem Measure.cl_cn (m : Measure) : m.cl.cn = m.cn := by
  unfold Measure.cl Measure.cn
  rw [l_of, List.map_map]
  have : Cell.cn ∘ Cell.cl = Cell.cn := by funext v; exact v.cl_cn
  rw [this]
theorem Score.cl_cn (s : Score) : s.cl.cn = s.cn := by
  unfold Score.cl Score.cn
  simp only [Sl.l, Option.getD_some, List.map_map]
  have : Measure.cn ∘ Measure.cl = Measure.cn := by funext v; exact v.cl_cn
  rw [this]
theorem Voice.tame_cl {v : Voice} (h : v.tame) : v.cl.tame := by
  obtain ⟨h1, h2, h3⟩ := h
  exact ⟨by show (Sl.l (Sl.of _)).length < _; rw [l_of]; exact h1, by show (Sl.l (Sl.of _)).length < _; rw [l_of]; exact h2, fun e he => h3 e (by have : e ∈ Sl.l (Sl.of v.events.l) := he; rwa [l_of] at this)⟩
theorem Cell.tame_cl {c : Cell} (h : c.tame) : c.cl.tame := by
  obtain ⟨h1, h2, h3⟩ := h
  have e : c.cl.voices.l = c.voices.l.map Voice.cl := l_of
  refine ⟨h1, by rw [e, List.length_map]; exact h2, fun v hv => ?_⟩
  rw [e] at hv
  obtain ⟨w, hw, rfl⟩ := List.mem_map.1 hv
  exact Voice.tame_cl (h3 w hw)
theorem Measure.tame_cl {c : Measure} (h : c.tame) : c.cl.tame := by
  obtain ⟨h1, h2, h3⟩ := h
  have e : c.cl.cells.l = c.cells.l.map Cell.cl := l_of
  refine ⟨h1, by rw [e, List.length_map]; exact h2, fun v hv => ?_⟩
  rw [e] at hv
  obtain ⟨w, hw, rfl⟩ := List.mem_map.1 hv
  exact Cell.tame_cl (h3 w hw)
theorem Score.tame_cl {c : Score} (h : c.tame) : c.cl.tame := by
  obtain ⟨h1, h2, h3, h4, h5, h6⟩ := h
  refine ⟨h1, h2, by show (c.measures.l.map Measure.cl).length < _; rw [List.length_map]; exact h3, fun v hv => ?_, h5, h6⟩
  have hv : v ∈ c.measures.l.map Measure.cl := hv
  obtain ⟨w, hw, rfl⟩ := List.mem_map.1 hv
  exact Measure.tame_cl (h4 w hw)
theorem sl_take_len {α : Type} {s : Sl α} {n : Nat} : Sl.l (s.map fun x => x.take n) = s.l.take n := by cases s <;> simp [Sl.l]
theorem Event.tame_short (e : Event) : e.short.tame := by
  have e1 : e.short.heads.l = e.heads.l.take 12 := sl_take_len
  have e2 : e.short.graces.l = e.graces.l.take 12 := sl_take_len
  have e3 : e.short.lyrics.l = (e.lyrics.l.take 6).map Syllable.short := l_of
  refine ⟨by rw [e1, List.length_take]; omega, by rw [e2, List.length_take]; omega, by rw [e3]; simp; omega⟩
theorem Voice.tame_short (v : Voice) : v.short.tame := by
  have e : v.short.events.l = (v.events.l.take 5).map Event.short := l_of
  refine ⟨by rw [e]; simp; omega, ?_, fun x hx => ?_⟩
  · have : v.short.tuplets.l = v.tuplets.l.take 3 := sl_take_len
    rw [this, List.length_take]; omega
  · rw [e] at hx
    obtain ⟨w, _, rfl⟩ := List.mem_map.1 hx
    exact w.tame_short
theorem Cell.tame_short (v : Cell) : v.short.tame := by
  have e : v.short.voices.l = (v.voices.l.take 3).map Voice.short := l_of
  refine ⟨?_, by rw [e]; simp; omega, fun x hx => ?_⟩
  · have : v.short.clefs.l = v.clefs.l.take 3 := sl_take_len
    rw [this, List.length_take]; omega
  · rw [e] at hx
    obtain ⟨w, _, rfl⟩ := List.mem_map.1 hx
    exact w.tame_short
theorem Measure.tame_short (v : Measure) : v.short.tame := by
  have e : v.short.cells.l = (v.cells.l.take 6).map Cell.short := l_of
  refine ⟨?_, by rw [e]; simp; omega, fun x hx => ?_⟩
  · have : v.short.tempi.l = v.tempi.l.take 3 := sl_take_len
    rw [this, List.length_take]; omega
  · rw [e] at hx
    obtain ⟨w, _, rfl⟩ := List.mem_map.1 hx
    exact w.tame_short
theorem Score.tame_short (s : Score) : s.short.tame := by
  have e1 : s.short.parts.l = (s.parts.l.take 4).map Part.short := l_of
  have e2 : s.short.measures.l = (s.measures.l.take 5).map Measure.short := l_of
  have e3 : s.short.spanners.l = s.spanners.l.take 6 := sl_take_len
  have e4 : s.short.last.l = s.last.l.take 4 := sl_take_len
  refine ⟨by rw [e1]; simp; omega, fun p hp => ?_, by rw [e2]; simp; omega, fun m hm => ?_, by rw [e3, List.length_take]; omega, by rw [e4, List.length_take]; omega⟩
  · rw [e1] at hp
    obtain ⟨w, _, rfl⟩ := List.mem_map.1 hp
    have : w.short.staves.l = w.staves.l.take 3 := sl_take_len
    unfold Part.tame
    rw [this, List.length_take]; omega
  · rw [e2] at hm
    obtain ⟨w, _, rfl⟩ := List.mem_map.1 hm
    exact w.tame_short
/-- A short name. -/
theorem Score.name_short {s : Score} {p : Part} (h : p ∈ s.short.parts.l) : p.name.size ≤ 20 := by
  have e1 : s.short.parts.l = (s.parts.l.take 4).map Part.short := l_of
  rw [e1] at h
  obtain ⟨w, _, rfl⟩ := List.mem_map.1 h
  show (w.name.extract 0 (min w.name.size 20)).size ≤ 20
  rw [ByteArray.size_extract]; omega

/-- What owns without immutable lists owns. -/
theorem OwnX.up {I : Bool} {H : AHeap} : ∀ {d : Nat} {v u : AV} {fp : List Nat}, OwnX I d H v u fp → Own d H v u fp
  | 0, _, _, _, h => h.elim
  | d + 1, v, u, fp, h => by
    cases v <;> simp only [OwnX] at h ⊢
    case sc => exact h
    case imm => exact ⟨trivial, h.2⟩
    case agg cs =>
      obtain ⟨us, h1, h2⟩ := h
      exact ⟨us, h1, h2.le fun _ _ _ a => OwnX.up a⟩
    case slice b off len cap n =>
      rcases h with h | ⟨cs, us, fp', h1, h2, h3, h4, h5, h6, hq, h7, rfl⟩
      · exact .inl h
      · exact .inr ⟨cs, us, fp', h1, h2, h3, h4, h5.le fun _ _ _ a => OwnX.up a, h6, hq, h7, rfl⟩
theorem own_some {α : Type} {f : α → AV} {d : Nat} {H : AHeap} {v : AV} {l : List α} {fp : List Nat} (h : OwnX false (d + 1) H v (slm f (some l)) fp) : AV.closedB v = false := by
  cases v <;> simp only [OwnX] at h
  case sc => obtain ⟨e, _⟩ := h; simp [slm] at e
  case imm => simp at h
  case agg => obtain ⟨us, e, _⟩ := h; simp [slm] at e
  case slice => rfl
/-- A function that is run by itself on what owns its blocks. -/
theorem pvf_own {P : Program} {pol : Pol} {K : AHeap → Prop} {H : AHeap} {Q : AV → AHeap → Prop} {f : FuncId} {args us : List AV} {fp : List Nat} {r : Sc} (hc : AV.closedBs args = false) (h : OwnL (Own 20) H args us fp) (hv : Pv P pol f us (.sc r)) (k : Q (.sc r) H) : PvF P pol K H Q f args := by
  obtain ⟨H1, a1, a2, a3⟩ := freezeL_own (O := Own 20) (fun H v u f => freezeV_own) (fun H H' v u f a b => OwnX.frame a b) h
  exact ⟨us, H1, .sc r, hc, a1, hv, .inl ⟨rfl, k⟩⟩
theorem own_closed {d : Nat} {H : AHeap} {cs : List AV} (h : AV.plain2 (.agg cs) = true) : Own (d + 2) H (.agg cs) (.agg cs) [] := ⟨cs, rfl, OwnL.plain (by simpa [AV.plain2] using h)⟩
def pures8 : List Nat := [40, 86, 87, 88, 89, 90, 91, 92, 125, 126, 127, 128, 138, 139, 140, 145, 146, 147, 149, 150, 151, 152, 153] ++ pures
def polE : Pol := ⟨fun f => pures8.contains f⟩
theorem polE_eq : EqPol polE := by unfold EqPol; decide
theorem polE_cl : ClPol polE := by unfold ClPol; decide
theorem known_run8 : okTrue (xPure (X prog polE memo0 1000) 19 []) = true := by decide +kernel
theorem known8_pv : Pv prog polE 19 [] (.sc (.bool true)) := pv_of_x memo0_ok rfl (okTrue_spec known_run8)
end Go.Hem
/- The law ScoreEquals, by the interpreter. -/
set_option maxRecDepth 10000
set_option maxHeartbeats 4000000
set_option linter.unusedSimpArgs false
set_option linter.unusedVariables false
namespace Go.Hem
theorem own6 {I : Bool} {d : Nat} {H : AHeap} {cs : List AV} {s : Score} {fp : List Nat} (h : OwnL (OwnX I (d + 1)) H cs s.enc.cells fp) : ∃ v2 v3 v4 v5 f2 f3 f4 f5, cs = [.sc (.str s.title), .sc (.bool s.written), v2, v3, v4, v5] ∧
    OwnX I (d + 1) H v2 (slm Part.enc s.parts) f2 ∧ OwnX I (d + 1) H v3 (slm Measure.enc s.measures) f3 ∧ OwnX I (d + 1) H v4 (slm Spanner.enc s.spanners) f4 ∧ OwnX I (d + 1) H v5 (slm ID.enc s.last) f5 ∧
    (∀ b ∈ f2, b ∈ fp) ∧ (∀ b ∈ f3, b ∈ fp) ∧ (∀ b ∈ f4, b ∈ fp) ∧ (∀ b ∈ f5, b ∈ fp) := by
  have hl := h.len
  obtain ⟨v0, f0, e0, h0, s0⟩ := h.cell (j := 0) (u := .sc (.str s.title)) rfl
  obtain ⟨v1, f1, e1, h1, s1⟩ := h.cell (j := 1) (u := .sc (.bool s.written)) rfl
  obtain ⟨v2, f2, e2, h2, s2⟩ := h.cell (j := 2) (u := slm Part.enc s.parts) rfl
  obtain ⟨v3, f3, e3, h3, s3⟩ := h.cell (j := 3) (u := slm Measure.enc s.measures) rfl
  obtain ⟨v4, f4, e4, h4, s4⟩ := h.cell (j := 4) (u := slm Spanner.enc s.spanners) rfl
  obtain ⟨v5, f5, e5, h5, s5⟩ := h.cell (j := 5) (u := slm ID.enc s.last) rfl
  have sc_of : ∀ {v : AV} {x : Sc} {f : List Nat}, OwnX I (d + 1) H v (.sc x) f → v = .sc x := by
    intro v x f h
    cases v <;> simp only [OwnX] at h
    case sc y => obtain ⟨e, _⟩ := h; exact e.symm
    case imm => obtain ⟨_, e, _⟩ := h; cases e
    case agg => obtain ⟨_, e, _⟩ := h; cases e
    case slice => rcases h with ⟨_, e, _⟩ | ⟨_, _, _, _, _, _, _, _, _, _, e, _⟩ <;> cases e
  have e0' := sc_of h0
  have e1' := sc_of h1
  subst e0' e1'
  refine ⟨v2, v3, v4, v5, f2, f3, f4, f5, ?_, h2, h3, h4, h5, s2, s3, s4, s5⟩
  match cs, hl with
  | [a, b, c, d, e, f], _ =>
    simp only [List.getElem?_cons_zero, List.getElem?_cons_succ, Option.some.injEq] at e0 e1 e2 e3 e4 e5
    subst e0 e1 e2 e3 e4 e5; rfl
theorem law8_pv (s t : Score) : Pv prog polE 8 [s.enc, t.enc] (.sc (.bool true)) := by
  refine Pv_of' ok8 (by simp only [AV.closedBs, Score.enc_closed, Bool.and_self]) ?_
  have hT := s.tame_short
  simp -implicitDefEqProofs (maxDischargeDepth := 12) only [wpF, cf8, WW,List.replicate,e_splice,if_true,if_false,ite_true,ite_false,true_or,ne_eq,Nat.reduceAdd,Nat.reduceSub,Nat.reduceMul,Nat.reduceLeDiff,Nat.reduceEqDiff,Nat.reduceGT,Nat.reduceLT,Int.reduceLE,Int.reduceLT,Int.reduceToNat,Int.reduceAdd,reduceCtorEq,h_putc,beq_self_eq_true,eq_self,exists_eq_left,exists_eq_left', s.enc_eq, t.enc_eq]
  rw [← s.enc_eq]
  refine wA_pure rfl (short_pv rfl rfl rfl rfl rfl s) ?_
  simp -implicitDefEqProofs (maxDischargeDepth := 12) only [WW,List.replicate,e_splice,if_true,if_false,ite_true,ite_false,true_or,ne_eq,Nat.reduceAdd,Nat.reduceSub,Nat.reduceMul,Nat.reduceLeDiff,Nat.reduceEqDiff,Nat.reduceGT,Nat.reduceLT,Int.reduceLE,Int.reduceLT,Int.reduceToNat,Int.reduceAdd,reduceCtorEq,h_putc,beq_self_eq_true,eq_self,exists_eq_left,exists_eq_left', s.short.enc_eq]
  rw [← t.enc_eq]
  refine wA_pure rfl (short_pv rfl rfl rfl rfl rfl t) ?_
  simp -implicitDefEqProofs (maxDischargeDepth := 12) only [WW,List.replicate,e_splice,if_true,if_false,ite_true,ite_false,true_or,ne_eq,Nat.reduceAdd,Nat.reduceSub,Nat.reduceMul,Nat.reduceLeDiff,Nat.reduceEqDiff,Nat.reduceGT,Nat.reduceLT,Int.reduceLE,Int.reduceLT,Int.reduceToNat,Int.reduceAdd,reduceCtorEq,h_putc,beq_self_eq_true,eq_self,exists_eq_left,exists_eq_left', t.short.enc_eq]
  rw [← s.short.enc_eq]
  refine wA_call rfl ((sClone_ok polE_cl s.short hT _).mono ?_)
  rintro o H1 ⟨cs1, fp1, rfl, ho1, hl1, hones1, hF1, hN1, hK1⟩
  refine ⟨_, rfl, ?_⟩
  simp -implicitDefEqProofs (maxDischargeDepth := 12) only [WW,List.replicate,e_splice,if_true,if_false,ite_true,ite_false,true_or,ne_eq,Nat.reduceAdd,Nat.reduceSub,Nat.reduceMul,Nat.reduceLeDiff,Nat.reduceEqDiff,Nat.reduceGT,Nat.reduceLT,Int.reduceLE,Int.reduceLT,Int.reduceToNat,Int.reduceAdd,reduceCtorEq,h_putc,beq_self_eq_true,eq_self,exists_eq_left,exists_eq_left'] at hF1 hN1
  have hN1' : 4 ≤ H1.next := hN1
  have hF1' : ∀ b ∈ fp1, 4 ≤ b := hF1
  have a0 := hK1 0 (show 0 < 4 by decide)
  have a1 := hK1 1 (show 1 < 4 by decide)
  have a2 := hK1 2 (show 2 < 4 by decide)
  have a3 := hK1 3 (show 3 < 4 by decide)
  simp -implicitDefEqProofs (maxDischargeDepth := 12) only [WW,List.replicate,e_splice,if_true,if_false,ite_true,ite_false,true_or,ne_eq,Nat.reduceAdd,Nat.reduceSub,Nat.reduceMul,Nat.reduceLeDiff,Nat.reduceEqDiff,Nat.reduceGT,Nat.reduceLT,Int.reduceLE,Int.reduceLT,Int.reduceToNat,Int.reduceAdd,reduceCtorEq,h_putc,beq_self_eq_true,eq_self,exists_eq_left,exists_eq_left', s.short.enc_eq] at a0 a1 a2 a3
  simp -implicitDefEqProofs (maxDischargeDepth := 12) only [WW,List.replicate,e_splice,if_true,if_false,ite_true,ite_false,true_or,ne_eq,Nat.reduceAdd,Nat.reduceSub,Nat.reduceMul,Nat.reduceLeDiff,Nat.reduceEqDiff,Nat.reduceGT,Nat.reduceLT,Int.reduceLE,Int.reduceLT,Int.reduceToNat,Int.reduceAdd,reduceCtorEq,h_putc,beq_self_eq_true,eq_self,exists_eq_left,exists_eq_left', s.short.enc_eq, a0, a1, a2, a3]
  clear hK1 hF1 hN1
  rw [← s.short.enc_eq]
  refine wA_call rfl ((sClone_ok polE_cl s.short hT _).mono ?_)
  rintro o H2 ⟨cs2, fp2, rfl, ho2, hl2, hones2, hF2, hN2, hK2⟩
  refine ⟨_, rfl, ?_⟩
  have b0 := (hK2 0 (by omega)).trans a0
  have b1 := (hK2 1 (by omega)).trans a1
  have b2 := (hK2 2 (by omega)).trans a2
  have b3 := (hK2 3 (by omega)).trans a3
  have hlt1 := ho1.lts
  have ho1' : OwnL (OwnX false 7) H2 cs1 s.short.cl.enc.cells fp1 := ho1.fr fun b hb => hK2 b (hlt1 b hb)
  obtain ⟨v2, v3, v4, v5, f2, f3, f4, f5, rfl, c2, c3, c4, c5, s2, s3, s4, s5⟩ := own6 ho1'
  obtain ⟨w2, w3, w4, w5, g2, g3, g4, g5, rfl, d2, d3, d4, d5, t2, t3, t4, t5⟩ := own6 ho2
  simp only [AV.ones, List.all_cons, List.all_nil, o_str, o_bool, Bool.true_and, Bool.and_true, Bool.and_eq_true] at hones1 hones2
  obtain ⟨q2, q3, q4, q5⟩ := hones1
  obtain ⟨r2, r3, r4, r5⟩ := hones2
  simp -implicitDefEqProofs (maxDischargeDepth := 12) only [WW,List.replicate,e_splice,if_true,if_false,ite_true,ite_false,true_or,ne_eq,Nat.reduceAdd,Nat.reduceSub,Nat.reduceMul,Nat.reduceLeDiff,Nat.reduceEqDiff,Nat.reduceGT,Nat.reduceLT,Int.reduceLE,Int.reduceLT,Int.reduceToNat,Int.reduceAdd,reduceCtorEq,h_putc,beq_self_eq_true,eq_self,exists_eq_left,exists_eq_left', b0, b1, b2, b3, q2, q3, q4, q5, r2, r3, r4, r5]
  generalize hHc : (H2.put 2 (some (.cells [.sc (.str s.short.cl.title), .sc (.bool s.short.cl.written), v2, v3, v4, v5]))).put 3 (some (.cells [.sc (.str s.short.cl.title), .sc (.bool s.short.cl.written), w2, w3, w4, w5])) = Hc
  have k0 : Hc.cells 0 = some [.sc (.str s.short.title), .sc (.bool s.short.written), slm Part.enc s.short.parts, slm Measure.enc s.short.measures, slm Spanner.enc s.short.spanners, slm ID.enc s.short.last] := by
    subst hHc
    simp -implicitDefEqProofs (maxDischargeDepth := 12) only [WW,List.replicate,e_splice,if_true,if_false,ite_true,ite_false,true_or,ne_eq,Nat.reduceAdd,Nat.reduceSub,Nat.reduceMul,Nat.reduceLeDiff,Nat.reduceEqDiff,Nat.reduceGT,Nat.reduceLT,Int.reduceLE,Int.reduceLT,Int.reduceToNat,Int.reduceAdd,reduceCtorEq,h_putc,beq_self_eq_true,eq_self,exists_eq_left,exists_eq_left', b0, b1, b2, b3]
  have k1 : Hc.cells 1 = some [.sc (.str t.short.title), .sc (.bool t.short.written), slm Part.enc t.short.parts, slm Measure.enc t.short.measures, slm Spanner.enc t.short.spanners, slm ID.enc t.short.last] := by
    subst hHc
    simp -implicitDefEqProofs (maxDischargeDepth := 12) only [WW,List.replicate,e_splice,if_true,if_false,ite_true,ite_false,true_or,ne_eq,Nat.reduceAdd,Nat.reduceSub,Nat.reduceMul,Nat.reduceLeDiff,Nat.reduceEqDiff,Nat.reduceGT,Nat.reduceLT,Int.reduceLE,Int.reduceLT,Int.reduceToNat,Int.reduceAdd,reduceCtorEq,h_putc,beq_self_eq_true,eq_self,exists_eq_left,exists_eq_left', b0, b1, b2, b3]
  have k2 : Hc.cells 2 = some [.sc (.str s.short.cl.title), .sc (.bool s.short.cl.written), v2, v3, v4, v5] := by
    subst hHc
    simp -implicitDefEqProofs (maxDischargeDepth := 12) only [WW,List.replicate,e_splice,if_true,if_false,ite_true,ite_false,true_or,ne_eq,Nat.reduceAdd,Nat.reduceSub,Nat.reduceMul,Nat.reduceLeDiff,Nat.reduceEqDiff,Nat.reduceGT,Nat.reduceLT,Int.reduceLE,Int.reduceLT,Int.reduceToNat,Int.reduceAdd,reduceCtorEq,h_putc,beq_self_eq_true,eq_self,exists_eq_left,exists_eq_left', b0, b1, b2, b3]
  have k3 : Hc.cells 3 = some [.sc (.str s.short.cl.title), .sc (.bool s.short.cl.written), w2, w3, w4, w5] := by
    subst hHc
    simp -implicitDefEqProofs (maxDischargeDepth := 12) only [WW,List.replicate,e_splice,if_true,if_false,ite_true,ite_false,true_or,ne_eq,Nat.reduceAdd,Nat.reduceSub,Nat.reduceMul,Nat.reduceLeDiff,Nat.reduceEqDiff,Nat.reduceGT,Nat.reduceLT,Int.reduceLE,Int.reduceLT,Int.reduceToNat,Int.reduceAdd,reduceCtorEq,h_putc,beq_self_eq_true,eq_self,exists_eq_left,exists_eq_left', b0, b1, b2, b3]
  have kold : ∀ b, 4 ≤ b → Hc.cells b = H2.cells b := fun b hb => by
    subst hHc
    rw [c_put_ne (by omega), c_put_ne (by omega)]
  have hF2' : ∀ b ∈ fp2, H1.next ≤ b := hF2
  have own1 : OwnL (OwnX false 7) Hc _ s.short.cl.enc.cells fp1 := ho1'.fr fun b hb => kold b (hF1' b hb)
  have own2 : OwnL (OwnX false 7) Hc _ s.short.cl.enc.cells fp2 := ho2.fr fun b hb => kold b (by have := hF2' b hb; omega)
  have c2 := c2.frame fun b hb => kold b (hF1' b (s2 b hb))
  have c3 := c3.frame fun b hb => kold b (hF1' b (s3 b hb))
  have c4 := c4.frame fun b hb => kold b (hF1' b (s4 b hb))
  have c5 := c5.frame fun b hb => kold b (hF1' b (s5 b hb))
  clear hHc b0 b1 b2 b3 hK2 kold
  refine wA_pure rfl known8_pv ?_
  simp -implicitDefEqProofs (maxDischargeDepth := 12) only [WW,List.replicate,e_splice,if_true,if_false,ite_true,ite_false,true_or,ne_eq,Nat.reduceAdd,Nat.reduceSub,Nat.reduceMul,Nat.reduceLeDiff,Nat.reduceEqDiff,Nat.reduceGT,Nat.reduceLT,Int.reduceLE,Int.reduceLT,Int.reduceToNat,Int.reduceAdd,reduceCtorEq,h_putc,beq_self_eq_true,eq_self,exists_eq_left,exists_eq_left', k0, k1, k2, k3]
  rw [← s.short.enc_eq, ← t.short.enc_eq]
  refine wA_pure rfl (equal_pv polE_eq s.short t.short hT) ?_
  simp -implicitDefEqProofs (maxDischargeDepth := 12) only [WW,List.replicate,e_splice,if_true,if_false,ite_true,ite_false,true_or,ne_eq,Nat.reduceAdd,Nat.reduceSub,Nat.reduceMul,Nat.reduceLeDiff,Nat.reduceEqDiff,Nat.reduceGT,Nat.reduceLT,Int.reduceLE,Int.reduceLT,Int.reduceToNat,Int.reduceAdd,reduceCtorEq,h_putc,beq_self_eq_true,eq_self,exists_eq_left,exists_eq_left', k0, k1, k2, k3, s.short.enc_eq, t.short.enc_eq]
  rw [← s.short.enc_eq, ← t.short.enc_eq]
  refine wA_pure rfl (same_pv rfl rfl rfl rfl s.short t.short hT) ?_
  simp -implicitDefEqProofs (maxDischargeDepth := 12) only [WW,List.replicate,e_splice,if_true,if_false,ite_true,ite_false,true_or,ne_eq,Nat.reduceAdd,Nat.reduceSub,Nat.reduceMul,Nat.reduceLeDiff,Nat.reduceEqDiff,Nat.reduceGT,Nat.reduceLT,Int.reduceLE,Int.reduceLT,Int.reduceToNat,Int.reduceAdd,reduceCtorEq,h_putc,beq_self_eq_true,eq_self,exists_eq_left,exists_eq_left', k0, k1, k2, k3, s.short.enc_eq, t.short.enc_eq]
  have o1 : Own 20 Hc (.agg [.sc (.str s.short.cl.title), .sc (.bool s.short.cl.written), v2, v3, v4, v5]) s.short.cl.enc fp1 := ⟨_, rfl, own1.le fun _ _ _ a => (a.up).mono (by decide)⟩
  have o2 : Own 20 Hc (.agg [.sc (.str s.short.cl.title), .sc (.bool s.short.cl.written), w2, w3, w4, w5]) s.short.cl.enc fp2 := ⟨_, rfl, own2.le fun _ _ _ a => (a.up).mono (by decide)⟩
  have os : ∀ H, Own 20 H s.short.enc s.short.enc [] := fun H => own_closed (Score.enc_plain s.short)
  have ap : Apart fp1 fp2 := fun b hb hb2 => by
    have := hlt1 b hb
    have := hF2' b hb2; omega
  have cl2 : AV.closedB v2 = false := own_some (l := s.short.parts.l) c2
  have cl2' : AV.closedB w2 = false := own_some (l := s.short.parts.l) d2
  have hcn : s.short.cl.cn = s.short.cn := s.short.cl_cn
  rw [← s.short.enc_eq]
  refine wA_pvf rfl (pvf_own (fp := fp1 ++ ([] ++ [])) (by simp only [AV.closedBs, AV.closedB, cl2, Bool.false_and, Bool.and_false]) (.cons o1 (.cons (os _) .nil Apart.nil_right) (by simpa using Apart.nil_right)) (same_pv rfl rfl rfl rfl s.short.cl s.short (Score.tame_cl hT)) ?_)
  simp -implicitDefEqProofs (maxDischargeDepth := 12) only [WW,List.replicate,e_splice,if_true,if_false,ite_true,ite_false,true_or,ne_eq,Nat.reduceAdd,Nat.reduceSub,Nat.reduceMul,Nat.reduceLeDiff,Nat.reduceEqDiff,Nat.reduceGT,Nat.reduceLT,Int.reduceLE,Int.reduceLT,Int.reduceToNat,Int.reduceAdd,reduceCtorEq,h_putc,beq_self_eq_true,eq_self,exists_eq_left,exists_eq_left', k0, k1, k2, k3, s.short.enc_eq, hcn]
  refine wA_pvf rfl (pvf_own (fp := fp1 ++ (fp2 ++ [])) (by simp only [AV.closedBs, AV.closedB, cl2, Bool.false_and, Bool.and_false]) (.cons o1 (.cons o2 .nil Apart.nil_right) (by simpa using ap)) (equal_pv polE_eq s.short.cl s.short.cl (Score.tame_cl hT)) ?_)
  simp -implicitDefEqProofs (maxDischargeDepth := 12) only [WW,List.replicate,e_splice,if_true,if_false,ite_true,ite_false,true_or,ne_eq,Nat.reduceAdd,Nat.reduceSub,Nat.reduceMul,Nat.reduceLeDiff,Nat.reduceEqDiff,Nat.reduceGT,Nat.reduceLT,Int.reduceLE,Int.reduceLT,Int.reduceToNat,Int.reduceAdd,reduceCtorEq,h_putc,beq_self_eq_true,eq_self,exists_eq_left,exists_eq_left', k0, k1, k2, k3]
  obtain ⟨y1, y2, y3, y4, y5, y6⟩ := Score.tame_cl hT
  have n2 : 2 ∉ fp1 := fun h => by have := hF1' 2 h; omega
  have n3 : 3 ∉ fp1 := fun h => by have := hF1' 3 h; omega
  have n0 : 0 ∉ fp1 := fun h => by have := hF1' 0 h; omega
  refine wp_loop (Inv := fun k t' H => ∃ (i : Nat), i + k = s.short.cl.measures.l.length ∧ Mut false fp1 Hc H ∧ ∃ x : Nat → AV, t' = [s.enc, t.enc, .ptr 0 0, .ptr 1 0, .sc (.bool false), .ptr 2 0, .ptr 3 0, .sc (.int .i64 i), x 8, x 9, x 10, x 11, x 12, x 13, x 14, x 15, x 16, x 17, x 18, x 19, x 20, x 21, x 22, x 23, x 24, x 25, x 26, x 27, x 28, x 29, x 30, x 31, x 32, x 33, x 34, x 35, x 36, x 37, x 38, x 39, x 40, x 41, x 42, x 43, x 44, x 45, x 46, x 47, x 48, x 49, x 50, x 51, x 52, x 53, x 54, x 55, x 56, x 57, x 58, x 59, x 60, x 61, x 62, x 63, x 64, x 65, x 66, x 67, x 68, x 69, x 70, x 71, x 72, x 73, x 74, x 75, x 76, x 77, x 78, x 79, x 80, x 81, x 82, x 83, x 84, x 85, x 86, x 87, x 88, x 89, x 90, x 91, x 92, x 93, x 94, x 95, x 96, x 97, x 98, x 99, x 100, x 101, x 102, x 103, x 104, x 105, x 106, x 107, x 108, x 109, x 110, x 111, x 112, x 113, x 114, x 115, x 116, x 117, x 118, x 119, x 120, x 121, x 122, x 123, x 124, x 125, x 126, x 127, x 128, x 129, x 130, x 131, x 132, x 133, x 134, x 135, x 136, x 137, x 138, x 139, x 140, x 141, x 142, x 143, x 144, x 145, x 146, x 147, x 148, x 149, x 150, x 151, x 152, x 153, x 154, x 155, x 156, x 157, x 158, x 159, x 160, x 161, x 162, x 163, x 164, x 165, x 166, x 167, x 168, x 169, x 170, x 171, x 172, x 173, x 174, x 175, x 176, x 177, x 178]) (k := s.short.cl.measures.l.length) ?_
    ⟨0, by omega, Mut.refl, ex_x rfl⟩
  rintro k t' H ⟨i, hk, M, x, rfl⟩
  have h2 := (M.keep 2 n2).trans k2
  by_cases i1 : (i : Int) < (s.short.cl.measures.l.length : Int)
  · obtain ⟨m, hm⟩ : ∃ m, s.short.cl.measures.l[i]? = some m := ⟨_, List.getElem?_eq_getElem (by omega)⟩
    obtain ⟨mt1, mt2, mt3⟩ := y4 m (List.mem_of_getElem? hm)
    have e1 : IntKind.i64.wrap ((i : Int) + 1) = ((i + 1 : Nat) : Int) := by rw [w64 (by omega) (by omega)]; omega
    have n1 : i < s.short.cl.measures.l.length := by omega
    simp -implicitDefEqProofs (maxDischargeDepth := 12) only [WW,List.replicate,e_splice,if_true,if_false,ite_true,ite_false,true_or,ne_eq,Nat.reduceAdd,Nat.reduceSub,Nat.reduceMul,Nat.reduceLeDiff,Nat.reduceEqDiff,Nat.reduceGT,Nat.reduceLT,Int.reduceLE,Int.reduceLT,Int.reduceToNat,Int.reduceAdd,reduceCtorEq,h_putc,beq_self_eq_true,eq_self,exists_eq_left,exists_eq_left', h2, (own_len c3).1, i1]
    refine wp_loop (Inv := fun k' t' H => ∃ (j : Nat), j + k' = m.cells.l.length ∧ Mut false fp1 Hc H ∧ ∃ x : Nat → AV, t' = [s.enc, t.enc, .ptr 0 0, .ptr 1 0, .sc (.bool false), .ptr 2 0, .ptr 3 0, .sc (.int .i64 i), .sc (.int .i64 j), x 9, x 10, x 11, x 12, x 13, x 14, x 15, x 16, x 17, x 18, x 19, x 20, x 21, x 22, x 23, x 24, x 25, x 26, x 27, x 28, x 29, x 30, x 31, x 32, x 33, x 34, x 35, x 36, x 37, x 38, x 39, x 40, x 41, x 42, x 43, x 44, x 45, x 46, x 47, x 48, x 49, x 50, x 51, x 52, x 53, x 54, x 55, x 56, x 57, x 58, x 59, x 60, x 61, x 62, x 63, x 64, x 65, x 66, x 67, x 68, x 69, x 70, x 71, x 72, x 73, x 74, x 75, x 76, x 77, x 78, x 79, x 80, x 81, x 82, x 83, x 84, x 85, x 86, x 87, x 88, x 89, x 90, x 91, x 92, x 93, x 94, x 95, x 96, x 97, x 98, x 99, x 100, x 101, x 102, x 103, x 104, x 105, x 106, x 107, x 108, x 109, x 110, x 111, x 112, x 113, x 114, x 115, x 116, x 117, x 118, x 119, x 120, x 121, x 122, x 123, x 124, x 125, x 126, x 127, x 128, x 129, x 130, x 131, x 132, x 133, x 134, x 135, x 136, x 137, x 138, x 139, x 140, x 141, x 142, x 143, x 144, x 145, x 146, x 147, x 148, x 149, x 150, x 151, x 152, x 153, x 154, x 155, x 156, x 157, x 158, x 159, x 160, x 161, x 162, x 163, x 164, x 165, x 166, x 167, x 168, x 169, x 170, x 171, x 172, x 173, x 174, x 175, x 176, x 177, x 178]) (k := m.cells.l.length) ?_
      ⟨0, by omega, M, ex_x rfl⟩
    clear M h2 x H
    rintro k' t' H ⟨j, hk', M, x, rfl⟩
    have h2 := (M.keep 2 n2).trans k2
    obtain ⟨b1, o1, p1, z1, vc, u1, a1, hz1, l1, g1, hvc, r1⟩ := M.step row_Measure (by decide) c3 s3 hm (show (Measure.enc m).cells[21]? = some (slm Cell.enc m.cells) from rfl)
    by_cases i2 : (j : Int) < (m.cells.l.length : Int)
    · obtain ⟨c, hc⟩ : ∃ c, m.cells.l[j]? = some c := ⟨_, List.getElem?_eq_getElem (by omega)⟩
      obtain ⟨ct1, ct2, ct3⟩ := mt3 c (List.mem_of_getElem? hc)
      have e2 : IntKind.i64.wrap ((j : Int) + 1) = ((j + 1 : Nat) : Int) := by rw [w64 (by omega) (by omega)]; omega
      have n4 : j < m.cells.l.length := by omega
      simp -implicitDefEqProofs (maxDischargeDepth := 12) only [WW,List.replicate,e_splice,if_true,if_false,ite_true,ite_false,true_or,ne_eq,Nat.reduceAdd,Nat.reduceSub,Nat.reduceMul,Nat.reduceLeDiff,Nat.reduceEqDiff,Nat.reduceGT,Nat.reduceLT,Int.reduceLE,Int.reduceLT,Int.reduceToNat,Int.reduceAdd,reduceCtorEq,h_putc,beq_self_eq_true,eq_self,exists_eq_left,exists_eq_left', h2, a1, hz1, g1, n1, (own_len hvc).1, i2]
      refine wp_loop (Inv := fun k' t' H => ∃ (v : Nat), v + k' = c.voices.l.length ∧ Mut false fp1 Hc H ∧ ∃ x : Nat → AV, t' = [s.enc, t.enc, .ptr 0 0, .ptr 1 0, .sc (.bool false), .ptr 2 0, .ptr 3 0, .sc (.int .i64 i), .sc (.int .i64 j), .sc (.int .i64 v), x 10, x 11, x 12, x 13, x 14, x 15, x 16, x 17, x 18, x 19, x 20, x 21, x 22, x 23, x 24, x 25, x 26, x 27, x 28, x 29, x 30, x 31, x 32, x 33, x 34, x 35, x 36, x 37, x 38, x 39, x 40, x 41, x 42, x 43, x 44, x 45, x 46, x 47, x 48, x 49, x 50, x 51, x 52, x 53, x 54, x 55, x 56, x 57, x 58, x 59, x 60, x 61, x 62, x 63, x 64, x 65, x 66, x 67, x 68, x 69, x 70, x 71, x 72, x 73, x 74, x 75, x 76, x 77, x 78, x 79, x 80, x 81, x 82, x 83, x 84, x 85, x 86, x 87, x 88, x 89, x 90, x 91, x 92, x 93, x 94, x 95, x 96, x 97, x 98, x 99, x 100, x 101, x 102, x 103, x 104, x 105, x 106, x 107, x 108, x 109, x 110, x 111, x 112, x 113, x 114, x 115, x 116, x 117, x 118, x 119, x 120, x 121, x 122, x 123, x 124, x 125, x 126, x 127, x 128, x 129, x 130, x 131, x 132, x 133, x 134, x 135, x 136, x 137, x 138, x 139, x 140, x 141, x 142, x 143, x 144, x 145, x 146, x 147, x 148, x 149, x 150, x 151, x 152, x 153, x 154, x 155, x 156, x 157, x 158, x 159, x 160, x 161, x 162, x 163, x 164, x 165, x 166, x 167, x 168, x 169, x 170, x 171, x 172, x 173, x 174, x 175, x 176, x 177, x 178]) (k := c.voices.l.length) ?_
        ⟨0, by omega, M, ex_x rfl⟩
      clear M h2 x H a1 hz1 l1 g1 hvc r1 b1 o1 p1 z1 vc u1
      rintro k2' t' H ⟨v, hk2, M, x, rfl⟩
      have h2 := (M.keep 2 n2).trans k2
      obtain ⟨b1, o1, p1, z1, vc, u1, a1, hz1, l1, g1, hvc, r1⟩ := M.step row_Measure (by decide) c3 s3 hm (show (Measure.enc m).cells[21]? = some (slm Cell.enc m.cells) from rfl)
      obtain ⟨bb2, o2', p2, z2, vv, u2, a2, hz2, l2, gg2, hvv, rr2⟩ := M.step row_Cell (by decide) hvc r1 hc (show (Cell.enc c).cells[1]? = some (slm Voice.enc c.voices) from rfl)
      by_cases i3 : (v : Int) < (c.voices.l.length : Int)
      · obtain ⟨vo, hvo⟩ : ∃ w, c.voices.l[v]? = some w := ⟨_, List.getElem?_eq_getElem (by omega)⟩
        obtain ⟨vt1, vt2, vt3⟩ := ct3 vo (List.mem_of_getElem? hvo)
        have e3 : IntKind.i64.wrap ((v : Int) + 1) = ((v + 1 : Nat) : Int) := by rw [w64 (by omega) (by omega)]; omega
        have n5 : v < c.voices.l.length := by omega
        simp -implicitDefEqProofs (maxDischargeDepth := 12) only [WW,List.replicate,e_splice,if_true,if_false,ite_true,ite_false,true_or,ne_eq,Nat.reduceAdd,Nat.reduceSub,Nat.reduceMul,Nat.reduceLeDiff,Nat.reduceEqDiff,Nat.reduceGT,Nat.reduceLT,Int.reduceLE,Int.reduceLT,Int.reduceToNat,Int.reduceAdd,reduceCtorEq,h_putc,beq_self_eq_true,eq_self,exists_eq_left,exists_eq_left', h2, a1, hz1, g1, a2, hz2, gg2, n1, n4, (own_len hvv).1, i3]
        refine wp_loop (Inv := fun k' t' H => ∃ (q : Nat), q + k' = vo.events.l.length ∧ Mut false fp1 Hc H ∧ ∃ x : Nat → AV, t' = [s.enc, t.enc, .ptr 0 0, .ptr 1 0, .sc (.bool false), .ptr 2 0, .ptr 3 0, .sc (.int .i64 i), .sc (.int .i64 j), .sc (.int .i64 v), .sc (.int .i64 q), x 11, x 12, x 13, x 14, x 15, x 16, x 17, x 18, x 19, x 20, x 21, x 22, x 23, x 24, x 25, x 26, x 27, x 28, x 29, x 30, x 31, x 32, x 33, x 34, x 35, x 36, x 37, x 38, x 39, x 40, x 41, x 42, x 43, x 44, x 45, x 46, x 47, x 48, x 49, x 50, x 51, x 52, x 53, x 54, x 55, x 56, x 57, x 58, x 59, x 60, x 61, x 62, x 63, x 64, x 65, x 66, x 67, x 68, x 69, x 70, x 71, x 72, x 73, x 74, x 75, x 76, x 77, x 78, x 79, x 80, x 81, x 82, x 83, x 84, x 85, x 86, x 87, x 88, x 89, x 90, x 91, x 92, x 93, x 94, x 95, x 96, x 97, x 98, x 99, x 100, x 101, x 102, x 103, x 104, x 105, x 106, x 107, x 108, x 109, x 110, x 111, x 112, x 113, x 114, x 115, x 116, x 117, x 118, x 119, x 120, x 121, x 122, x 123, x 124, x 125, x 126, x 127, x 128, x 129, x 130, x 131, x 132, x 133, x 134, x 135, x 136, x 137, x 138, x 139, x 140, x 141, x 142, x 143, x 144, x 145, x 146, x 147, x 148, x 149, x 150, x 151, x 152, x 153, x 154, x 155, x 156, x 157, x 158, x 159, x 160, x 161, x 162, x 163, x 164, x 165, x 166, x 167, x 168, x 169, x 170, x 171, x 172, x 173, x 174, x 175, x 176, x 177, x 178]) (k := vo.events.l.length) ?_
          ⟨0, by omega, M, ex_x rfl⟩
        clear M h2 x H a1 hz1 l1 g1 hvc r1 b1 o1 p1 z1 vc u1 a2 hz2 l2 gg2 hvv rr2 bb2 o2' p2 z2 vv u2
        rintro k3' t' H ⟨q, hk3, M, x, rfl⟩
        have h2 := (M.keep 2 n2).trans k2
        obtain ⟨b1, o1, p1, z1, vc, u1, a1, hz1, l1, g1, hvc, r1⟩ := M.step row_Measure (by decide) c3 s3 hm (show (Measure.enc m).cells[21]? = some (slm Cell.enc m.cells) from rfl)
        obtain ⟨bb2, o2', p2, z2, vv, u2, a2, hz2, l2, gg2, hvv, rr2⟩ := M.step row_Cell (by decide) hvc r1 hc (show (Cell.enc c).cells[1]? = some (slm Voice.enc c.voices) from rfl)
        obtain ⟨b3, o3, p3, z3, ve, u3, a3, hz3, l3, gg3, hve, rr3⟩ := M.step row_Voice (by decide) hvv rr2 hvo (show (Voice.enc vo).cells[0]? = some (slm Event.enc vo.events) from rfl)
        simp only [Nat.add_zero] at gg3
        by_cases i4 : (q : Int) < (vo.events.l.length : Int)
        · obtain ⟨ev, hev⟩ : ∃ w, vo.events.l[q]? = some w := ⟨_, List.getElem?_eq_getElem (by omega)⟩
          have e4 : IntKind.i64.wrap ((q : Int) + 1) = ((q + 1 : Nat) : Int) := by rw [w64 (by omega) (by omega)]; omega
          have n6 : q < vo.events.l.length := by omega
          obtain ⟨b4, o4, p4, z4, dyn, a4, hz4, l4, gg4, M4⟩ := M.int row_Event (by decide) hve rr3 hev (show (Event.enc ev).cells[9]? = some (.sc (.int .i64 ev.dynamic)) from rfl)
          simp -implicitDefEqProofs (maxDischargeDepth := 12) only [WW,List.replicate,if_true,if_false,ite_true,ite_false,true_or,ne_eq,Nat.reduceAdd,Nat.reduceSub,Nat.reduceMul,Nat.reduceLeDiff,Nat.reduceEqDiff,Nat.reduceGT,Nat.reduceLT,Int.reduceLE,Int.reduceLT,Int.reduceToNat,Int.reduceAdd,reduceCtorEq,beq_self_eq_true,eq_self,exists_eq_left,exists_eq_left', h2, a1, hz1, g1, a2, hz2, gg2, a3, hz3, gg3, a4, hz4, gg4, l4, n1, n4, n5, n6, i4, (own_len hve).1]
          have M' := M4 (IntKind.i64.wrap (dyn + 1))
          generalize H.put b4 (some (.cells (splice z4 (o4 + q * 13 + 9) [.sc (.int .i64 (IntKind.i64.wrap (dyn + 1)))]))) = H' at *
          obtain ⟨b5, o5, p5, z5, vh, u5, a5, hz5, l5, g5, hvh, r5⟩ := M'.step row_Event (by decide) hve rr3 hev (show (Event.enc ev).cells[5]? = some (slm Head.enc ev.heads) from rfl)
          have aa := a4.symm.trans a5
          simp only [AV.slice.injEq, true_and, and_true] at aa
          obtain ⟨rfl, rfl, rfl⟩ := aa
          by_cases i5 : (0 : Int) < (ev.heads.l.length : Int)
          · obtain ⟨hd, hhd⟩ : ∃ w, ev.heads.l[0]? = some w := ⟨_, List.getElem?_eq_getElem (by omega)⟩
            have n7 : 0 < ev.heads.l.length := by omega
            obtain ⟨b6, o6, p6, z6, sh, a6, hz6, l6, g6, M6⟩ := M'.int row_Head' (by decide) hvh r5 hhd (show (Head.enc hd).cells[4]? = some (.sc (.int .i64 hd.shown)) from rfl)
            simp only [Nat.zero_mul, Nat.add_zero] at l6 g6 M6
            simp -implicitDefEqProofs (maxDischargeDepth := 12) only [WW,List.replicate,if_true,if_false,ite_true,ite_false,true_or,ne_eq,Nat.reduceAdd,Nat.reduceSub,Nat.reduceMul,Nat.reduceLeDiff,Nat.reduceEqDiff,Nat.reduceGT,Nat.reduceLT,Int.reduceLE,Int.reduceLT,Int.reduceToNat,Int.reduceAdd,reduceCtorEq,beq_self_eq_true,eq_self,exists_eq_left,exists_eq_left', hz5, g5, a6, hz6, g6, l6, n7, i5, e4, (own_len hvh).1, gt_iff_lt, Nat.zero_mul]
            exact ⟨k3' - 1, by omega, q + 1, by omega, M6 _, ex_x rfl⟩
          · simp -implicitDefEqProofs (maxDischargeDepth := 12) only [WW,List.replicate,if_true,if_false,ite_true,ite_false,true_or,ne_eq,Nat.reduceAdd,Nat.reduceSub,Nat.reduceMul,Nat.reduceLeDiff,Nat.reduceEqDiff,Nat.reduceGT,Nat.reduceLT,Int.reduceLE,Int.reduceLT,Int.reduceToNat,Int.reduceAdd,reduceCtorEq,beq_self_eq_true,eq_self,exists_eq_left,exists_eq_left', hz5, g5, i5, e4, (own_len hvh).1, gt_iff_lt]
            exact ⟨k3' - 1, by omega, q + 1, by omega, M', ex_x rfl⟩
        · simp -implicitDefEqProofs (maxDischargeDepth := 12) only [WW,List.replicate,e_splice,if_true,if_false,ite_true,ite_false,true_or,ne_eq,Nat.reduceAdd,Nat.reduceSub,Nat.reduceMul,Nat.reduceLeDiff,Nat.reduceEqDiff,Nat.reduceGT,Nat.reduceLT,Int.reduceLE,Int.reduceLT,Int.reduceToNat,Int.reduceAdd,reduceCtorEq,h_putc,beq_self_eq_true,eq_self,exists_eq_left,exists_eq_left', h2, a1, hz1, g1, a2, hz2, gg2, a3, hz3, gg3, n1, n4, n5, i4, (own_len hve).1, e3]
          exact ⟨k2' - 1, by omega, v + 1, by omega, M, ex_x rfl⟩
      · simp -implicitDefEqProofs (maxDischargeDepth := 12) only [WW,List.replicate,e_splice,if_true,if_false,ite_true,ite_false,true_or,ne_eq,Nat.reduceAdd,Nat.reduceSub,Nat.reduceMul,Nat.reduceLeDiff,Nat.reduceEqDiff,Nat.reduceGT,Nat.reduceLT,Int.reduceLE,Int.reduceLT,Int.reduceToNat,Int.reduceAdd,reduceCtorEq,h_putc,beq_self_eq_true,eq_self,exists_eq_left,exists_eq_left', h2, a1, hz1, g1, a2, hz2, gg2, n1, n4, (own_len hvv).1, i3, e2]
        exact ⟨k' - 1, by omega, j + 1, by omega, M, ex_x rfl⟩
    · simp -implicitDefEqProofs (maxDischargeDepth := 12) only [WW,List.replicate,e_splice,if_true,if_false,ite_true,ite_false,true_or,ne_eq,Nat.reduceAdd,Nat.reduceSub,Nat.reduceMul,Nat.reduceLeDiff,Nat.reduceEqDiff,Nat.reduceGT,Nat.reduceLT,Int.reduceLE,Int.reduceLT,Int.reduceToNat,Int.reduceAdd,reduceCtorEq,h_putc,beq_self_eq_true,eq_self,exists_eq_left,exists_eq_left', h2, a1, hz1, g1, n1, (own_len hvc).1, i2, e1]
      exact ⟨k - 1, by omega, i + 1, by omega, M, ex_x rfl⟩
  · have hM := M.text (S := true)
    by_cases i6 : (0 : Int) < (s.short.cl.parts.l.length : Int)
    · obtain ⟨p, hp⟩ : ∃ w, s.short.cl.parts.l[0]? = some w := ⟨_, List.getElem?_eq_getElem (by omega)⟩
      have n8 : 0 < s.short.cl.parts.l.length := by omega
      have hsz : p.name.size ≤ 20 := Score.name_short (s := s) (List.mem_of_getElem? hp)
      have hadd : bstrOf .add (.sc (.str p.name)) (.sc (.str ⟨#[120]⟩)) = some (.sc (.str (p.name ++ ⟨#[120]⟩))) := by
        have e : (⟨#[120]⟩ : ByteArray).size = 1 := rfl
        have e2 : IntKind.i64.max = 9223372036854775807 := by decide
        simp only [bstrOf, e, e2]
        rw [if_neg (by omega)]
      obtain ⟨b1, o1, p1, z1, a1, hz1, l1, g1, M1⟩ := M.str row_Part (by decide) c2 s2 hp (show (Part.enc p).cells[2]? = some (.sc (.str p.name)) from rfl)
      simp only [Nat.zero_mul, Nat.add_zero] at l1 g1 M1
      simp -implicitDefEqProofs (maxDischargeDepth := 12) only [WW,List.replicate,if_true,if_false,ite_true,ite_false,true_or,ne_eq,Nat.reduceAdd,Nat.reduceSub,Nat.reduceMul,Nat.reduceLeDiff,Nat.reduceEqDiff,Nat.reduceGT,Nat.reduceLT,Int.reduceLE,Int.reduceLT,Int.reduceToNat,Int.reduceAdd,reduceCtorEq,beq_self_eq_true,eq_self,exists_eq_left,exists_eq_left', h2, (own_len c3).1, i1, (own_len c2).1, i6, a1, hz1, g1, l1, n8, hadd, gt_iff_lt, Nat.zero_mul]
      have M2 := M1 (p.name ++ ⟨#[120]⟩)
      generalize H.put b1 (some (.cells (splice z1 (o1 + 2) [.sc (.str (p.name ++ ⟨#[120]⟩))]))) = H' at *
      have h2 := (M2.keep 2 n2).trans k2
      obtain ⟨b3, o3, p3, z3, vs, u3, a3, hz3, l3, g3', hvs, r3'⟩ := M2.step row_Part (by decide) c2 s2 hp (show (Part.enc p).cells[5]? = some (slm Staff.enc p.staves) from rfl)
      simp only [Nat.zero_mul, Nat.add_zero] at g3'
      have aa := a1.symm.trans a3
      simp only [AV.slice.injEq, true_and, and_true] at aa
      obtain ⟨rfl, rfl, rfl⟩ := aa
      by_cases i7 : (0 : Int) < (p.staves.l.length : Int)
      · obtain ⟨st, hst⟩ : ∃ w, p.staves.l[0]? = some w := ⟨_, List.getElem?_eq_getElem (by omega)⟩
        have n9 : 0 < p.staves.l.length := by omega
        obtain ⟨b4, o4, p4, z4, cf, a4, hz4, l4, g4', M4⟩ := M2.int row_Staff' (by decide) hvs r3' hst (show (Staff.enc st).cells[2]? = some (.sc (.int .i64 st.clef)) from rfl)
        simp only [Nat.zero_mul, Nat.add_zero] at l4 g4' M4
        simp -implicitDefEqProofs (maxDischargeDepth := 12) only [WW,List.replicate,if_true,if_false,ite_true,ite_false,true_or,ne_eq,Nat.reduceAdd,Nat.reduceSub,Nat.reduceMul,Nat.reduceLeDiff,Nat.reduceEqDiff,Nat.reduceGT,Nat.reduceLT,Int.reduceLE,Int.reduceLT,Int.reduceToNat,Int.reduceAdd,reduceCtorEq,beq_self_eq_true,eq_self,exists_eq_left,exists_eq_left', h2, a1, hz3, g3', a4, hz4, l4, g4', n8, n9, i7, (own_len hvs).1, gt_iff_lt, Nat.zero_mul]
        have M9 := M4 (IntKind.i64.wrap (cf + 1))
        generalize H'.put b4 (some (.cells (splice z4 (o4 + 2) [.sc (.int .i64 (IntKind.i64.wrap (cf + 1)))]))) = H9 at *
        have h9 := (M9.keep 2 n2).trans k2
        by_cases i8 : (0 : Int) < (s.short.cl.last.l.length : Int)
        · obtain ⟨la, hla⟩ : ∃ w, s.short.cl.last.l[0]? = some w := ⟨_, List.getElem?_eq_getElem (by omega)⟩
          have n10 : 0 < s.short.cl.last.l.length := by omega
          obtain ⟨b7, o7, p7, z7, nb, a7, hz7, l7, g7, M7⟩ := M9.int row_ID' (by decide) c5 s5 hla (show (ID.enc la).cells[1]? = some (.sc (.int .i64 la.number)) from rfl)
          simp only [Nat.zero_mul, Nat.add_zero] at l7 g7 M7
          simp -implicitDefEqProofs (maxDischargeDepth := 12) only [WW,List.replicate,if_true,if_false,ite_true,ite_false,true_or,ne_eq,Nat.reduceAdd,Nat.reduceSub,Nat.reduceMul,Nat.reduceLeDiff,Nat.reduceEqDiff,Nat.reduceGT,Nat.reduceLT,Int.reduceLE,Int.reduceLT,Int.reduceToNat,Int.reduceAdd,reduceCtorEq,beq_self_eq_true,eq_self,exists_eq_left,exists_eq_left', h9, a7, hz7, l7, g7, n10, i8, (own_len c5).1, gt_iff_lt, Nat.zero_mul]
          have M8 := M7 (IntKind.i64.wrap (nb + 1))
          generalize AHeap.put _ b7 (some (.cells (splice z7 (o7 + 1) [.sc (.int .i64 (IntKind.i64.wrap (nb + 1)))]))) = H8 at *
          have j3 := (M8.keep 3 n3).trans k3
          have j0 := (M8.keep 0 n0).trans k0
          simp -implicitDefEqProofs (maxDischargeDepth := 12) only [WW,List.replicate,e_splice,if_true,if_false,ite_true,ite_false,true_or,ne_eq,Nat.reduceAdd,Nat.reduceSub,Nat.reduceMul,Nat.reduceLeDiff,Nat.reduceEqDiff,Nat.reduceGT,Nat.reduceLT,Int.reduceLE,Int.reduceLT,Int.reduceToNat,Int.reduceAdd,reduceCtorEq,h_putc,beq_self_eq_true,eq_self,exists_eq_left,exists_eq_left', j3, j0]
          rw [← s.short.enc_eq]
          refine wA_pvf rfl (pvf_own (fp := fp2 ++ ([] ++ [])) (by simp only [AV.closedBs, AV.closedB, cl2', Bool.false_and, Bool.and_false]) (.cons (o2.frame fun b hb => M8.keep b (fun h => ap b h hb)) (.cons (os _) .nil Apart.nil_right) (by simpa using Apart.nil_right)) (same_pv rfl rfl rfl rfl s.short.cl s.short (Score.tame_cl hT)) ?_)
          rw [decide_eq_true hcn]
          simp -implicitDefEqProofs (maxDischargeDepth := 12) only [WW,List.replicate,e_splice,if_true,if_false,ite_true,ite_false,true_or,ne_eq,Nat.reduceAdd,Nat.reduceSub,Nat.reduceMul,Nat.reduceLeDiff,Nat.reduceEqDiff,Nat.reduceGT,Nat.reduceLT,Int.reduceLE,Int.reduceLT,Int.reduceToNat,Int.reduceAdd,reduceCtorEq,h_putc,beq_self_eq_true,eq_self,exists_eq_left,exists_eq_left']
          exact frz_sc
        · have M8 := M9
          simp -implicitDefEqProofs (maxDischargeDepth := 12) only [WW,List.replicate,if_true,if_false,ite_true,ite_false,true_or,ne_eq,Nat.reduceAdd,Nat.reduceSub,Nat.reduceMul,Nat.reduceLeDiff,Nat.reduceEqDiff,Nat.reduceGT,Nat.reduceLT,Int.reduceLE,Int.reduceLT,Int.reduceToNat,Int.reduceAdd,reduceCtorEq,beq_self_eq_true,eq_self,exists_eq_left,exists_eq_left', h9, i8, (own_len c5).1, gt_iff_lt, Nat.zero_mul]
          have j3 := (M8.keep 3 n3).trans k3
          have j0 := (M8.keep 0 n0).trans k0
          simp -implicitDefEqProofs (maxDischargeDepth := 12) only [WW,List.replicate,e_splice,if_true,if_false,ite_true,ite_false,true_or,ne_eq,Nat.reduceAdd,Nat.reduceSub,Nat.reduceMul,Nat.reduceLeDiff,Nat.reduceEqDiff,Nat.reduceGT,Nat.reduceLT,Int.reduceLE,Int.reduceLT,Int.reduceToNat,Int.reduceAdd,reduceCtorEq,h_putc,beq_self_eq_true,eq_self,exists_eq_left,exists_eq_left', j3, j0]
          rw [← s.short.enc_eq]
          refine wA_pvf rfl (pvf_own (fp := fp2 ++ ([] ++ [])) (by simp only [AV.closedBs, AV.closedB, cl2', Bool.false_and, Bool.and_false]) (.cons (o2.frame fun b hb => M8.keep b (fun h => ap b h hb)) (.cons (os _) .nil Apart.nil_right) (by simpa using Apart.nil_right)) (same_pv rfl rfl rfl rfl s.short.cl s.short (Score.tame_cl hT)) ?_)
          rw [decide_eq_true hcn]
          simp -implicitDefEqProofs (maxDischargeDepth := 12) only [WW,List.replicate,e_splice,if_true,if_false,ite_true,ite_false,true_or,ne_eq,Nat.reduceAdd,Nat.reduceSub,Nat.reduceMul,Nat.reduceLeDiff,Nat.reduceEqDiff,Nat.reduceGT,Nat.reduceLT,Int.reduceLE,Int.reduceLT,Int.reduceToNat,Int.reduceAdd,reduceCtorEq,h_putc,beq_self_eq_true,eq_self,exists_eq_left,exists_eq_left']
          exact frz_sc
      · have M9 := M2
        have h9 := h2
        simp -implicitDefEqProofs (maxDischargeDepth := 12) only [WW,List.replicate,if_true,if_false,ite_true,ite_false,true_or,ne_eq,Nat.reduceAdd,Nat.reduceSub,Nat.reduceMul,Nat.reduceLeDiff,Nat.reduceEqDiff,Nat.reduceGT,Nat.reduceLT,Int.reduceLE,Int.reduceLT,Int.reduceToNat,Int.reduceAdd,reduceCtorEq,beq_self_eq_true,eq_self,exists_eq_left,exists_eq_left', h2, a1, hz3, g3', n8, i7, (own_len hvs).1, gt_iff_lt, Nat.zero_mul]
        by_cases i8 : (0 : Int) < (s.short.cl.last.l.length : Int)
        · obtain ⟨la, hla⟩ : ∃ w, s.short.cl.last.l[0]? = some w := ⟨_, List.getElem?_eq_getElem (by omega)⟩
          have n10 : 0 < s.short.cl.last.l.length := by omega
          obtain ⟨b7, o7, p7, z7, nb, a7, hz7, l7, g7, M7⟩ := M9.int row_ID' (by decide) c5 s5 hla (show (ID.enc la).cells[1]? = some (.sc (.int .i64 la.number)) from rfl)
          simp only [Nat.zero_mul, Nat.add_zero] at l7 g7 M7
          simp -implicitDefEqProofs (maxDischargeDepth := 12) only [WW,List.replicate,if_true,if_false,ite_true,ite_false,true_or,ne_eq,Nat.reduceAdd,Nat.reduceSub,Nat.reduceMul,Nat.reduceLeDiff,Nat.reduceEqDiff,Nat.reduceGT,Nat.reduceLT,Int.reduceLE,Int.reduceLT,Int.reduceToNat,Int.reduceAdd,reduceCtorEq,beq_self_eq_true,eq_self,exists_eq_left,exists_eq_left', h9, a7, hz7, l7, g7, n10, i8, (own_len c5).1, gt_iff_lt, Nat.zero_mul]
          have M8 := M7 (IntKind.i64.wrap (nb + 1))
          generalize AHeap.put _ b7 (some (.cells (splice z7 (o7 + 1) [.sc (.int .i64 (IntKind.i64.wrap (nb + 1)))]))) = H8 at *
          have j3 := (M8.keep 3 n3).trans k3
          have j0 := (M8.keep 0 n0).trans k0
          simp -implicitDefEqProofs (maxDischargeDepth := 12) only [WW,List.replicate,e_splice,if_true,if_false,ite_true,ite_false,true_or,ne_eq,Nat.reduceAdd,Nat.reduceSub,Nat.reduceMul,Nat.reduceLeDiff,Nat.reduceEqDiff,Nat.reduceGT,Nat.reduceLT,Int.reduceLE,Int.reduceLT,Int.reduceToNat,Int.reduceAdd,reduceCtorEq,h_putc,beq_self_eq_true,eq_self,exists_eq_left,exists_eq_left', j3, j0]
          rw [← s.short.enc_eq]
          refine wA_pvf rfl (pvf_own (fp := fp2 ++ ([] ++ [])) (by simp only [AV.closedBs, AV.closedB, cl2', Bool.false_and, Bool.and_false]) (.cons (o2.frame fun b hb => M8.keep b (fun h => ap b h hb)) (.cons (os _) .nil Apart.nil_right) (by simpa using Apart.nil_right)) (same_pv rfl rfl rfl rfl s.short.cl s.short (Score.tame_cl hT)) ?_)
          rw [decide_eq_true hcn]
          simp -implicitDefEqProofs (maxDischargeDepth := 12) only [WW,List.replicate,e_splice,if_true,if_false,ite_true,ite_false,true_or,ne_eq,Nat.reduceAdd,Nat.reduceSub,Nat.reduceMul,Nat.reduceLeDiff,Nat.reduceEqDiff,Nat.reduceGT,Nat.reduceLT,Int.reduceLE,Int.reduceLT,Int.reduceToNat,Int.reduceAdd,reduceCtorEq,h_putc,beq_self_eq_true,eq_self,exists_eq_left,exists_eq_left']
          exact frz_sc
        · have M8 := M9
          simp -implicitDefEqProofs (maxDischargeDepth := 12) only [WW,List.replicate,if_true,if_false,ite_true,ite_false,true_or,ne_eq,Nat.reduceAdd,Nat.reduceSub,Nat.reduceMul,Nat.reduceLeDiff,Nat.reduceEqDiff,Nat.reduceGT,Nat.reduceLT,Int.reduceLE,Int.reduceLT,Int.reduceToNat,Int.reduceAdd,reduceCtorEq,beq_self_eq_true,eq_self,exists_eq_left,exists_eq_left', h9, i8, (own_len c5).1, gt_iff_lt, Nat.zero_mul]
          have j3 := (M8.keep 3 n3).trans k3
          have j0 := (M8.keep 0 n0).trans k0
          simp -implicitDefEqProofs (maxDischargeDepth := 12) only [WW,List.replicate,e_splice,if_true,if_false,ite_true,ite_false,true_or,ne_eq,Nat.reduceAdd,Nat.reduceSub,Nat.reduceMul,Nat.reduceLeDiff,Nat.reduceEqDiff,Nat.reduceGT,Nat.reduceLT,Int.reduceLE,Int.reduceLT,Int.reduceToNat,Int.reduceAdd,reduceCtorEq,h_putc,beq_self_eq_true,eq_self,exists_eq_left,exists_eq_left', j3, j0]
          rw [← s.short.enc_eq]
          refine wA_pvf rfl (pvf_own (fp := fp2 ++ ([] ++ [])) (by simp only [AV.closedBs, AV.closedB, cl2', Bool.false_and, Bool.and_false]) (.cons (o2.frame fun b hb => M8.keep b (fun h => ap b h hb)) (.cons (os _) .nil Apart.nil_right) (by simpa using Apart.nil_right)) (same_pv rfl rfl rfl rfl s.short.cl s.short (Score.tame_cl hT)) ?_)
          rw [decide_eq_true hcn]
          simp -implicitDefEqProofs (maxDischargeDepth := 12) only [WW,List.replicate,e_splice,if_true,if_false,ite_true,ite_false,true_or,ne_eq,Nat.reduceAdd,Nat.reduceSub,Nat.reduceMul,Nat.reduceLeDiff,Nat.reduceEqDiff,Nat.reduceGT,Nat.reduceLT,Int.reduceLE,Int.reduceLT,Int.reduceToNat,Int.reduceAdd,reduceCtorEq,h_putc,beq_self_eq_true,eq_self,exists_eq_left,exists_eq_left']
          exact frz_sc
    · have M9 := hM
      have h9 := h2
      simp -implicitDefEqProofs (maxDischargeDepth := 12) only [WW,List.replicate,if_true,if_false,ite_true,ite_false,true_or,ne_eq,Nat.reduceAdd,Nat.reduceSub,Nat.reduceMul,Nat.reduceLeDiff,Nat.reduceEqDiff,Nat.reduceGT,Nat.reduceLT,Int.reduceLE,Int.reduceLT,Int.reduceToNat,Int.reduceAdd,reduceCtorEq,beq_self_eq_true,eq_self,exists_eq_left,exists_eq_left', h2, (own_len c3).1, i1, (own_len c2).1, i6, gt_iff_lt, Nat.zero_mul]
      by_cases i8 : (0 : Int) < (s.short.cl.last.l.length : Int)
      · obtain ⟨la, hla⟩ : ∃ w, s.short.cl.last.l[0]? = some w := ⟨_, List.getElem?_eq_getElem (by omega)⟩
        have n10 : 0 < s.short.cl.last.l.length := by omega
        obtain ⟨b7, o7, p7, z7, nb, a7, hz7, l7, g7, M7⟩ := M9.int row_ID' (by decide) c5 s5 hla (show (ID.enc la).cells[1]? = some (.sc (.int .i64 la.number)) from rfl)
        simp only [Nat.zero_mul, Nat.add_zero] at l7 g7 M7
        simp -implicitDefEqProofs (maxDischargeDepth := 12) only [WW,List.replicate,if_true,if_false,ite_true,ite_false,true_or,ne_eq,Nat.reduceAdd,Nat.reduceSub,Nat.reduceMul,Nat.reduceLeDiff,Nat.reduceEqDiff,Nat.reduceGT,Nat.reduceLT,Int.reduceLE,Int.reduceLT,Int.reduceToNat,Int.reduceAdd,reduceCtorEq,beq_self_eq_true,eq_self,exists_eq_left,exists_eq_left', h9, a7, hz7, l7, g7, n10, i8, (own_len c5).1, gt_iff_lt, Nat.zero_mul]
        have M8 := M7 (IntKind.i64.wrap (nb + 1))
        generalize AHeap.put _ b7 (some (.cells (splice z7 (o7 + 1) [.sc (.int .i64 (IntKind.i64.wrap (nb + 1)))]))) = H8 at *
        have j3 := (M8.keep 3 n3).trans k3
        have j0 := (M8.keep 0 n0).trans k0
        simp -implicitDefEqProofs (maxDischargeDepth := 12) only [WW,List.replicate,e_splice,if_true,if_false,ite_true,ite_false,true_or,ne_eq,Nat.reduceAdd,Nat.reduceSub,Nat.reduceMul,Nat.reduceLeDiff,Nat.reduceEqDiff,Nat.reduceGT,Nat.reduceLT,Int.reduceLE,Int.reduceLT,Int.reduceToNat,Int.reduceAdd,reduceCtorEq,h_putc,beq_self_eq_true,eq_self,exists_eq_left,exists_eq_left', j3, j0]
        rw [← s.short.enc_eq]
        refine wA_pvf rfl (pvf_own (fp := fp2 ++ ([] ++ [])) (by simp only [AV.closedBs, AV.closedB, cl2', Bool.false_and, Bool.and_false]) (.cons (o2.frame fun b hb => M8.keep b (fun h => ap b h hb)) (.cons (os _) .nil Apart.nil_right) (by simpa using Apart.nil_right)) (same_pv rfl rfl rfl rfl s.short.cl s.short (Score.tame_cl hT)) ?_)
        rw [decide_eq_true hcn]
        simp -implicitDefEqProofs (maxDischargeDepth := 12) only [WW,List.replicate,e_splice,if_true,if_false,ite_true,ite_false,true_or,ne_eq,Nat.reduceAdd,Nat.reduceSub,Nat.reduceMul,Nat.reduceLeDiff,Nat.reduceEqDiff,Nat.reduceGT,Nat.reduceLT,Int.reduceLE,Int.reduceLT,Int.reduceToNat,Int.reduceAdd,reduceCtorEq,h_putc,beq_self_eq_true,eq_self,exists_eq_left,exists_eq_left']
        exact frz_sc
      · have M8 := M9
        simp -implicitDefEqProofs (maxDischargeDepth := 12) only [WW,List.replicate,if_true,if_false,ite_true,ite_false,true_or,ne_eq,Nat.reduceAdd,Nat.reduceSub,Nat.reduceMul,Nat.reduceLeDiff,Nat.reduceEqDiff,Nat.reduceGT,Nat.reduceLT,Int.reduceLE,Int.reduceLT,Int.reduceToNat,Int.reduceAdd,reduceCtorEq,beq_self_eq_true,eq_self,exists_eq_left,exists_eq_left', h9, i8, (own_len c5).1, gt_iff_lt, Nat.zero_mul]
        have j3 := (M8.keep 3 n3).trans k3
        have j0 := (M8.keep 0 n0).trans k0
        simp -implicitDefEqProofs (maxDischargeDepth := 12) only [WW,List.replicate,e_splice,if_true,if_false,ite_true,ite_false,true_or,ne_eq,Nat.reduceAdd,Nat.reduceSub,Nat.reduceMul,Nat.reduceLeDiff,Nat.reduceEqDiff,Nat.reduceGT,Nat.reduceLT,Int.reduceLE,Int.reduceLT,Int.reduceToNat,Int.reduceAdd,reduceCtorEq,h_putc,beq_self_eq_true,eq_self,exists_eq_left,exists_eq_left', j3, j0]
        rw [← s.short.enc_eq]
        refine wA_pvf rfl (pvf_own (fp := fp2 ++ ([] ++ [])) (by simp only [AV.closedBs, AV.closedB, cl2', Bool.false_and, Bool.and_false]) (.cons (o2.frame fun b hb => M8.keep b (fun h => ap b h hb)) (.cons (os _) .nil Apart.nil_right) (by simpa using Apart.nil_right)) (same_pv rfl rfl rfl rfl s.short.cl s.short (Score.tame_cl hT)) ?_)
        rw [decide_eq_true hcn]
        simp -implicitDefEqProofs (maxDischargeDepth := 12) only [WW,List.replicate,e_splice,if_true,if_false,ite_true,ite_false,true_or,ne_eq,Nat.reduceAdd,Nat.reduceSub,Nat.reduceMul,Nat.reduceLeDiff,Nat.reduceEqDiff,Nat.reduceGT,Nat.reduceLT,Int.reduceLE,Int.reduceLT,Int.reduceToNat,Int.reduceAdd,reduceCtorEq,h_putc,beq_self_eq_true,eq_self,exists_eq_left,exists_eq_left']
        exact frz_sc
end Go.Hem
