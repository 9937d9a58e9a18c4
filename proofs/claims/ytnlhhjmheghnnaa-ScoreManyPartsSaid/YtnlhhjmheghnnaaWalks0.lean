/- Walks. -/
import Derived.Test.YtnlhhjmheghnnaaHemCode
import Derived.Test.YtnlhhjmheghnnaaHemData
import Derived.Test.YtnlhhjmheghnnaaHemBun
import Derived.Test.YtnlhhjmheghnnaaHemRange
import Derived.Test.YtnlhhjmheghnnaaHemCode2
import Derived.Test.YtnlhhjmheghnnaaHemFast
import Derived.Test.YtnlhhjmheghnnaaHemIn4
/- Walks: counting staves. -/
set_option maxRecDepth 10000
set_option linter.unusedSimpArgs false
set_option linter.unusedVariables false
namespace Go.Hem
noncomputable abbrev prog := Go.Proofs.Try.prog
variable {pol : Pol}

def stavesOf (l : List Part) : Nat := (l.map fun p => p.staves.l.length).sum

theorem stavesOf_take {l : List Part} {i : Nat} {p : Part} (h : l[i]? = some p) : stavesOf (l.take (i + 1)) = stavesOf (l.take i) + p.staves.l.length := by
  simp [stavesOf, List.take_add_one, h]
theorem stavesOf_le {l : List Part} {i : Nat} : stavesOf (l.take i) ≤ stavesOf l := by
  have h : stavesOf (l.take i ++ l.drop i) = stavesOf (l.take i) + stavesOf (l.drop i) := by simp [stavesOf, -List.take_append_drop]
  rw [List.take_append_drop] at h
  omega

theorem staves_pv (x : Score) (hx : stavesOf x.parts.l < 1000000) (hl : x.parts.l.length < 1000000) : Pv prog pol 23 [x.enc] (.sc (.int .i64 (stavesOf x.parts.l))) := by
  refine Pv_of ok23 (by simp [AV.closedBs, Score.enc_closed]) ?_
  simp -implicitDefEqProofs (maxDischargeDepth := 12) only [wpF, cf23, WW,List.replicate,e_splice,if_true,if_false,ite_true,ite_false,true_or,ne_eq,seval,h_putc,beq_self_eq_true,eq_self,exists_eq_left,exists_eq_left', ID.enc,Place.enc,O.enc,Interval.enc,Staff.enc,Part.enc,Metre.enc,ClefChange.enc,Tuplet.enc,Pitch.enc,Head.enc,Grace.enc,Syllable.enc,Val.enc,Event.enc,Voice.enc,Cell.enc,Tempo.enc,Measure.enc,Spanner.enc,Score.enc]
  refine wp_loop (Inv := fun k t H => ∃ (i : Nat) (x5 x6 x10 x11 x12 x13 x14 x15 x16 x17 x18 : AV), i + k = x.parts.l.length ∧ t = [x.enc, .ptr 0 0, .sc (.int .i64 0), .sc (.int .i64 (stavesOf (x.parts.l.take i))), .sc .undef, x5, x6, slm Part.enc x.parts,
     .sc (.int .i64 x.parts.l.length), .sc (.int .i64 i), x10, x11, x12, x13, x14, x15, x16, x17, x18, .sc .undef]) (k := x.parts.l.length) ?_ ⟨0, _, _, _, _, _, _, _, _, _, _, _, Nat.zero_add _, by simp only [List.take_zero, show stavesOf [] = 0 from rfl, Int.natCast_zero, Int.cast_ofNat_Int]; rfl⟩
  rintro k t H ⟨i, x5, x6, x10, x11, x12, x13, x14, x15, x16, x17, x18, hk, rfl⟩
  simp -implicitDefEqProofs (maxDischargeDepth := 12) only [WW,List.replicate,e_splice,if_true,if_false,ite_true,ite_false,true_or,ne_eq,seval,h_putc,beq_self_eq_true,eq_self,exists_eq_left,exists_eq_left']
  refine wB_of (fun hc => ?_) (fun hc => ?_)
  · simp only [decide_eq_true_eq] at hc
    have hi : i < x.parts.l.length := by omega
    obtain ⟨p, hp⟩ : ∃ p, x.parts.l[i]? = some p := ⟨_, List.getElem?_eq_getElem hi⟩
    have h1 := stavesOf_take hp
    have h2 : stavesOf (x.parts.l.take (i + 1)) ≤ _ := stavesOf_le
    have e1 : IntKind.i64.wrap ((stavesOf (x.parts.l.take i) : Int) + (p.staves.l.length : Int)) = (stavesOf (x.parts.l.take (i + 1)) : Int) := by rw [w64 (by omega) (by omega)]; omega
    have e2 : IntKind.i64.wrap ((i : Int) + 1) = ((i + 1 : Nat) : Int) := by rw [w64 (by omega) (by omega)]; omega
    simp -implicitDefEqProofs (maxDischargeDepth := 12) only [WW,List.replicate,e_splice,if_true,if_false,ite_true,ite_false,true_or,ne_eq,seval,h_putc,beq_self_eq_true,eq_self,exists_eq_left,exists_eq_left', hp, Part.enc, e1, e2]
    exact ⟨k - 1, by omega, i + 1, _, _, _, _, _, _, _, _, _, _, _, by omega, rfl⟩
  · simp only [decide_eq_false_iff_not] at hc
    have hi : i = x.parts.l.length := by omega
    subst hi
    simp -implicitDefEqProofs (maxDischargeDepth := 12) only [WW,List.replicate,e_splice,if_true,if_false,ite_true,ite_false,true_or,ne_eq,seval,h_putc,beq_self_eq_true,eq_self,exists_eq_left,exists_eq_left']
    rw [List.take_length]
    exact ⟨_, freeze_sc⟩
end Go.Hem
/- Walks: the first staff of a part. -/
set_option maxRecDepth 10000
set_option linter.unusedSimpArgs false
set_option linter.unusedVariables false
namespace Go.Hem
variable {pol : Pol}

end Go.Hem
/- The objects of a score, and the reference's list of them. -/
set_option maxRecDepth 10000
set_option maxHeartbeats 4000000
set_option linter.unusedSimpArgs false
set_option linter.unusedVariables false
namespace Go.Hem
variable {pol : Pol}
def oPart (i : Nat) (p : Part) : O := ⟨p.id, ⟨1, i, 0, 0, 0, 0, 0⟩⟩
def oStaff (st : Nat) (p : Staff) : O := ⟨p.id, ⟨2, 0, st, 0, 0, 0, 0⟩⟩
def oMeasure (m : Nat) (x : Measure) : O := ⟨x.id, ⟨3, 0, 0, m, 0, 0, 0⟩⟩
def oEvent (m c v e : Nat) (x : Event) : O := ⟨x.id, ⟨4, 0, c, m, v, e, 0⟩⟩
def oSpanner (i : Nat) (x : Spanner) : O := ⟨x.id, ⟨5, 0, 0, 0, 0, 0, i⟩⟩
def objStaves (st : Nat) : List Staff → List O
  | [] => []
  | s :: r => oStaff st s :: objStaves (st + 1) r
def objParts (i st : Nat) : List Part → List O
  | [] => []
  | p :: r => oPart i p :: (objStaves st p.staves.l ++ objParts (i + 1) (st + p.staves.l.length) r)
def objEvents (m c v e : Nat) : List Event → List O
  | [] => []
  | x :: r => oEvent m c v e x :: objEvents m c v (e + 1) r
def objVoices (m c v : Nat) : List Voice → List O
  | [] => []
  | x :: r => objEvents m c v 0 x.events.l ++ objVoices m c (v + 1) r
def objCells (m c : Nat) : List Cell → List O
  | [] => []
  | x :: r => objVoices m c 0 x.voices.l ++ objCells m (c + 1) r
def objMeasures (m : Nat) : List Measure → List O
  | [] => []
  | x :: r => oMeasure m x :: (objCells m 0 x.cells.l ++ objMeasures (m + 1) r)
def objSpanners (i : Nat) : List Spanner → List O
  | [] => []
  | x :: r => oSpanner i x :: objSpanners (i + 1) r
def objs (s : Score) : List O := objParts 0 0 s.parts.l ++ (objMeasures 0 s.measures.l ++ objSpanners 0 s.spanners.l)

section
variable {m c v e i st : Nat}
end

/-- No list is long. -/
structure Tame (s : Score) : Prop where
  objs : (objs s).length < 1000000
  staves : stavesOf s.parts.l < 1000000
  parts : s.parts.l.length < 1000000
  measures : s.measures.l.length < 1000000
  spanners : s.spanners.l.length < 1000000
  cells : ∀ (m : Nat) y, s.measures.l[m]? = some y → y.cells.l.length < 1000000
  voices : ∀ (m : Nat) y (c : Nat) q, s.measures.l[m]? = some y → y.cells.l[c]? = some q → q.voices.l.length < 1000000
  events : ∀ (m : Nat) y (c : Nat) q (v : Nat) z, s.measures.l[m]? = some y → y.cells.l[c]? = some q → q.voices.l[v]? = some z → z.events.l.length < 1000000
end Go.Hem
/- Walks: the reference's Find. -/
set_option maxRecDepth 10000
set_option maxHeartbeats 4000000
set_option linter.unusedSimpArgs false
set_option linter.unusedVariables false
namespace Go.Hem
variable {pol : Pol}
def ID.zero : ID := ⟨0, 0⟩
def Place.zero : Place := ⟨0, 0, 0, 0, 0, 0, 0⟩
theorem id_eq {a b : ID} : (decide (a.site = b.site) && decide (a.number = b.number)) = decide (a = b) := by
  cases a; cases b; simp only [ID.mk.injEq, Bool.decide_and]
end Go.Hem
/- Walks: Last, of the program and of the reference. -/
set_option maxRecDepth 10000
set_option maxHeartbeats 4000000
set_option linter.unusedSimpArgs false
set_option linter.unusedVariables false
namespace Go.Hem
variable {pol : Pol}
end Go.Hem
/- Walks: the reference's isEvent and Prune. -/
set_option maxRecDepth 10000
set_option maxHeartbeats 4000000
set_option linter.unusedSimpArgs false
set_option linter.unusedVariables false
namespace Go.Hem
variable {pol : Pol}
end Go.Hem
/- Walks: the reference's counts of staves. -/
set_option maxRecDepth 10000
set_option linter.unusedSimpArgs false
set_option linter.unusedVariables false
namespace Go.Hem
variable {pol : Pol}

end Go.Hem
/- Walks: the part of a staff. -/
set_option maxRecDepth 10000
set_option linter.unusedSimpArgs false
set_option linter.unusedVariables false
namespace Go.Hem
variable {pol : Pol}

end Go.Hem
/- Walks: score.PartOf. -/
set_option maxRecDepth 10000
set_option linter.unusedSimpArgs false
set_option linter.unusedVariables false
namespace Go.Hem
variable {pol : Pol}
end Go.Hem
/- Walks: shortPart. -/
set_option maxRecDepth 10000
set_option linter.unusedSimpArgs false
set_option linter.unusedVariables false
namespace Go.Hem
variable {pol : Pol}
def Part.short (p : Part) : Part := { p with name := p.name.extract 0 (min p.name.size 20), staves := p.staves.map (·.take 3) }
end Go.Hem
/- Walks: shortLyrics. -/
set_option maxRecDepth 10000
set_option linter.unusedSimpArgs false
set_option linter.unusedVariables false
namespace Go.Hem
variable {pol : Pol}
def Syllable.short (x : Syllable) : Syllable := { x with text := x.text.extract 0 (min x.text.size 260) }
def shortLyrics (s : Sl Syllable) : Sl Syllable := Sl.of ((s.l.take 6).map Syllable.short)
end Go.Hem
/- Walks: L11.Short. -/
set_option maxRecDepth 10000
set_option linter.unusedSimpArgs false
set_option linter.unusedVariables false
namespace Go.Hem
variable {pol : Pol}
def Event.short (e : Event) : Event := { e with heads := e.heads.map (·.take 12), graces := e.graces.map (·.take 12), lyrics := shortLyrics e.lyrics }
end Go.Hem
/- Walks: shortCell. -/
set_option maxRecDepth 10000
set_option linter.unusedSimpArgs false
set_option linter.unusedVariables false
namespace Go.Hem
variable {pol : Pol}
def Voice.short (v : Voice) : Voice := { events := Sl.of ((v.events.l.take 5).map Event.short), tuplets := v.tuplets.map (·.take 3) }
def Cell.short (c : Cell) : Cell := { clefs := c.clefs.map (·.take 3), voices := Sl.of ((c.voices.l.take 3).map Voice.short) }
theorem row_Event : RowOf 13 Event.enc := ⟨by decide, fun _ => ⟨rfl, rfl⟩⟩
theorem row_Voice : RowOf 2 Voice.enc := ⟨by decide, fun _ => ⟨rfl, rfl⟩⟩
theorem row_Cell : RowOf 2 Cell.enc := ⟨by decide, fun _ => ⟨rfl, rfl⟩⟩
theorem row_Measure : RowOf 22 Measure.enc := ⟨by decide, fun _ => ⟨rfl, rfl⟩⟩
theorem row_Part : RowOf 6 Part.enc := ⟨by decide, fun _ => ⟨rfl, rfl⟩⟩
end Go.Hem
/- Walks: shortMeasure. -/
set_option maxRecDepth 10000
set_option linter.unusedSimpArgs false
set_option linter.unusedVariables false
namespace Go.Hem
variable {pol : Pol}
def Measure.short (m : Measure) : Measure := { m with rehearsal := m.rehearsal.extract 0 (min m.rehearsal.size 20), tempi := m.tempi.map (·.take 3), cells := Sl.of ((m.cells.l.take 6).map Cell.short) }
end Go.Hem
/- Walks: Short. -/
set_option maxRecDepth 10000
set_option linter.unusedSimpArgs false
set_option linter.unusedVariables false
namespace Go.Hem
variable {pol : Pol}
def Score.short (s : Score) : Score := { title := s.title.extract 0 (min s.title.size 20), written := s.written, parts := Sl.of ((s.parts.l.take 4).map Part.short), measures := Sl.of ((s.measures.l.take 5).map Measure.short), spanners := s.spanners.map (·.take 6), last := s.last.map (·.take 4) }
end Go.Hem
/- Walks: a list with another element, as the reference makes it. -/
set_option maxRecDepth 10000
set_option maxHeartbeats 4000000
set_option linter.unusedSimpArgs false
set_option linter.unusedVariables false
namespace Go.Hem
variable {pol : Pol}
/-- A list with another element. -/
def Sl.set {α : Type} (s : Sl α) (i : Nat) (x : α) : Sl α := some (s.l.take i ++ [x] ++ s.l.drop (i + 1))
theorem sl_take {α : Type} (s : Sl α) (i : Nat) : Sl.l (Option.map (fun x => x.take i) s) = s.l.take i := by cases s <;> simp [Sl.l]
end Go.Hem
/- Walks: the reference's Same of events. -/
set_option maxRecDepth 10000
set_option maxHeartbeats 4000000
set_option linter.unusedSimpArgs false
set_option linter.unusedVariables false
namespace Go.Hem
variable {pol : Pol}
/-- What counts of an event: nil or empty is one. -/
def Event.cn (e : Event) : Event := { e with heads := Sl.of e.heads.l, graces := Sl.of e.graces.l, lyrics := Sl.of e.lyrics.l }
def Event.noid (e : Event) : Event := { e.cn with id := ⟨0, 0⟩ }
theorem of_inj {α : Type} {l m : List α} : Sl.of l = Sl.of m ↔ l = m := by
  constructor
  · intro h; have := congrArg Sl.l h; rwa [l_of, l_of] at this
  · rintro rfl; rfl
theorem toList_eq {a b : ByteArray} : (a.toList == b.toList) = decide (a = b) := by
  have e : a.toList = b.toList ↔ a = b := by
    constructor
    · intro h
      rw [ByteArray.toList_eq, ByteArray.toList_eq] at h
      obtain ⟨⟨x⟩⟩ := a
      obtain ⟨⟨y⟩⟩ := b
      simp at h; subst h; rfl
    · rintro rfl; rfl
  by_cases h : a = b
  · rw [decide_eq_true h, h, beq_self_eq_true]
  · rw [decide_eq_false h]
    simp only [beq_eq_false_iff_ne, ne_eq]
    exact fun k => h (e.1 k)
theorem val_eq {a b : Val} : (decide (a.log = b.log) && decide (a.dots = b.dots)) = decide (a = b) := by
  cases a; cases b; simp only [Val.mk.injEq, Bool.decide_and]
theorem head_eq {a b : Head} : (decide (a.pitch.step = b.pitch.step) && (decide (a.pitch.alter = b.pitch.alter) && (decide (a.pitch.octave = b.pitch.octave) && ((a.tied == b.tied) && decide (a.shown = b.shown))))) = decide (a = b) := by
  obtain ⟨⟨a1, a2, a3⟩, a4, a5⟩ := a
  obtain ⟨⟨b1, b2, b3⟩, b4, b5⟩ := b
  have e : (a4 == b4) = decide (a4 = b4) := by cases a4 <;> cases b4 <;> rfl
  simp only [Head.mk.injEq, Pitch.mk.injEq, Bool.decide_and, e, Bool.and_assoc]
theorem grace_eq {a b : Grace} : (decide (a.pitch.step = b.pitch.step) && (decide (a.pitch.alter = b.pitch.alter) && (decide (a.pitch.octave = b.pitch.octave) && (decide (a.log = b.log) && (a.slash == b.slash))))) = decide (a = b) := by
  obtain ⟨⟨a1, a2, a3⟩, a4, a5⟩ := a
  obtain ⟨⟨b1, b2, b3⟩, b4, b5⟩ := b
  have e : (a5 == b5) = decide (a5 = b5) := by cases a5 <;> cases b5 <;> rfl
  simp only [Grace.mk.injEq, Pitch.mk.injEq, Bool.decide_and, e, Bool.and_assoc]
theorem syl_eq {a b : Syllable} : ((a.text.toList == b.text.toList) && decide (a.link = b.link)) = decide (a = b) := by
  cases a; cases b; simp only [Syllable.mk.injEq, Bool.decide_and, toList_eq]
theorem map_ne {α β : Type} {f : α → β} {l m : List α} {i : Nat} {x y : α} (hx : l[i]? = some x) (hy : m[i]? = some y) (h : f x ≠ f y) : l.map f ≠ m.map f := fun e => by
  have := congrArg (·[i]?) e
  simp only [List.getElem?_map, hx, hy, Option.map_some, Option.some.injEq] at this
  exact h this
theorem list_ne {α : Type} {l m : List α} {i : Nat} {x y : α} (hx : l[i]? = some x) (hy : m[i]? = some y) (h : x ≠ y) : l ≠ m := fun e => by
  subst e; rw [hx] at hy; cases hy; exact h rfl
theorem take_step {α : Type} {l m : List α} {i : Nat} {x : α} (hx : l[i]? = some x) (hy : m[i]? = some x) (h : l.take i = m.take i) : l.take (i + 1) = m.take (i + 1) := by
  rw [List.take_add_one, List.take_add_one, hx, hy, h]
theorem noid_iff {a b : Event} : a.noid = b.noid ↔ a.kind = b.kind ∧ a.value = b.value ∧ a.articulations = b.articulations ∧ a.ornament = b.ornament ∧ a.dynamic = b.dynamic ∧ a.stem = b.stem ∧ a.beam = b.beam ∧ a.heads.l = b.heads.l ∧ a.graces.l = b.graces.l ∧ a.lyrics.l = b.lyrics.l := by
  unfold Event.noid Event.cn
  simp only [Event.mk.injEq, of_inj, true_and]
  constructor
  · rintro ⟨h1, h2, h3, h4, h5, h6, h7, h8, h9, h10⟩; exact ⟨h1, h2, h5, h6, h7, h9, h10, h3, h4, h8⟩
  · rintro ⟨h1, h2, h5, h6, h7, h9, h10, h3, h4, h8⟩; exact ⟨h1, h2, h3, h4, h5, h6, h7, h8, h9, h10⟩
theorem same11_pv (a b : Event) (ha : a.heads.l.length < 1000000) (hg : a.graces.l.length < 1000000) (hy : a.lyrics.l.length < 1000000) : Pv prog pol 99 [a.enc, b.enc] (.sc (.bool (decide (a.noid = b.noid)))) := by
  refine Pv_of' ok99 (by simp only [AV.closedBs, Event.enc_closed, Bool.and_self]) ?_
  rw [show decide (a.noid = b.noid) = decide (a.kind = b.kind ∧ a.value = b.value ∧ a.articulations = b.articulations ∧ a.ornament = b.ornament ∧ a.dynamic = b.dynamic ∧ a.stem = b.stem ∧ a.beam = b.beam ∧ a.heads.l = b.heads.l ∧ a.graces.l = b.graces.l ∧ a.lyrics.l = b.lyrics.l) from decide_eq_decide.2 noid_iff]
  by_cases h1 : a.kind = b.kind
  rotate_left
  · rw [decide_eq_false (fun k => h1 (k.1))]
    simp -implicitDefEqProofs (maxDischargeDepth := 12) only [wpF, cf99, WW,List.replicate,e_splice,if_true,if_false,ite_true,ite_false,true_or,ne_eq,seval,h_putc,beq_self_eq_true,eq_self,exists_eq_left,exists_eq_left', a.enc_eq, b.enc_eq, val_eq, h1]
    exact frz_sc
  by_cases h2 : a.value = b.value
  rotate_left
  · rw [decide_eq_false (fun k => h2 (k.2.1))]
    simp -implicitDefEqProofs (maxDischargeDepth := 12) only [wpF, cf99, WW,List.replicate,e_splice,if_true,if_false,ite_true,ite_false,true_or,ne_eq,seval,h_putc,beq_self_eq_true,eq_self,exists_eq_left,exists_eq_left', a.enc_eq, b.enc_eq, val_eq, h1, h2]
    exact frz_sc
  by_cases h3 : a.articulations = b.articulations
  rotate_left
  · rw [decide_eq_false (fun k => h3 (k.2.2.1))]
    simp -implicitDefEqProofs (maxDischargeDepth := 12) only [wpF, cf99, WW,List.replicate,e_splice,if_true,if_false,ite_true,ite_false,true_or,ne_eq,seval,h_putc,beq_self_eq_true,eq_self,exists_eq_left,exists_eq_left', a.enc_eq, b.enc_eq, val_eq, h1, h2, h3]
    exact frz_sc
  by_cases h4 : a.ornament = b.ornament
  rotate_left
  · rw [decide_eq_false (fun k => h4 (k.2.2.2.1))]
    simp -implicitDefEqProofs (maxDischargeDepth := 12) only [wpF, cf99, WW,List.replicate,e_splice,if_true,if_false,ite_true,ite_false,true_or,ne_eq,seval,h_putc,beq_self_eq_true,eq_self,exists_eq_left,exists_eq_left', a.enc_eq, b.enc_eq, val_eq, h1, h2, h3, h4]
    exact frz_sc
  by_cases h5 : a.dynamic = b.dynamic
  rotate_left
  · rw [decide_eq_false (fun k => h5 (k.2.2.2.2.1))]
    simp -implicitDefEqProofs (maxDischargeDepth := 12) only [wpF, cf99, WW,List.replicate,e_splice,if_true,if_false,ite_true,ite_false,true_or,ne_eq,seval,h_putc,beq_self_eq_true,eq_self,exists_eq_left,exists_eq_left', a.enc_eq, b.enc_eq, val_eq, h1, h2, h3, h4, h5]
    exact frz_sc
  by_cases h6 : a.stem = b.stem
  rotate_left
  · rw [decide_eq_false (fun k => h6 (k.2.2.2.2.2.1))]
    simp -implicitDefEqProofs (maxDischargeDepth := 12) only [wpF, cf99, WW,List.replicate,e_splice,if_true,if_false,ite_true,ite_false,true_or,ne_eq,seval,h_putc,beq_self_eq_true,eq_self,exists_eq_left,exists_eq_left', a.enc_eq, b.enc_eq, val_eq, h1, h2, h3, h4, h5, h6]
    exact frz_sc
  by_cases h7 : a.beam = b.beam
  rotate_left
  · rw [decide_eq_false (fun k => h7 (k.2.2.2.2.2.2.1))]
    simp -implicitDefEqProofs (maxDischargeDepth := 12) only [wpF, cf99, WW,List.replicate,e_splice,if_true,if_false,ite_true,ite_false,true_or,ne_eq,seval,h_putc,beq_self_eq_true,eq_self,exists_eq_left,exists_eq_left', a.enc_eq, b.enc_eq, val_eq, h1, h2, h3, h4, h5, h6, h7]
    exact frz_sc
  by_cases h8 : (a.heads.l.length : Int) = (b.heads.l.length : Int)
  rotate_left
  · rw [decide_eq_false (fun k => h8 (by rw [k.2.2.2.2.2.2.2.1]))]
    simp -implicitDefEqProofs (maxDischargeDepth := 12) only [wpF, cf99, WW,List.replicate,e_splice,if_true,if_false,ite_true,ite_false,true_or,ne_eq,seval,h_putc,beq_self_eq_true,eq_self,exists_eq_left,exists_eq_left', a.enc_eq, b.enc_eq, val_eq, h1, h2, h3, h4, h5, h6, h7, h8]
    exact frz_sc
  by_cases h9 : (a.graces.l.length : Int) = (b.graces.l.length : Int)
  rotate_left
  · rw [decide_eq_false (fun k => h9 (by rw [k.2.2.2.2.2.2.2.2.1]))]
    simp -implicitDefEqProofs (maxDischargeDepth := 12) only [wpF, cf99, WW,List.replicate,e_splice,if_true,if_false,ite_true,ite_false,true_or,ne_eq,seval,h_putc,beq_self_eq_true,eq_self,exists_eq_left,exists_eq_left', a.enc_eq, b.enc_eq, val_eq, h1, h2, h3, h4, h5, h6, h7, h8, h9]
    exact frz_sc
  by_cases h10 : (a.lyrics.l.length : Int) = (b.lyrics.l.length : Int)
  rotate_left
  · rw [decide_eq_false (fun k => h10 (by rw [k.2.2.2.2.2.2.2.2.2]))]
    simp -implicitDefEqProofs (maxDischargeDepth := 12) only [wpF, cf99, WW,List.replicate,e_splice,if_true,if_false,ite_true,ite_false,true_or,ne_eq,seval,h_putc,beq_self_eq_true,eq_self,exists_eq_left,exists_eq_left', a.enc_eq, b.enc_eq, val_eq, h1, h2, h3, h4, h5, h6, h7, h8, h9, h10]
    exact frz_sc
  simp -implicitDefEqProofs (maxDischargeDepth := 12) only [wpF, cf99, WW,List.replicate,e_splice,if_true,if_false,ite_true,ite_false,true_or,ne_eq,seval,h_putc,beq_self_eq_true,eq_self,exists_eq_left,exists_eq_left', a.enc_eq, b.enc_eq, val_eq, eq_true h1, eq_true h2, eq_true h3, eq_true h4, eq_true h5, eq_true h6, eq_true h7, eq_true h8, eq_true h9, eq_true h10]
  refine wp_loop (Inv := fun k t H => ∃ (i : Nat), i + k = a.heads.l.length ∧ H.cells 0 = some a.enc.cells ∧ H.cells 1 = some b.enc.cells ∧ a.heads.l.take i = b.heads.l.take i ∧
    ∃ x : Nat → AV, t = [a.enc, b.enc, .ptr 0 0, .ptr 1 0, .sc (.bool false), .sc (.int .i64 i), x 6, x 7, x 8, x 9, x 10, x 11, x 12, x 13, x 14, x 15, x 16, x 17, x 18, x 19, x 20, x 21, x 22, x 23, x 24, x 25, x 26, x 27, x 28, x 29, x 30, x 31, x 32, x 33, x 34, x 35, x 36, x 37, x 38, x 39, x 40, x 41, x 42, x 43, x 44, x 45, x 46, x 47, x 48, x 49, x 50, x 51, x 52, x 53, x 54, x 55, x 56, x 57, x 58, x 59, x 60, x 61, x 62, x 63, x 64, x 65, x 66, x 67, x 68, x 69, x 70, x 71, x 72, x 73, x 74, x 75, x 76, x 77, x 78, x 79, x 80, x 81, x 82, x 83, x 84, x 85, x 86, x 87, x 88, x 89, x 90, x 91, x 92, x 93, x 94, x 95, x 96, x 97, x 98, x 99, x 100, x 101, x 102, x 103, x 104, x 105, x 106, x 107, x 108, x 109, x 110, x 111, x 112, x 113, x 114, x 115, x 116, x 117, x 118, x 119, x 120, x 121, x 122, x 123, x 124, x 125, x 126, x 127, x 128, x 129, x 130, x 131, x 132, x 133, x 134, x 135]) (k := a.heads.l.length) ?_
    ⟨0, by omega, ?_, ?_, rfl, ex_x rfl⟩
  rotate_left
  · simp -implicitDefEqProofs (maxDischargeDepth := 12) only [WW,List.replicate,e_splice,if_true,if_false,ite_true,ite_false,true_or,ne_eq,seval,h_putc,beq_self_eq_true,eq_self,exists_eq_left,exists_eq_left']; rfl
  · simp -implicitDefEqProofs (maxDischargeDepth := 12) only [WW,List.replicate,e_splice,if_true,if_false,ite_true,ite_false,true_or,ne_eq,seval,h_putc,beq_self_eq_true,eq_self,exists_eq_left,exists_eq_left']; rfl
  rintro k t H ⟨i, hk, hA, hB, ht, x, rfl⟩
  simp only [a.enc_eq, b.enc_eq, c_agg] at hA hB
  by_cases c1 : (i : Int) < (a.heads.l.length : Int)
  · obtain ⟨y, hy1⟩ : ∃ y, a.heads.l[i]? = some y := ⟨_, List.getElem?_eq_getElem (by omega)⟩
    obtain ⟨z, hz1⟩ : ∃ y, b.heads.l[i]? = some y := ⟨_, List.getElem?_eq_getElem (by omega)⟩
    have e2 : IntKind.i64.wrap ((i : Int) + 1) = ((i + 1 : Nat) : Int) := by rw [w64 (by omega) (by omega)]; omega
    by_cases c2 : y = z
    · subst c2
      simp -implicitDefEqProofs (maxDischargeDepth := 12) only [WW,List.replicate,e_splice,if_true,if_false,ite_true,ite_false,true_or,ne_eq,seval,h_putc,beq_self_eq_true,eq_self,exists_eq_left,exists_eq_left', hA, hB, c1, hy1, hz1, y.enc_eq, head_eq, e2]
      exact ⟨k - 1, by omega, i + 1, by omega, rfl, rfl, take_step hy1 hz1 ht, ex_x rfl⟩
    · rw [decide_eq_false (fun k => list_ne hy1 hz1 c2 k.1)]
      simp -implicitDefEqProofs (maxDischargeDepth := 12) only [WW,List.replicate,e_splice,if_true,if_false,ite_true,ite_false,true_or,ne_eq,seval,h_putc,beq_self_eq_true,eq_self,exists_eq_left,exists_eq_left', hA, hB, c1, hy1, hz1, y.enc_eq, z.enc_eq, head_eq, c2]
      exact frz_sc
  have headsE : a.heads.l = b.heads.l := by rw [List.take_of_length_le (by omega), List.take_of_length_le (by omega)] at ht; exact ht
  simp -implicitDefEqProofs (maxDischargeDepth := 12) only [WW,List.replicate,e_splice,if_true,if_false,ite_true,ite_false,true_or,ne_eq,seval,h_putc,beq_self_eq_true,eq_self,exists_eq_left,exists_eq_left', hA, hB, c1]
  refine wp_loop (Inv := fun k t H => ∃ (i : Nat), i + k = a.graces.l.length ∧ H.cells 0 = some a.enc.cells ∧ H.cells 1 = some b.enc.cells ∧ a.graces.l.take i = b.graces.l.take i ∧
    ∃ x : Nat → AV, t = [a.enc, b.enc, .ptr 0 0, .ptr 1 0, .sc (.bool false), x 5, .sc (.int .i64 i), x 7, x 8, x 9, x 10, x 11, x 12, x 13, x 14, x 15, x 16, x 17, x 18, x 19, x 20, x 21, x 22, x 23, x 24, x 25, x 26, x 27, x 28, x 29, x 30, x 31, x 32, x 33, x 34, x 35, x 36, x 37, x 38, x 39, x 40, x 41, x 42, x 43, x 44, x 45, x 46, x 47, x 48, x 49, x 50, x 51, x 52, x 53, x 54, x 55, x 56, x 57, x 58, x 59, x 60, x 61, x 62, x 63, x 64, x 65, x 66, x 67, x 68, x 69, x 70, x 71, x 72, x 73, x 74, x 75, x 76, x 77, x 78, x 79, x 80, x 81, x 82, x 83, x 84, x 85, x 86, x 87, x 88, x 89, x 90, x 91, x 92, x 93, x 94, x 95, x 96, x 97, x 98, x 99, x 100, x 101, x 102, x 103, x 104, x 105, x 106, x 107, x 108, x 109, x 110, x 111, x 112, x 113, x 114, x 115, x 116, x 117, x 118, x 119, x 120, x 121, x 122, x 123, x 124, x 125, x 126, x 127, x 128, x 129, x 130, x 131, x 132, x 133, x 134, x 135]) (k := a.graces.l.length) ?_
    ⟨0, by omega, hA, hB, rfl, ex_x rfl⟩
  clear hA hB ht x c1 hk
  rintro k t H ⟨i, hk, hA, hB, ht, x, rfl⟩
  simp only [a.enc_eq, b.enc_eq, c_agg] at hA hB
  by_cases c1 : (i : Int) < (a.graces.l.length : Int)
  · obtain ⟨y, hy1⟩ : ∃ y, a.graces.l[i]? = some y := ⟨_, List.getElem?_eq_getElem (by omega)⟩
    obtain ⟨z, hz1⟩ : ∃ y, b.graces.l[i]? = some y := ⟨_, List.getElem?_eq_getElem (by omega)⟩
    have e2 : IntKind.i64.wrap ((i : Int) + 1) = ((i + 1 : Nat) : Int) := by rw [w64 (by omega) (by omega)]; omega
    by_cases c2 : y = z
    · subst c2
      simp -implicitDefEqProofs (maxDischargeDepth := 12) only [WW,List.replicate,e_splice,if_true,if_false,ite_true,ite_false,true_or,ne_eq,seval,h_putc,beq_self_eq_true,eq_self,exists_eq_left,exists_eq_left', hA, hB, c1, hy1, hz1, y.enc_eq, grace_eq, e2]
      exact ⟨k - 1, by omega, i + 1, by omega, rfl, rfl, take_step hy1 hz1 ht, ex_x rfl⟩
    · rw [decide_eq_false (fun k => list_ne hy1 hz1 c2 k.2.1)]
      simp -implicitDefEqProofs (maxDischargeDepth := 12) only [WW,List.replicate,e_splice,if_true,if_false,ite_true,ite_false,true_or,ne_eq,seval,h_putc,beq_self_eq_true,eq_self,exists_eq_left,exists_eq_left', hA, hB, c1, hy1, hz1, y.enc_eq, z.enc_eq, grace_eq, c2]
      exact frz_sc
  have gracesE : a.graces.l = b.graces.l := by rw [List.take_of_length_le (by omega), List.take_of_length_le (by omega)] at ht; exact ht
  simp -implicitDefEqProofs (maxDischargeDepth := 12) only [WW,List.replicate,e_splice,if_true,if_false,ite_true,ite_false,true_or,ne_eq,seval,h_putc,beq_self_eq_true,eq_self,exists_eq_left,exists_eq_left', hA, hB, c1]
  refine wp_loop (Inv := fun k t H => ∃ (i : Nat), i + k = a.lyrics.l.length ∧ H.cells 0 = some a.enc.cells ∧ H.cells 1 = some b.enc.cells ∧ a.lyrics.l.take i = b.lyrics.l.take i ∧
    ∃ x : Nat → AV, t = [a.enc, b.enc, .ptr 0 0, .ptr 1 0, .sc (.bool false), x 5, x 6, .sc (.int .i64 i), x 8, x 9, x 10, x 11, x 12, x 13, x 14, x 15, x 16, x 17, x 18, x 19, x 20, x 21, x 22, x 23, x 24, x 25, x 26, x 27, x 28, x 29, x 30, x 31, x 32, x 33, x 34, x 35, x 36, x 37, x 38, x 39, x 40, x 41, x 42, x 43, x 44, x 45, x 46, x 47, x 48, x 49, x 50, x 51, x 52, x 53, x 54, x 55, x 56, x 57, x 58, x 59, x 60, x 61, x 62, x 63, x 64, x 65, x 66, x 67, x 68, x 69, x 70, x 71, x 72, x 73, x 74, x 75, x 76, x 77, x 78, x 79, x 80, x 81, x 82, x 83, x 84, x 85, x 86, x 87, x 88, x 89, x 90, x 91, x 92, x 93, x 94, x 95, x 96, x 97, x 98, x 99, x 100, x 101, x 102, x 103, x 104, x 105, x 106, x 107, x 108, x 109, x 110, x 111, x 112, x 113, x 114, x 115, x 116, x 117, x 118, x 119, x 120, x 121, x 122, x 123, x 124, x 125, x 126, x 127, x 128, x 129, x 130, x 131, x 132, x 133, x 134, x 135]) (k := a.lyrics.l.length) ?_
    ⟨0, by omega, hA, hB, rfl, ex_x rfl⟩
  clear hA hB ht x c1 hk
  rintro k t H ⟨i, hk, hA, hB, ht, x, rfl⟩
  simp only [a.enc_eq, b.enc_eq, c_agg] at hA hB
  by_cases c1 : (i : Int) < (a.lyrics.l.length : Int)
  · obtain ⟨y, hy1⟩ : ∃ y, a.lyrics.l[i]? = some y := ⟨_, List.getElem?_eq_getElem (by omega)⟩
    obtain ⟨z, hz1⟩ : ∃ y, b.lyrics.l[i]? = some y := ⟨_, List.getElem?_eq_getElem (by omega)⟩
    have e2 : IntKind.i64.wrap ((i : Int) + 1) = ((i + 1 : Nat) : Int) := by rw [w64 (by omega) (by omega)]; omega
    by_cases c2 : y = z
    · subst c2
      simp -implicitDefEqProofs (maxDischargeDepth := 12) only [WW,List.replicate,e_splice,if_true,if_false,ite_true,ite_false,true_or,ne_eq,seval,h_putc,beq_self_eq_true,eq_self,exists_eq_left,exists_eq_left', hA, hB, c1, hy1, hz1, y.enc_eq, syl_eq, e2]
      exact ⟨k - 1, by omega, i + 1, by omega, rfl, rfl, take_step hy1 hz1 ht, ex_x rfl⟩
    · rw [decide_eq_false (fun k => list_ne hy1 hz1 c2 k.2.2)]
      simp -implicitDefEqProofs (maxDischargeDepth := 12) only [WW,List.replicate,e_splice,if_true,if_false,ite_true,ite_false,true_or,ne_eq,seval,h_putc,beq_self_eq_true,eq_self,exists_eq_left,exists_eq_left', hA, hB, c1, hy1, hz1, y.enc_eq, z.enc_eq, syl_eq, c2]
      exact frz_sc
  have lyricsE : a.lyrics.l = b.lyrics.l := by rw [List.take_of_length_le (by omega), List.take_of_length_le (by omega)] at ht; exact ht
  simp -implicitDefEqProofs (maxDischargeDepth := 12) only [WW,List.replicate,e_splice,if_true,if_false,ite_true,ite_false,true_or,ne_eq,seval,h_putc,beq_self_eq_true,eq_self,exists_eq_left,exists_eq_left', hA, hB, c1]
  rw [decide_eq_true ⟨headsE, gracesE, lyricsE⟩]
  exact frz_sc
end Go.Hem
/- Walks: the reference's Same of voices, cells. -/
set_option maxRecDepth 10000
set_option maxHeartbeats 4000000
set_option linter.unusedSimpArgs false
set_option linter.unusedVariables false
namespace Go.Hem
variable {pol : Pol}
def Voice.cn (v : Voice) : Voice := { events := Sl.of (v.events.l.map Event.cn), tuplets := Sl.of v.tuplets.l }
theorem tup_eq {a b : Tuplet} : (decide (a.first = b.first) && (decide (a.count = b.count) && (decide (a.actual = b.actual) && decide (a.normal = b.normal)))) = decide (a = b) := by
  cases a; cases b; simp only [Tuplet.mk.injEq, Bool.decide_and]
theorem Voice.cn_iff {a b : Voice} : a.cn = b.cn ↔ a.events.l.map Event.cn = b.events.l.map Event.cn ∧ a.tuplets.l = b.tuplets.l := by
  unfold Voice.cn; simp only [Voice.mk.injEq, of_inj]
theorem cn_noid {a b : Event} : a.cn = b.cn ↔ a.id = b.id ∧ a.noid = b.noid := by
  unfold Event.noid Event.cn
  simp only [Event.mk.injEq, of_inj, true_and]
theorem map_step {α β : Type} {f : α → β} {l m : List α} {i : Nat} {x y : α} (hx : l[i]? = some x) (hy : m[i]? = some y) (e : f x = f y) (h : (l.take i).map f = (m.take i).map f) : (l.take (i + 1)).map f = (m.take (i + 1)).map f := by
  rw [List.take_add_one, List.take_add_one, hx, hy, List.map_append, List.map_append, h]; simp [e]
def Event.tame (e : Event) : Prop := e.heads.l.length < 1000000 ∧ e.graces.l.length < 1000000 ∧ e.lyrics.l.length < 1000000
def Voice.tame (v : Voice) : Prop := v.events.l.length < 1000000 ∧ v.tuplets.l.length < 1000000 ∧ ∀ e ∈ v.events.l, e.tame
theorem sameVoice_pv (hp : pol.pure 99 = true) (a b : Voice) (ha : a.tame) : Pv prog pol 50 [a.enc, b.enc] (.sc (.bool (decide (a.cn = b.cn)))) := by
  refine Pv_of' ok50 (by simp only [AV.closedBs, Voice.enc_closed, Bool.and_self]) ?_
  rw [show decide (a.cn = b.cn) = decide (a.events.l.map Event.cn = b.events.l.map Event.cn ∧ a.tuplets.l = b.tuplets.l) from decide_eq_decide.2 Voice.cn_iff]
  generalize hr : decide (a.events.l.map Event.cn = b.events.l.map Event.cn ∧ a.tuplets.l = b.tuplets.l) = r
  obtain ⟨b1, b2, b3⟩ := ha
  simp -implicitDefEqProofs (maxDischargeDepth := 12) only [wpF, cf50, WW,List.replicate,e_splice,if_true,if_false,ite_true,ite_false,true_or,ne_eq,seval,h_putc,beq_self_eq_true,eq_self,exists_eq_left,exists_eq_left', a.enc_eq, b.enc_eq]
  by_cases h1 : (a.events.l.length : Int) = (b.events.l.length : Int)
  rotate_left
  · rw [decide_eq_false (fun k => h1 (by have := congrArg List.length k.1; simp only [List.length_map] at this; omega))] at hr; subst hr
    simp -implicitDefEqProofs (maxDischargeDepth := 12) only [WW,List.replicate,e_splice,if_true,if_false,ite_true,ite_false,true_or,ne_eq,seval,h_putc,beq_self_eq_true,eq_self,exists_eq_left,exists_eq_left', h1]
    exact frz_sc
  simp -implicitDefEqProofs (maxDischargeDepth := 12) only [WW,List.replicate,e_splice,if_true,if_false,ite_true,ite_false,true_or,ne_eq,seval,h_putc,beq_self_eq_true,eq_self,exists_eq_left,exists_eq_left', eq_true h1]
  by_cases h2 : (a.tuplets.l.length : Int) = (b.tuplets.l.length : Int)
  rotate_left
  · rw [decide_eq_false (fun k => h2 (by rw [k.2]))] at hr; subst hr
    simp -implicitDefEqProofs (maxDischargeDepth := 12) only [WW,List.replicate,e_splice,if_true,if_false,ite_true,ite_false,true_or,ne_eq,seval,h_putc,beq_self_eq_true,eq_self,exists_eq_left,exists_eq_left', h2]
    exact frz_sc
  simp -implicitDefEqProofs (maxDischargeDepth := 12) only [WW,List.replicate,e_splice,if_true,if_false,ite_true,ite_false,true_or,ne_eq,seval,h_putc,beq_self_eq_true,eq_self,exists_eq_left,exists_eq_left', eq_true h2]
  refine wp_loop (Inv := fun k t H => ∃ (i : Nat), i + k = a.events.l.length ∧ H.cells 0 = some a.enc.cells ∧ H.cells 1 = some b.enc.cells ∧ (a.events.l.take i).map Event.cn = (b.events.l.take i).map Event.cn ∧
    ∃ x : Nat → AV, t = [a.enc, b.enc, .ptr 0 0, .ptr 1 0, .sc (.bool false), .sc (.int .i64 i), x 6, x 7, x 8, x 9, x 10, x 11, x 12, x 13, x 14, x 15, x 16, x 17, x 18, x 19, x 20, x 21, x 22, x 23, x 24, x 25, x 26, x 27, x 28, x 29, x 30, x 31, x 32, x 33, x 34, x 35, x 36, x 37, x 38, x 39, x 40, x 41, x 42, x 43, x 44, x 45, x 46, x 47, x 48, x 49, x 50, x 51, x 52, x 53, x 54, x 55, x 56, x 57, x 58, x 59, x 60, x 61, x 62, x 63, x 64, x 65, x 66, x 67, x 68, x 69, x 70, x 71, x 72, x 73, x 74]) (k := a.events.l.length) ?_
    ⟨0, by omega, ?_, ?_, rfl, ex_x rfl⟩
  rotate_left
  · simp -implicitDefEqProofs (maxDischargeDepth := 12) only [WW,List.replicate,e_splice,if_true,if_false,ite_true,ite_false,true_or,ne_eq,seval,h_putc,beq_self_eq_true,eq_self,exists_eq_left,exists_eq_left']; rfl
  · simp -implicitDefEqProofs (maxDischargeDepth := 12) only [WW,List.replicate,e_splice,if_true,if_false,ite_true,ite_false,true_or,ne_eq,seval,h_putc,beq_self_eq_true,eq_self,exists_eq_left,exists_eq_left']; rfl
  rintro k t H ⟨i, hk, hA, hB, ht, x, rfl⟩
  simp only [a.enc_eq, b.enc_eq, c_agg] at hA hB
  by_cases c1 : (i : Int) < (a.events.l.length : Int)
  · obtain ⟨y, hy1⟩ : ∃ y, a.events.l[i]? = some y := ⟨_, List.getElem?_eq_getElem (by omega)⟩
    obtain ⟨z, hz1⟩ : ∃ y, b.events.l[i]? = some y := ⟨_, List.getElem?_eq_getElem (by omega)⟩
    have e2 : IntKind.i64.wrap ((i : Int) + 1) = ((i + 1 : Nat) : Int) := by rw [w64 (by omega) (by omega)]; omega
    obtain ⟨t1, t2, t3⟩ := b3 y (List.mem_of_getElem? hy1)
    by_cases c2 : y.id = z.id
    · simp -implicitDefEqProofs (maxDischargeDepth := 12) only [WW,List.replicate,e_splice,if_true,if_false,ite_true,ite_false,true_or,ne_eq,seval,h_putc,beq_self_eq_true,eq_self,exists_eq_left,exists_eq_left', hA, hB, c1, hy1, hz1, y.enc_eq, z.enc_eq, id_eq, eq_true c2]
      rw [← y.enc_eq, ← z.enc_eq]
      refine wA_pure hp (same11_pv y z t1 t2 t3) ?_
      by_cases c3 : y.noid = z.noid
      · simp -implicitDefEqProofs (maxDischargeDepth := 12) only [WW,List.replicate,e_splice,if_true,if_false,ite_true,ite_false,true_or,ne_eq,seval,h_putc,beq_self_eq_true,eq_self,exists_eq_left,exists_eq_left', eq_true c3, e2]
        exact ⟨k - 1, by omega, i + 1, by omega, hA, hB, map_step hy1 hz1 (cn_noid.2 ⟨c2, c3⟩) ht, ex_x rfl⟩
      · rw [decide_eq_false (fun k => map_ne hy1 hz1 (fun e => c3 (cn_noid.1 e).2) k.1)] at hr; subst hr
        simp -implicitDefEqProofs (maxDischargeDepth := 12) only [WW,List.replicate,e_splice,if_true,if_false,ite_true,ite_false,true_or,ne_eq,seval,h_putc,beq_self_eq_true,eq_self,exists_eq_left,exists_eq_left', c3]
        exact frz_sc
    · rw [decide_eq_false (fun k => map_ne hy1 hz1 (fun e => c2 (cn_noid.1 e).1) k.1)] at hr; subst hr
      simp -implicitDefEqProofs (maxDischargeDepth := 12) only [WW,List.replicate,e_splice,if_true,if_false,ite_true,ite_false,true_or,ne_eq,seval,h_putc,beq_self_eq_true,eq_self,exists_eq_left,exists_eq_left', hA, hB, c1, hy1, hz1, y.enc_eq, z.enc_eq, id_eq, c2]
      exact frz_sc
  have evE : a.events.l.map Event.cn = b.events.l.map Event.cn := by rw [List.take_of_length_le (by omega), List.take_of_length_le (by omega)] at ht; exact ht
  simp -implicitDefEqProofs (maxDischargeDepth := 12) only [WW,List.replicate,e_splice,if_true,if_false,ite_true,ite_false,true_or,ne_eq,seval,h_putc,beq_self_eq_true,eq_self,exists_eq_left,exists_eq_left', hA, hB, c1]
  refine wp_loop (Inv := fun k t H => ∃ (i : Nat), i + k = a.tuplets.l.length ∧ H.cells 0 = some a.enc.cells ∧ H.cells 1 = some b.enc.cells ∧ a.tuplets.l.take i = b.tuplets.l.take i ∧
    ∃ x : Nat → AV, t = [a.enc, b.enc, .ptr 0 0, .ptr 1 0, .sc (.bool false), x 5, .sc (.int .i64 i), x 7, x 8, x 9, x 10, x 11, x 12, x 13, x 14, x 15, x 16, x 17, x 18, x 19, x 20, x 21, x 22, x 23, x 24, x 25, x 26, x 27, x 28, x 29, x 30, x 31, x 32, x 33, x 34, x 35, x 36, x 37, x 38, x 39, x 40, x 41, x 42, x 43, x 44, x 45, x 46, x 47, x 48, x 49, x 50, x 51, x 52, x 53, x 54, x 55, x 56, x 57, x 58, x 59, x 60, x 61, x 62, x 63, x 64, x 65, x 66, x 67, x 68, x 69, x 70, x 71, x 72, x 73, x 74]) (k := a.tuplets.l.length) ?_
    ⟨0, by omega, hA, hB, rfl, ex_x rfl⟩
  clear hA hB ht x c1 hk
  rintro k t H ⟨i, hk, hA, hB, ht, x, rfl⟩
  simp only [a.enc_eq, b.enc_eq, c_agg] at hA hB
  by_cases c1 : (i : Int) < (a.tuplets.l.length : Int)
  · obtain ⟨y, hy1⟩ : ∃ y, a.tuplets.l[i]? = some y := ⟨_, List.getElem?_eq_getElem (by omega)⟩
    obtain ⟨z, hz1⟩ : ∃ y, b.tuplets.l[i]? = some y := ⟨_, List.getElem?_eq_getElem (by omega)⟩
    have e2 : IntKind.i64.wrap ((i : Int) + 1) = ((i + 1 : Nat) : Int) := by rw [w64 (by omega) (by omega)]; omega
    by_cases c2 : y = z
    · subst c2
      simp -implicitDefEqProofs (maxDischargeDepth := 12) only [WW,List.replicate,e_splice,if_true,if_false,ite_true,ite_false,true_or,ne_eq,seval,h_putc,beq_self_eq_true,eq_self,exists_eq_left,exists_eq_left', hA, hB, c1, hy1, hz1, y.enc_eq, tup_eq, e2]
      exact ⟨k - 1, by omega, i + 1, by omega, rfl, rfl, take_step hy1 hz1 ht, ex_x rfl⟩
    · rw [decide_eq_false (fun k => list_ne hy1 hz1 c2 k.2)] at hr; subst hr
      simp -implicitDefEqProofs (maxDischargeDepth := 12) only [WW,List.replicate,e_splice,if_true,if_false,ite_true,ite_false,true_or,ne_eq,seval,h_putc,beq_self_eq_true,eq_self,exists_eq_left,exists_eq_left', hA, hB, c1, hy1, hz1, y.enc_eq, z.enc_eq, tup_eq, c2]
      exact frz_sc
  have tuE : a.tuplets.l = b.tuplets.l := by rw [List.take_of_length_le (by omega), List.take_of_length_le (by omega)] at ht; exact ht
  simp -implicitDefEqProofs (maxDischargeDepth := 12) only [WW,List.replicate,e_splice,if_true,if_false,ite_true,ite_false,true_or,ne_eq,seval,h_putc,beq_self_eq_true,eq_self,exists_eq_left,exists_eq_left', hA, hB, c1]
  rw [decide_eq_true ⟨evE, tuE⟩] at hr; subst hr
  exact frz_sc
end Go.Hem
/- Walks: the reference's Same of cells, measures. -/
set_option maxRecDepth 10000
set_option maxHeartbeats 4000000
set_option linter.unusedSimpArgs false
set_option linter.unusedVariables false
namespace Go.Hem
variable {pol : Pol}
def Cell.cn (c : Cell) : Cell := { clefs := Sl.of c.clefs.l, voices := Sl.of (c.voices.l.map Voice.cn) }
def Measure.cn (m : Measure) : Measure := { m with tempi := Sl.of m.tempi.l, cells := Sl.of (m.cells.l.map Cell.cn) }
def Cell.tame (c : Cell) : Prop := c.clefs.l.length < 1000000 ∧ c.voices.l.length < 1000000 ∧ ∀ v ∈ c.voices.l, v.tame
def Measure.tame (m : Measure) : Prop := m.tempi.l.length < 1000000 ∧ m.cells.l.length < 1000000 ∧ ∀ c ∈ m.cells.l, c.tame
theorem clef_eq {a b : ClefChange} : (decide (a.at_ = b.at_) && decide (a.clef = b.clef)) = decide (a = b) := by
  cases a; cases b; simp only [ClefChange.mk.injEq, Bool.decide_and]
theorem tempo_eq {a b : Tempo} : (decide (a.at_ = b.at_) && (decide (a.micros = b.micros) && (a.ramp == b.ramp))) = decide (a = b) := by
  obtain ⟨a1, a2, a3⟩ := a
  obtain ⟨b1, b2, b3⟩ := b
  have e : (a3 == b3) = decide (a3 = b3) := by cases a3 <;> cases b3 <;> rfl
  simp only [Tempo.mk.injEq, Bool.decide_and, e]
theorem metre_eq {a b : Metre} : (decide (a.count = b.count) && (decide (a.unit = b.unit) && (decide (a.g0 = b.g0) && (decide (a.g1 = b.g1) && (decide (a.g2 = b.g2) && (decide (a.g3 = b.g3) && (decide (a.g4 = b.g4) && decide (a.g5 = b.g5)))))))) = decide (a = b) := by
  cases a; cases b; simp only [Metre.mk.injEq, Bool.decide_and, Bool.and_assoc]
theorem bool_dec {a b : Bool} : (a == b) = decide (a = b) := by cases a <;> cases b <;> rfl
theorem Cell.cn_iff {a b : Cell} : a.cn = b.cn ↔ a.clefs.l = b.clefs.l ∧ a.voices.l.map Voice.cn = b.voices.l.map Voice.cn := by
  unfold Cell.cn; simp only [Cell.mk.injEq, of_inj]
theorem Measure.cn_tempi {a b : Measure} (k : a.cn = b.cn) : a.tempi.l = b.tempi.l := by
  have := congrArg (fun m : Measure => m.tempi.l) k
  simpa only [Measure.cn, l_of] using this
theorem Measure.cn_cells {a b : Measure} (k : a.cn = b.cn) : a.cells.l.map Cell.cn = b.cells.l.map Cell.cn := by
  have := congrArg (fun m : Measure => m.cells.l) k
  simpa only [Measure.cn, l_of] using this
theorem Measure.cn_mk {a b : Measure} (h1 : a.id = b.id) (h2 : a.metre = b.metre) (h3 : a.length = b.length) (h4 : a.fifths = b.fifths) (h5 : a.rstart = b.rstart) (h6 : a.rend = b.rend) (h7 : a.endings = b.endings) (h8 : a.jump = b.jump) (h9 : a.labels = b.labels) (h10 : a.swing = b.swing) (h11 : a.brk = b.brk) (h12 : a.rehearsal = b.rehearsal) (h13 : a.tempi.l = b.tempi.l) (h14 : a.cells.l.map Cell.cn = b.cells.l.map Cell.cn) : a.cn = b.cn := by
  unfold Measure.cn; rw [h1, h2, h3, h4, h5, h6, h7, h8, h9, h10, h11, h12, h13, h14]
theorem len_of_map {α β : Type} {f : α → β} {l m : List α} (h : l.map f = m.map f) : (l.length : Int) = (m.length : Int) := by
  have := congrArg List.length h; simp only [List.length_map] at this; omega
theorem sameCell_pv (hp : pol.pure 99 = true) (hp2 : pol.pure 50 = true) (a b : Cell) (ha : a.tame) : Pv prog pol 113 [a.enc, b.enc] (.sc (.bool (decide (a.cn = b.cn)))) := by
  refine Pv_of' ok113 (by simp only [AV.closedBs, Cell.enc_closed, Bool.and_self]) ?_
  obtain ⟨b1, b2, b3⟩ := ha
  generalize hr : decide (a.cn = b.cn) = r
  simp -implicitDefEqProofs (maxDischargeDepth := 12) only [wpF, cf113, WW,List.replicate,e_splice,if_true,if_false,ite_true,ite_false,true_or,ne_eq,seval,h_putc,beq_self_eq_true,eq_self,exists_eq_left,exists_eq_left', a.enc_eq, b.enc_eq, bool_dec]
  by_cases h1 : (a.clefs.l.length : Int) = (b.clefs.l.length : Int)
  rotate_left
  · rw [decide_eq_false (fun k : a.cn = b.cn => h1 (by rw [(Cell.cn_iff.1 k).1]))] at hr; subst hr
    simp -implicitDefEqProofs (maxDischargeDepth := 12) only [WW,List.replicate,e_splice,if_true,if_false,ite_true,ite_false,true_or,ne_eq,seval,h_putc,beq_self_eq_true,eq_self,exists_eq_left,exists_eq_left', h1, bool_dec]
    exact frz_sc
  simp -implicitDefEqProofs (maxDischargeDepth := 12) only [WW,List.replicate,e_splice,if_true,if_false,ite_true,ite_false,true_or,ne_eq,seval,h_putc,beq_self_eq_true,eq_self,exists_eq_left,exists_eq_left', eq_true h1, bool_dec]
  by_cases h2 : (a.voices.l.length : Int) = (b.voices.l.length : Int)
  rotate_left
  · rw [decide_eq_false (fun k : a.cn = b.cn => h2 (len_of_map (Cell.cn_iff.1 k).2))] at hr; subst hr
    simp -implicitDefEqProofs (maxDischargeDepth := 12) only [WW,List.replicate,e_splice,if_true,if_false,ite_true,ite_false,true_or,ne_eq,seval,h_putc,beq_self_eq_true,eq_self,exists_eq_left,exists_eq_left', h2, bool_dec]
    exact frz_sc
  simp -implicitDefEqProofs (maxDischargeDepth := 12) only [WW,List.replicate,e_splice,if_true,if_false,ite_true,ite_false,true_or,ne_eq,seval,h_putc,beq_self_eq_true,eq_self,exists_eq_left,exists_eq_left', eq_true h2, bool_dec]
  refine wp_loop (Inv := fun k t H => ∃ (i : Nat), i + k = a.clefs.l.length ∧ H.cells 0 = some a.enc.cells ∧ H.cells 1 = some b.enc.cells ∧ a.clefs.l.take i = b.clefs.l.take i ∧
    ∃ x : Nat → AV, t = [a.enc, b.enc, .ptr 0 0, .ptr 1 0, .sc (.bool false), .sc (.int .i64 i), x 6, x 7, x 8, x 9, x 10, x 11, x 12, x 13, x 14, x 15, x 16, x 17, x 18, x 19, x 20, x 21, x 22, x 23, x 24, x 25, x 26, x 27, x 28, x 29, x 30, x 31, x 32, x 33, x 34, x 35, x 36, x 37, x 38, x 39, x 40, x 41, x 42, x 43, x 44, x 45, x 46, x 47, x 48, x 49, x 50, x 51, x 52, x 53, x 54, x 55, x 56, x 57, x 58, x 59]) (k := a.clefs.l.length) ?_
    ⟨0, by omega, ?_, ?_, rfl, ex_x rfl⟩
  rotate_left
  · simp -implicitDefEqProofs (maxDischargeDepth := 12) only [WW,List.replicate,e_splice,if_true,if_false,ite_true,ite_false,true_or,ne_eq,seval,h_putc,beq_self_eq_true,eq_self,exists_eq_left,exists_eq_left']; rfl
  · simp -implicitDefEqProofs (maxDischargeDepth := 12) only [WW,List.replicate,e_splice,if_true,if_false,ite_true,ite_false,true_or,ne_eq,seval,h_putc,beq_self_eq_true,eq_self,exists_eq_left,exists_eq_left']; rfl
  rintro k t H ⟨i, hk, hA, hB, ht, x, rfl⟩
  simp only [a.enc_eq, b.enc_eq, c_agg] at hA hB
  by_cases c1 : (i : Int) < (a.clefs.l.length : Int)
  · obtain ⟨y, hy1⟩ : ∃ y, a.clefs.l[i]? = some y := ⟨_, List.getElem?_eq_getElem (by omega)⟩
    obtain ⟨z, hz1⟩ : ∃ y, b.clefs.l[i]? = some y := ⟨_, List.getElem?_eq_getElem (by omega)⟩
    have e2 : IntKind.i64.wrap ((i : Int) + 1) = ((i + 1 : Nat) : Int) := by rw [w64 (by omega) (by omega)]; omega
    by_cases c2 : y = z
    · subst c2
      simp -implicitDefEqProofs (maxDischargeDepth := 12) only [WW,List.replicate,e_splice,if_true,if_false,ite_true,ite_false,true_or,ne_eq,seval,h_putc,beq_self_eq_true,eq_self,exists_eq_left,exists_eq_left', hA, hB, c1, hy1, hz1, y.enc_eq, clef_eq, e2]
      exact ⟨k - 1, by omega, i + 1, by omega, rfl, rfl, take_step hy1 hz1 ht, ex_x rfl⟩
    · rw [decide_eq_false (fun k : a.cn = b.cn => list_ne hy1 hz1 c2 (Cell.cn_iff.1 k).1)] at hr; subst hr
      simp -implicitDefEqProofs (maxDischargeDepth := 12) only [WW,List.replicate,e_splice,if_true,if_false,ite_true,ite_false,true_or,ne_eq,seval,h_putc,beq_self_eq_true,eq_self,exists_eq_left,exists_eq_left', hA, hB, c1, hy1, hz1, y.enc_eq, z.enc_eq, clef_eq, c2]
      exact frz_sc
  have clefsE : a.clefs.l = b.clefs.l := by rw [List.take_of_length_le (by omega), List.take_of_length_le (by omega)] at ht; exact ht
  simp -implicitDefEqProofs (maxDischargeDepth := 12) only [WW,List.replicate,e_splice,if_true,if_false,ite_true,ite_false,true_or,ne_eq,seval,h_putc,beq_self_eq_true,eq_self,exists_eq_left,exists_eq_left', hA, hB, c1]
  refine wp_loop (Inv := fun k t H => ∃ (i : Nat), i + k = a.voices.l.length ∧ H.cells 0 = some a.enc.cells ∧ H.cells 1 = some b.enc.cells ∧ (a.voices.l.take i).map Voice.cn = (b.voices.l.take i).map Voice.cn ∧
    ∃ x : Nat → AV, t = [a.enc, b.enc, .ptr 0 0, .ptr 1 0, .sc (.bool false), x 5, .sc (.int .i64 i), x 7, x 8, x 9, x 10, x 11, x 12, x 13, x 14, x 15, x 16, x 17, x 18, x 19, x 20, x 21, x 22, x 23, x 24, x 25, x 26, x 27, x 28, x 29, x 30, x 31, x 32, x 33, x 34, x 35, x 36, x 37, x 38, x 39, x 40, x 41, x 42, x 43, x 44, x 45, x 46, x 47, x 48, x 49, x 50, x 51, x 52, x 53, x 54, x 55, x 56, x 57, x 58, x 59]) (k := a.voices.l.length) ?_
    ⟨0, by omega, hA, hB, rfl, ex_x rfl⟩
  clear hA hB ht x c1 hk
  rintro k t H ⟨i, hk, hA, hB, ht, x, rfl⟩
  simp only [a.enc_eq, b.enc_eq, c_agg] at hA hB
  by_cases c1 : (i : Int) < (a.voices.l.length : Int)
  · obtain ⟨y, hy1⟩ : ∃ y, a.voices.l[i]? = some y := ⟨_, List.getElem?_eq_getElem (by omega)⟩
    obtain ⟨z, hz1⟩ : ∃ y, b.voices.l[i]? = some y := ⟨_, List.getElem?_eq_getElem (by omega)⟩
    have e2 : IntKind.i64.wrap ((i : Int) + 1) = ((i + 1 : Nat) : Int) := by rw [w64 (by omega) (by omega)]; omega
    simp -implicitDefEqProofs (maxDischargeDepth := 12) only [WW,List.replicate,e_splice,if_true,if_false,ite_true,ite_false,true_or,ne_eq,seval,h_putc,beq_self_eq_true,eq_self,exists_eq_left,exists_eq_left', hA, hB, c1, hy1, hz1, y.enc_eq, z.enc_eq]
    rw [← y.enc_eq, ← z.enc_eq]
    refine wA_pure hp2 (sameVoice_pv hp y z (b3 y (List.mem_of_getElem? hy1))) ?_
    by_cases c3 : y.cn = z.cn
    · simp -implicitDefEqProofs (maxDischargeDepth := 12) only [WW,List.replicate,e_splice,if_true,if_false,ite_true,ite_false,true_or,ne_eq,seval,h_putc,beq_self_eq_true,eq_self,exists_eq_left,exists_eq_left', eq_true c3, e2]
      exact ⟨k - 1, by omega, i + 1, by omega, hA, hB, map_step hy1 hz1 c3 ht, ex_x rfl⟩
    · rw [decide_eq_false (fun k : a.cn = b.cn => map_ne hy1 hz1 c3 (Cell.cn_iff.1 k).2)] at hr; subst hr
      simp -implicitDefEqProofs (maxDischargeDepth := 12) only [WW,List.replicate,e_splice,if_true,if_false,ite_true,ite_false,true_or,ne_eq,seval,h_putc,beq_self_eq_true,eq_self,exists_eq_left,exists_eq_left', c3]
      exact frz_sc
  have voicesE : a.voices.l.map Voice.cn = b.voices.l.map Voice.cn := by rw [List.take_of_length_le (by omega), List.take_of_length_le (by omega)] at ht; exact ht
  simp -implicitDefEqProofs (maxDischargeDepth := 12) only [WW,List.replicate,e_splice,if_true,if_false,ite_true,ite_false,true_or,ne_eq,seval,h_putc,beq_self_eq_true,eq_self,exists_eq_left,exists_eq_left', hA, hB, c1]
  rw [decide_eq_true (Cell.cn_iff.2 ⟨clefsE, voicesE⟩)] at hr; subst hr
  exact frz_sc
theorem sameMeasure_pv (hp : pol.pure 99 = true) (hp2 : pol.pure 50 = true) (hp3 : pol.pure 113 = true) (a b : Measure) (ha : a.tame) : Pv prog pol 68 [a.enc, b.enc] (.sc (.bool (decide (a.cn = b.cn)))) := by
  refine Pv_of' ok68 (by simp only [AV.closedBs, Measure.enc_closed, Bool.and_self]) ?_
  obtain ⟨b1, b2, b3⟩ := ha
  generalize hr : decide (a.cn = b.cn) = r
  simp -implicitDefEqProofs (maxDischargeDepth := 12) only [wpF, cf68, WW,List.replicate,e_splice,if_true,if_false,ite_true,ite_false,true_or,ne_eq,seval,h_putc,beq_self_eq_true,eq_self,exists_eq_left,exists_eq_left', a.enc_eq, b.enc_eq, bool_dec, id_eq, metre_eq, toList_eq]
  by_cases h1 : a.id = b.id
  rotate_left
  · rw [decide_eq_false (fun k : a.cn = b.cn => h1 ((congrArg Measure.id k : a.cn.id = b.cn.id)))] at hr; subst hr
    simp -implicitDefEqProofs (maxDischargeDepth := 12) only [WW,List.replicate,e_splice,if_true,if_false,ite_true,ite_false,true_or,ne_eq,seval,h_putc,beq_self_eq_true,eq_self,exists_eq_left,exists_eq_left', h1, bool_dec, id_eq, metre_eq, toList_eq]
    exact frz_sc
  simp -implicitDefEqProofs (maxDischargeDepth := 12) only [WW,List.replicate,e_splice,if_true,if_false,ite_true,ite_false,true_or,ne_eq,seval,h_putc,beq_self_eq_true,eq_self,exists_eq_left,exists_eq_left', eq_true h1, bool_dec, id_eq, metre_eq, toList_eq]
  by_cases h2 : a.metre = b.metre
  rotate_left
  · rw [decide_eq_false (fun k : a.cn = b.cn => h2 ((congrArg Measure.metre k : a.cn.metre = b.cn.metre)))] at hr; subst hr
    simp -implicitDefEqProofs (maxDischargeDepth := 12) only [WW,List.replicate,e_splice,if_true,if_false,ite_true,ite_false,true_or,ne_eq,seval,h_putc,beq_self_eq_true,eq_self,exists_eq_left,exists_eq_left', h2, bool_dec, id_eq, metre_eq, toList_eq]
    exact frz_sc
  simp -implicitDefEqProofs (maxDischargeDepth := 12) only [WW,List.replicate,e_splice,if_true,if_false,ite_true,ite_false,true_or,ne_eq,seval,h_putc,beq_self_eq_true,eq_self,exists_eq_left,exists_eq_left', eq_true h2, bool_dec, id_eq, metre_eq, toList_eq]
  by_cases h3 : a.length = b.length
  rotate_left
  · rw [decide_eq_false (fun k : a.cn = b.cn => h3 ((congrArg Measure.length k : a.cn.length = b.cn.length)))] at hr; subst hr
    simp -implicitDefEqProofs (maxDischargeDepth := 12) only [WW,List.replicate,e_splice,if_true,if_false,ite_true,ite_false,true_or,ne_eq,seval,h_putc,beq_self_eq_true,eq_self,exists_eq_left,exists_eq_left', h3, bool_dec, id_eq, metre_eq, toList_eq]
    exact frz_sc
  simp -implicitDefEqProofs (maxDischargeDepth := 12) only [WW,List.replicate,e_splice,if_true,if_false,ite_true,ite_false,true_or,ne_eq,seval,h_putc,beq_self_eq_true,eq_self,exists_eq_left,exists_eq_left', eq_true h3, bool_dec, id_eq, metre_eq, toList_eq]
  by_cases h4 : a.fifths = b.fifths
  rotate_left
  · rw [decide_eq_false (fun k : a.cn = b.cn => h4 ((congrArg Measure.fifths k : a.cn.fifths = b.cn.fifths)))] at hr; subst hr
    simp -implicitDefEqProofs (maxDischargeDepth := 12) only [WW,List.replicate,e_splice,if_true,if_false,ite_true,ite_false,true_or,ne_eq,seval,h_putc,beq_self_eq_true,eq_self,exists_eq_left,exists_eq_left', h4, bool_dec, id_eq, metre_eq, toList_eq]
    exact frz_sc
  simp -implicitDefEqProofs (maxDischargeDepth := 12) only [WW,List.replicate,e_splice,if_true,if_false,ite_true,ite_false,true_or,ne_eq,seval,h_putc,beq_self_eq_true,eq_self,exists_eq_left,exists_eq_left', eq_true h4, bool_dec, id_eq, metre_eq, toList_eq]
  by_cases h5 : a.rstart = b.rstart
  rotate_left
  · rw [decide_eq_false (fun k : a.cn = b.cn => h5 ((congrArg Measure.rstart k : a.cn.rstart = b.cn.rstart)))] at hr; subst hr
    simp -implicitDefEqProofs (maxDischargeDepth := 12) only [WW,List.replicate,e_splice,if_true,if_false,ite_true,ite_false,true_or,ne_eq,seval,h_putc,beq_self_eq_true,eq_self,exists_eq_left,exists_eq_left', h5, bool_dec, id_eq, metre_eq, toList_eq]
    exact frz_sc
  simp -implicitDefEqProofs (maxDischargeDepth := 12) only [WW,List.replicate,e_splice,if_true,if_false,ite_true,ite_false,true_or,ne_eq,seval,h_putc,beq_self_eq_true,eq_self,exists_eq_left,exists_eq_left', eq_true h5, bool_dec, id_eq, metre_eq, toList_eq]
  by_cases h6 : a.rend = b.rend
  rotate_left
  · rw [decide_eq_false (fun k : a.cn = b.cn => h6 ((congrArg Measure.rend k : a.cn.rend = b.cn.rend)))] at hr; subst hr
    simp -implicitDefEqProofs (maxDischargeDepth := 12) only [WW,List.replicate,e_splice,if_true,if_false,ite_true,ite_false,true_or,ne_eq,seval,h_putc,beq_self_eq_true,eq_self,exists_eq_left,exists_eq_left', h6, bool_dec, id_eq, metre_eq, toList_eq]
    exact frz_sc
  simp -implicitDefEqProofs (maxDischargeDepth := 12) only [WW,List.replicate,e_splice,if_true,if_false,ite_true,ite_false,true_or,ne_eq,seval,h_putc,beq_self_eq_true,eq_self,exists_eq_left,exists_eq_left', eq_true h6, bool_dec, id_eq, metre_eq, toList_eq]
  by_cases h7 : a.endings = b.endings
  rotate_left
  · rw [decide_eq_false (fun k : a.cn = b.cn => h7 ((congrArg Measure.endings k : a.cn.endings = b.cn.endings)))] at hr; subst hr
    simp -implicitDefEqProofs (maxDischargeDepth := 12) only [WW,List.replicate,e_splice,if_true,if_false,ite_true,ite_false,true_or,ne_eq,seval,h_putc,beq_self_eq_true,eq_self,exists_eq_left,exists_eq_left', h7, bool_dec, id_eq, metre_eq, toList_eq]
    exact frz_sc
  simp -implicitDefEqProofs (maxDischargeDepth := 12) only [WW,List.replicate,e_splice,if_true,if_false,ite_true,ite_false,true_or,ne_eq,seval,h_putc,beq_self_eq_true,eq_self,exists_eq_left,exists_eq_left', eq_true h7, bool_dec, id_eq, metre_eq, toList_eq]
  by_cases h8 : a.jump = b.jump
  rotate_left
  · rw [decide_eq_false (fun k : a.cn = b.cn => h8 ((congrArg Measure.jump k : a.cn.jump = b.cn.jump)))] at hr; subst hr
    simp -implicitDefEqProofs (maxDischargeDepth := 12) only [WW,List.replicate,e_splice,if_true,if_false,ite_true,ite_false,true_or,ne_eq,seval,h_putc,beq_self_eq_true,eq_self,exists_eq_left,exists_eq_left', h8, bool_dec, id_eq, metre_eq, toList_eq]
    exact frz_sc
  simp -implicitDefEqProofs (maxDischargeDepth := 12) only [WW,List.replicate,e_splice,if_true,if_false,ite_true,ite_false,true_or,ne_eq,seval,h_putc,beq_self_eq_true,eq_self,exists_eq_left,exists_eq_left', eq_true h8, bool_dec, id_eq, metre_eq, toList_eq]
  by_cases h9 : a.labels = b.labels
  rotate_left
  · rw [decide_eq_false (fun k : a.cn = b.cn => h9 ((congrArg Measure.labels k : a.cn.labels = b.cn.labels)))] at hr; subst hr
    simp -implicitDefEqProofs (maxDischargeDepth := 12) only [WW,List.replicate,e_splice,if_true,if_false,ite_true,ite_false,true_or,ne_eq,seval,h_putc,beq_self_eq_true,eq_self,exists_eq_left,exists_eq_left', h9, bool_dec, id_eq, metre_eq, toList_eq]
    exact frz_sc
  simp -implicitDefEqProofs (maxDischargeDepth := 12) only [WW,List.replicate,e_splice,if_true,if_false,ite_true,ite_false,true_or,ne_eq,seval,h_putc,beq_self_eq_true,eq_self,exists_eq_left,exists_eq_left', eq_true h9, bool_dec, id_eq, metre_eq, toList_eq]
  by_cases h10 : a.swing = b.swing
  rotate_left
  · rw [decide_eq_false (fun k : a.cn = b.cn => h10 ((congrArg Measure.swing k : a.cn.swing = b.cn.swing)))] at hr; subst hr
    simp -implicitDefEqProofs (maxDischargeDepth := 12) only [WW,List.replicate,e_splice,if_true,if_false,ite_true,ite_false,true_or,ne_eq,seval,h_putc,beq_self_eq_true,eq_self,exists_eq_left,exists_eq_left', h10, bool_dec, id_eq, metre_eq, toList_eq]
    exact frz_sc
  simp -implicitDefEqProofs (maxDischargeDepth := 12) only [WW,List.replicate,e_splice,if_true,if_false,ite_true,ite_false,true_or,ne_eq,seval,h_putc,beq_self_eq_true,eq_self,exists_eq_left,exists_eq_left', eq_true h10, bool_dec, id_eq, metre_eq, toList_eq]
  by_cases h11 : a.brk = b.brk
  rotate_left
  · rw [decide_eq_false (fun k : a.cn = b.cn => h11 ((congrArg Measure.brk k : a.cn.brk = b.cn.brk)))] at hr; subst hr
    simp -implicitDefEqProofs (maxDischargeDepth := 12) only [WW,List.replicate,e_splice,if_true,if_false,ite_true,ite_false,true_or,ne_eq,seval,h_putc,beq_self_eq_true,eq_self,exists_eq_left,exists_eq_left', h11, bool_dec, id_eq, metre_eq, toList_eq]
    exact frz_sc
  simp -implicitDefEqProofs (maxDischargeDepth := 12) only [WW,List.replicate,e_splice,if_true,if_false,ite_true,ite_false,true_or,ne_eq,seval,h_putc,beq_self_eq_true,eq_self,exists_eq_left,exists_eq_left', eq_true h11, bool_dec, id_eq, metre_eq, toList_eq]
  by_cases h12 : a.rehearsal = b.rehearsal
  rotate_left
  · rw [decide_eq_false (fun k : a.cn = b.cn => h12 ((congrArg Measure.rehearsal k : a.cn.rehearsal = b.cn.rehearsal)))] at hr; subst hr
    simp -implicitDefEqProofs (maxDischargeDepth := 12) only [WW,List.replicate,e_splice,if_true,if_false,ite_true,ite_false,true_or,ne_eq,seval,h_putc,beq_self_eq_true,eq_self,exists_eq_left,exists_eq_left', h12, bool_dec, id_eq, metre_eq, toList_eq]
    exact frz_sc
  simp -implicitDefEqProofs (maxDischargeDepth := 12) only [WW,List.replicate,e_splice,if_true,if_false,ite_true,ite_false,true_or,ne_eq,seval,h_putc,beq_self_eq_true,eq_self,exists_eq_left,exists_eq_left', eq_true h12, bool_dec, id_eq, metre_eq, toList_eq]
  by_cases h13 : (a.tempi.l.length : Int) = (b.tempi.l.length : Int)
  rotate_left
  · rw [decide_eq_false (fun k : a.cn = b.cn => h13 (by rw [Measure.cn_tempi k]))] at hr; subst hr
    simp -implicitDefEqProofs (maxDischargeDepth := 12) only [WW,List.replicate,e_splice,if_true,if_false,ite_true,ite_false,true_or,ne_eq,seval,h_putc,beq_self_eq_true,eq_self,exists_eq_left,exists_eq_left', h13, bool_dec, id_eq, metre_eq, toList_eq]
    exact frz_sc
  simp -implicitDefEqProofs (maxDischargeDepth := 12) only [WW,List.replicate,e_splice,if_true,if_false,ite_true,ite_false,true_or,ne_eq,seval,h_putc,beq_self_eq_true,eq_self,exists_eq_left,exists_eq_left', eq_true h13, bool_dec, id_eq, metre_eq, toList_eq]
  by_cases h14 : (a.cells.l.length : Int) = (b.cells.l.length : Int)
  rotate_left
  · rw [decide_eq_false (fun k : a.cn = b.cn => h14 (len_of_map (Measure.cn_cells k)))] at hr; subst hr
    simp -implicitDefEqProofs (maxDischargeDepth := 12) only [WW,List.replicate,e_splice,if_true,if_false,ite_true,ite_false,true_or,ne_eq,seval,h_putc,beq_self_eq_true,eq_self,exists_eq_left,exists_eq_left', h14, bool_dec, id_eq, metre_eq, toList_eq]
    exact frz_sc
  simp -implicitDefEqProofs (maxDischargeDepth := 12) only [WW,List.replicate,e_splice,if_true,if_false,ite_true,ite_false,true_or,ne_eq,seval,h_putc,beq_self_eq_true,eq_self,exists_eq_left,exists_eq_left', eq_true h14, bool_dec, id_eq, metre_eq, toList_eq]
  refine wp_loop (Inv := fun k t H => ∃ (i : Nat), i + k = a.tempi.l.length ∧ H.cells 0 = some a.enc.cells ∧ H.cells 1 = some b.enc.cells ∧ a.tempi.l.take i = b.tempi.l.take i ∧
    ∃ x : Nat → AV, t = [a.enc, b.enc, .ptr 0 0, .ptr 1 0, .sc (.bool false), .sc (.int .i64 i), x 6, x 7, x 8, x 9, x 10, x 11, x 12, x 13, x 14, x 15, x 16, x 17, x 18, x 19, x 20, x 21, x 22, x 23, x 24, x 25, x 26, x 27, x 28, x 29, x 30, x 31, x 32, x 33, x 34, x 35, x 36, x 37, x 38, x 39, x 40, x 41, x 42, x 43, x 44, x 45, x 46, x 47, x 48, x 49, x 50, x 51, x 52, x 53, x 54, x 55, x 56, x 57, x 58, x 59, x 60, x 61, x 62, x 63, x 64, x 65, x 66, x 67, x 68, x 69, x 70, x 71, x 72, x 73, x 74, x 75, x 76, x 77, x 78, x 79, x 80, x 81, x 82, x 83, x 84, x 85, x 86, x 87, x 88, x 89, x 90, x 91, x 92, x 93, x 94, x 95, x 96, x 97, x 98, x 99, x 100, x 101, x 102, x 103, x 104, x 105, x 106, x 107, x 108, x 109, x 110, x 111, x 112, x 113, x 114, x 115, x 116, x 117, x 118, x 119, x 120, x 121, x 122, x 123, x 124, x 125, x 126, x 127, x 128, x 129, x 130, x 131, x 132, x 133, x 134, x 135, x 136, x 137, x 138, x 139, x 140, x 141, x 142, x 143]) (k := a.tempi.l.length) ?_
    ⟨0, by omega, ?_, ?_, rfl, ex_x rfl⟩
  rotate_left
  · simp -implicitDefEqProofs (maxDischargeDepth := 12) only [WW,List.replicate,e_splice,if_true,if_false,ite_true,ite_false,true_or,ne_eq,seval,h_putc,beq_self_eq_true,eq_self,exists_eq_left,exists_eq_left']; rfl
  · simp -implicitDefEqProofs (maxDischargeDepth := 12) only [WW,List.replicate,e_splice,if_true,if_false,ite_true,ite_false,true_or,ne_eq,seval,h_putc,beq_self_eq_true,eq_self,exists_eq_left,exists_eq_left']; rfl
  rintro k t H ⟨i, hk, hA, hB, ht, x, rfl⟩
  simp only [a.enc_eq, b.enc_eq, c_agg] at hA hB
  by_cases c1 : (i : Int) < (a.tempi.l.length : Int)
  · obtain ⟨y, hy1⟩ : ∃ y, a.tempi.l[i]? = some y := ⟨_, List.getElem?_eq_getElem (by omega)⟩
    obtain ⟨z, hz1⟩ : ∃ y, b.tempi.l[i]? = some y := ⟨_, List.getElem?_eq_getElem (by omega)⟩
    have e2 : IntKind.i64.wrap ((i : Int) + 1) = ((i + 1 : Nat) : Int) := by rw [w64 (by omega) (by omega)]; omega
    by_cases c2 : y = z
    · subst c2
      simp -implicitDefEqProofs (maxDischargeDepth := 12) only [WW,List.replicate,e_splice,if_true,if_false,ite_true,ite_false,true_or,ne_eq,seval,h_putc,beq_self_eq_true,eq_self,exists_eq_left,exists_eq_left', hA, hB, c1, hy1, hz1, y.enc_eq, tempo_eq, e2]
      exact ⟨k - 1, by omega, i + 1, by omega, rfl, rfl, take_step hy1 hz1 ht, ex_x rfl⟩
    · rw [decide_eq_false (fun k : a.cn = b.cn => list_ne hy1 hz1 c2 (Measure.cn_tempi k))] at hr; subst hr
      simp -implicitDefEqProofs (maxDischargeDepth := 12) only [WW,List.replicate,e_splice,if_true,if_false,ite_true,ite_false,true_or,ne_eq,seval,h_putc,beq_self_eq_true,eq_self,exists_eq_left,exists_eq_left', hA, hB, c1, hy1, hz1, y.enc_eq, z.enc_eq, tempo_eq, c2]
      exact frz_sc
  have tempiE : a.tempi.l = b.tempi.l := by rw [List.take_of_length_le (by omega), List.take_of_length_le (by omega)] at ht; exact ht
  simp -implicitDefEqProofs (maxDischargeDepth := 12) only [WW,List.replicate,e_splice,if_true,if_false,ite_true,ite_false,true_or,ne_eq,seval,h_putc,beq_self_eq_true,eq_self,exists_eq_left,exists_eq_left', hA, hB, c1]
  refine wp_loop (Inv := fun k t H => ∃ (i : Nat), i + k = a.cells.l.length ∧ H.cells 0 = some a.enc.cells ∧ H.cells 1 = some b.enc.cells ∧ (a.cells.l.take i).map Cell.cn = (b.cells.l.take i).map Cell.cn ∧
    ∃ x : Nat → AV, t = [a.enc, b.enc, .ptr 0 0, .ptr 1 0, .sc (.bool false), x 5, .sc (.int .i64 i), x 7, x 8, x 9, x 10, x 11, x 12, x 13, x 14, x 15, x 16, x 17, x 18, x 19, x 20, x 21, x 22, x 23, x 24, x 25, x 26, x 27, x 28, x 29, x 30, x 31, x 32, x 33, x 34, x 35, x 36, x 37, x 38, x 39, x 40, x 41, x 42, x 43, x 44, x 45, x 46, x 47, x 48, x 49, x 50, x 51, x 52, x 53, x 54, x 55, x 56, x 57, x 58, x 59, x 60, x 61, x 62, x 63, x 64, x 65, x 66, x 67, x 68, x 69, x 70, x 71, x 72, x 73, x 74, x 75, x 76, x 77, x 78, x 79, x 80, x 81, x 82, x 83, x 84, x 85, x 86, x 87, x 88, x 89, x 90, x 91, x 92, x 93, x 94, x 95, x 96, x 97, x 98, x 99, x 100, x 101, x 102, x 103, x 104, x 105, x 106, x 107, x 108, x 109, x 110, x 111, x 112, x 113, x 114, x 115, x 116, x 117, x 118, x 119, x 120, x 121, x 122, x 123, x 124, x 125, x 126, x 127, x 128, x 129, x 130, x 131, x 132, x 133, x 134, x 135, x 136, x 137, x 138, x 139, x 140, x 141, x 142, x 143]) (k := a.cells.l.length) ?_
    ⟨0, by omega, hA, hB, rfl, ex_x rfl⟩
  clear hA hB ht x c1 hk
  rintro k t H ⟨i, hk, hA, hB, ht, x, rfl⟩
  simp only [a.enc_eq, b.enc_eq, c_agg] at hA hB
  by_cases c1 : (i : Int) < (a.cells.l.length : Int)
  · obtain ⟨y, hy1⟩ : ∃ y, a.cells.l[i]? = some y := ⟨_, List.getElem?_eq_getElem (by omega)⟩
    obtain ⟨z, hz1⟩ : ∃ y, b.cells.l[i]? = some y := ⟨_, List.getElem?_eq_getElem (by omega)⟩
    have e2 : IntKind.i64.wrap ((i : Int) + 1) = ((i + 1 : Nat) : Int) := by rw [w64 (by omega) (by omega)]; omega
    simp -implicitDefEqProofs (maxDischargeDepth := 12) only [WW,List.replicate,e_splice,if_true,if_false,ite_true,ite_false,true_or,ne_eq,seval,h_putc,beq_self_eq_true,eq_self,exists_eq_left,exists_eq_left', hA, hB, c1, hy1, hz1, y.enc_eq, z.enc_eq]
    rw [← y.enc_eq, ← z.enc_eq]
    refine wA_pure hp3 (sameCell_pv hp hp2 y z (b3 y (List.mem_of_getElem? hy1))) ?_
    by_cases c3 : y.cn = z.cn
    · simp -implicitDefEqProofs (maxDischargeDepth := 12) only [WW,List.replicate,e_splice,if_true,if_false,ite_true,ite_false,true_or,ne_eq,seval,h_putc,beq_self_eq_true,eq_self,exists_eq_left,exists_eq_left', eq_true c3, e2]
      exact ⟨k - 1, by omega, i + 1, by omega, hA, hB, map_step hy1 hz1 c3 ht, ex_x rfl⟩
    · rw [decide_eq_false (fun k : a.cn = b.cn => map_ne hy1 hz1 c3 (Measure.cn_cells k))] at hr; subst hr
      simp -implicitDefEqProofs (maxDischargeDepth := 12) only [WW,List.replicate,e_splice,if_true,if_false,ite_true,ite_false,true_or,ne_eq,seval,h_putc,beq_self_eq_true,eq_self,exists_eq_left,exists_eq_left', c3]
      exact frz_sc
  have cellsE : a.cells.l.map Cell.cn = b.cells.l.map Cell.cn := by rw [List.take_of_length_le (by omega), List.take_of_length_le (by omega)] at ht; exact ht
  simp -implicitDefEqProofs (maxDischargeDepth := 12) only [WW,List.replicate,e_splice,if_true,if_false,ite_true,ite_false,true_or,ne_eq,seval,h_putc,beq_self_eq_true,eq_self,exists_eq_left,exists_eq_left', hA, hB, c1]
  rw [decide_eq_true (Measure.cn_mk h1 h2 h3 h4 h5 h6 h7 h8 h9 h10 h11 h12 tempiE cellsE)] at hr; subst hr
  exact frz_sc
end Go.Hem
/- Walks: the reference's Same of scores. -/
set_option maxRecDepth 10000
set_option maxHeartbeats 4000000
set_option linter.unusedSimpArgs false
set_option linter.unusedVariables false
namespace Go.Hem
variable {pol : Pol}
def Part.cn (p : Part) : Part := { p with staves := Sl.of p.staves.l }
def Score.cn (s : Score) : Score := { s with parts := Sl.of (s.parts.l.map Part.cn), measures := Sl.of (s.measures.l.map Measure.cn), spanners := Sl.of s.spanners.l, last := Sl.of s.last.l }
def Part.tame (p : Part) : Prop := p.staves.l.length < 1000000
structure Score.tame (s : Score) : Prop where
  parts : s.parts.l.length < 1000000
  part : ∀ p ∈ s.parts.l, p.tame
  measures : s.measures.l.length < 1000000
  measure : ∀ m ∈ s.measures.l, m.tame
  spanners : s.spanners.l.length < 1000000
  last : s.last.l.length < 1000000
theorem staff_eq {a b : Staff} : (decide (a.id.site = b.id.site) && (decide (a.id.number = b.id.number) && decide (a.clef = b.clef))) = decide (a = b) := by
  obtain ⟨⟨a1, a2⟩, a3⟩ := a
  obtain ⟨⟨b1, b2⟩, b3⟩ := b
  simp only [Staff.mk.injEq, ID.mk.injEq, Bool.decide_and, Bool.and_assoc]
theorem interval_eq {a b : Interval} : (decide (a.steps = b.steps) && decide (a.semitones = b.semitones)) = decide (a = b) := by
  cases a; cases b; simp only [Interval.mk.injEq, Bool.decide_and]
theorem spanner_eq {a b : Spanner} : (decide (a.id.site = b.id.site) && (decide (a.id.number = b.id.number) && (decide (a.kind = b.kind) && (decide (a.from_.site = b.from_.site) && (decide (a.from_.number = b.from_.number) && (decide (a.to.site = b.to.site) && decide (a.to.number = b.to.number))))))) = decide (a = b) := by
  obtain ⟨⟨a1, a2⟩, a3, ⟨a4, a5⟩, ⟨a6, a7⟩⟩ := a
  obtain ⟨⟨b1, b2⟩, b3, ⟨b4, b5⟩, ⟨b6, b7⟩⟩ := b
  simp only [Spanner.mk.injEq, ID.mk.injEq, Bool.decide_and, Bool.and_assoc]
theorem Part.cn_staves {a b : Part} (k : a.cn = b.cn) : a.staves.l = b.staves.l := by
  have := congrArg (fun m : Part => m.staves.l) k
  simpa only [Part.cn, l_of] using this
theorem Part.cn_mk {a b : Part} (h1 : a.id = b.id) (h2 : a.name = b.name) (h3 : a.transpose = b.transpose) (h4 : a.staves.l = b.staves.l) : a.cn = b.cn := by
  unfold Part.cn; rw [h1, h2, h3, h4]
theorem Score.cn_parts {a b : Score} (k : a.cn = b.cn) : a.parts.l.map Part.cn = b.parts.l.map Part.cn := by
  have := congrArg (fun m : Score => m.parts.l) k
  simpa only [Score.cn, l_of] using this
theorem Score.cn_measures {a b : Score} (k : a.cn = b.cn) : a.measures.l.map Measure.cn = b.measures.l.map Measure.cn := by
  have := congrArg (fun m : Score => m.measures.l) k
  simpa only [Score.cn, l_of] using this
theorem Score.cn_spanners {a b : Score} (k : a.cn = b.cn) : a.spanners.l = b.spanners.l := by
  have := congrArg (fun m : Score => m.spanners.l) k
  simpa only [Score.cn, l_of] using this
theorem Score.cn_last {a b : Score} (k : a.cn = b.cn) : a.last.l = b.last.l := by
  have := congrArg (fun m : Score => m.last.l) k
  simpa only [Score.cn, l_of] using this
theorem Score.cn_mk {a b : Score} (h1 : a.title = b.title) (h2 : a.written = b.written) (h3 : a.parts.l.map Part.cn = b.parts.l.map Part.cn) (h4 : a.measures.l.map Measure.cn = b.measures.l.map Measure.cn) (h5 : a.spanners.l = b.spanners.l) (h6 : a.last.l = b.last.l) : a.cn = b.cn := by
  unfold Score.cn; rw [h1, h2, h3, h4, h5, h6]
theorem same_pv (hp : pol.pure 99 = true) (hp2 : pol.pure 50 = true) (hp3 : pol.pure 113 = true) (hp4 : pol.pure 68 = true) (a b : Score) (ha : a.tame) : Pv prog pol 28 [a.enc, b.enc] (.sc (.bool (decide (a.cn = b.cn)))) := by
  refine Pv_of' ok28 (by simp only [AV.closedBs, Score.enc_closed, Bool.and_self]) ?_
  obtain ⟨b1, b2, b3, b4, b5, b6⟩ := ha
  generalize hr : decide (a.cn = b.cn) = r
  simp -implicitDefEqProofs (maxDischargeDepth := 12) only [wpF, cf28, WW,List.replicate,e_splice,if_true,if_false,ite_true,ite_false,true_or,ne_eq,seval,h_putc,beq_self_eq_true,eq_self,exists_eq_left,exists_eq_left', a.enc_eq, b.enc_eq, bool_dec, id_eq, metre_eq, toList_eq]
  by_cases h1 : a.title = b.title
  rotate_left
  · rw [decide_eq_false (fun k : a.cn = b.cn => h1 ((congrArg Score.title k : a.cn.title = b.cn.title)))] at hr; subst hr
    simp -implicitDefEqProofs (maxDischargeDepth := 12) only [WW,List.replicate,e_splice,if_true,if_false,ite_true,ite_false,true_or,ne_eq,seval,h_putc,beq_self_eq_true,eq_self,exists_eq_left,exists_eq_left', h1, bool_dec, id_eq, metre_eq, toList_eq]
    exact frz_sc
  simp -implicitDefEqProofs (maxDischargeDepth := 12) only [WW,List.replicate,e_splice,if_true,if_false,ite_true,ite_false,true_or,ne_eq,seval,h_putc,beq_self_eq_true,eq_self,exists_eq_left,exists_eq_left', eq_true h1, bool_dec, id_eq, metre_eq, toList_eq]
  by_cases h2 : a.written = b.written
  rotate_left
  · rw [decide_eq_false (fun k : a.cn = b.cn => h2 ((congrArg Score.written k : a.cn.written = b.cn.written)))] at hr; subst hr
    simp -implicitDefEqProofs (maxDischargeDepth := 12) only [WW,List.replicate,e_splice,if_true,if_false,ite_true,ite_false,true_or,ne_eq,seval,h_putc,beq_self_eq_true,eq_self,exists_eq_left,exists_eq_left', h2, bool_dec, id_eq, metre_eq, toList_eq]
    exact frz_sc
  simp -implicitDefEqProofs (maxDischargeDepth := 12) only [WW,List.replicate,e_splice,if_true,if_false,ite_true,ite_false,true_or,ne_eq,seval,h_putc,beq_self_eq_true,eq_self,exists_eq_left,exists_eq_left', eq_true h2, bool_dec, id_eq, metre_eq, toList_eq]
  by_cases h3 : (a.parts.l.length : Int) = (b.parts.l.length : Int)
  rotate_left
  · rw [decide_eq_false (fun k : a.cn = b.cn => h3 (len_of_map (Score.cn_parts k)))] at hr; subst hr
    simp -implicitDefEqProofs (maxDischargeDepth := 12) only [WW,List.replicate,e_splice,if_true,if_false,ite_true,ite_false,true_or,ne_eq,seval,h_putc,beq_self_eq_true,eq_self,exists_eq_left,exists_eq_left', h3, bool_dec, id_eq, metre_eq, toList_eq]
    exact frz_sc
  simp -implicitDefEqProofs (maxDischargeDepth := 12) only [WW,List.replicate,e_splice,if_true,if_false,ite_true,ite_false,true_or,ne_eq,seval,h_putc,beq_self_eq_true,eq_self,exists_eq_left,exists_eq_left', eq_true h3, bool_dec, id_eq, metre_eq, toList_eq]
  by_cases h4 : (a.measures.l.length : Int) = (b.measures.l.length : Int)
  rotate_left
  · rw [decide_eq_false (fun k : a.cn = b.cn => h4 (len_of_map (Score.cn_measures k)))] at hr; subst hr
    simp -implicitDefEqProofs (maxDischargeDepth := 12) only [WW,List.replicate,e_splice,if_true,if_false,ite_true,ite_false,true_or,ne_eq,seval,h_putc,beq_self_eq_true,eq_self,exists_eq_left,exists_eq_left', h4, bool_dec, id_eq, metre_eq, toList_eq]
    exact frz_sc
  simp -implicitDefEqProofs (maxDischargeDepth := 12) only [WW,List.replicate,e_splice,if_true,if_false,ite_true,ite_false,true_or,ne_eq,seval,h_putc,beq_self_eq_true,eq_self,exists_eq_left,exists_eq_left', eq_true h4, bool_dec, id_eq, metre_eq, toList_eq]
  by_cases h5 : (a.spanners.l.length : Int) = (b.spanners.l.length : Int)
  rotate_left
  · rw [decide_eq_false (fun k : a.cn = b.cn => h5 (by rw [Score.cn_spanners k]))] at hr; subst hr
    simp -implicitDefEqProofs (maxDischargeDepth := 12) only [WW,List.replicate,e_splice,if_true,if_false,ite_true,ite_false,true_or,ne_eq,seval,h_putc,beq_self_eq_true,eq_self,exists_eq_left,exists_eq_left', h5, bool_dec, id_eq, metre_eq, toList_eq]
    exact frz_sc
  simp -implicitDefEqProofs (maxDischargeDepth := 12) only [WW,List.replicate,e_splice,if_true,if_false,ite_true,ite_false,true_or,ne_eq,seval,h_putc,beq_self_eq_true,eq_self,exists_eq_left,exists_eq_left', eq_true h5, bool_dec, id_eq, metre_eq, toList_eq]
  by_cases h6 : (a.last.l.length : Int) = (b.last.l.length : Int)
  rotate_left
  · rw [decide_eq_false (fun k : a.cn = b.cn => h6 (by rw [Score.cn_last k]))] at hr; subst hr
    simp -implicitDefEqProofs (maxDischargeDepth := 12) only [WW,List.replicate,e_splice,if_true,if_false,ite_true,ite_false,true_or,ne_eq,seval,h_putc,beq_self_eq_true,eq_self,exists_eq_left,exists_eq_left', h6, bool_dec, id_eq, metre_eq, toList_eq]
    exact frz_sc
  simp -implicitDefEqProofs (maxDischargeDepth := 12) only [WW,List.replicate,e_splice,if_true,if_false,ite_true,ite_false,true_or,ne_eq,seval,h_putc,beq_self_eq_true,eq_self,exists_eq_left,exists_eq_left', eq_true h6, bool_dec, id_eq, metre_eq, toList_eq]
  refine wp_loop (Inv := fun k t H => ∃ (i : Nat), i + k = a.parts.l.length ∧ H.cells 0 = some a.enc.cells ∧ H.cells 1 = some b.enc.cells ∧ (a.parts.l.take i).map Part.cn = (b.parts.l.take i).map Part.cn ∧
    ∃ x : Nat → AV, t = [a.enc, b.enc, .ptr 0 0, .ptr 1 0, .sc (.bool false), .sc (.int .i64 i), x 6, x 7, x 8, x 9, x 10, x 11, x 12, x 13, x 14, x 15, x 16, x 17, x 18, x 19, x 20, x 21, x 22, x 23, x 24, x 25, x 26, x 27, x 28, x 29, x 30, x 31, x 32, x 33, x 34, x 35, x 36, x 37, x 38, x 39, x 40, x 41, x 42, x 43, x 44, x 45, x 46, x 47, x 48, x 49, x 50, x 51, x 52, x 53, x 54, x 55, x 56, x 57, x 58, x 59, x 60, x 61, x 62, x 63, x 64, x 65, x 66, x 67, x 68, x 69, x 70, x 71, x 72, x 73, x 74, x 75, x 76, x 77, x 78, x 79, x 80, x 81, x 82, x 83, x 84, x 85, x 86, x 87, x 88, x 89, x 90, x 91, x 92, x 93, x 94, x 95, x 96, x 97, x 98, x 99, x 100, x 101, x 102, x 103, x 104, x 105, x 106, x 107, x 108, x 109, x 110, x 111, x 112, x 113, x 114, x 115, x 116, x 117, x 118, x 119, x 120, x 121, x 122, x 123, x 124, x 125, x 126, x 127, x 128, x 129, x 130, x 131, x 132, x 133, x 134, x 135, x 136, x 137, x 138, x 139, x 140, x 141, x 142, x 143, x 144, x 145, x 146, x 147, x 148, x 149, x 150, x 151, x 152, x 153, x 154, x 155, x 156, x 157, x 158, x 159, x 160, x 161, x 162, x 163, x 164, x 165, x 166, x 167, x 168, x 169, x 170, x 171, x 172, x 173, x 174, x 175, x 176, x 177]) (k := a.parts.l.length) ?_
    ⟨0, by omega, ?_, ?_, rfl, ex_x rfl⟩
  rotate_left
  · simp -implicitDefEqProofs (maxDischargeDepth := 12) only [WW,List.replicate,e_splice,if_true,if_false,ite_true,ite_false,true_or,ne_eq,seval,h_putc,beq_self_eq_true,eq_self,exists_eq_left,exists_eq_left']; rfl
  · simp -implicitDefEqProofs (maxDischargeDepth := 12) only [WW,List.replicate,e_splice,if_true,if_false,ite_true,ite_false,true_or,ne_eq,seval,h_putc,beq_self_eq_true,eq_self,exists_eq_left,exists_eq_left']; rfl
  rintro k t H ⟨i, hk, hA, hB, ht, x, rfl⟩
  have g0 := h_lt hA
  have g1 := h_lt hB
  simp only [a.enc_eq, b.enc_eq, c_agg] at hA hB
  by_cases c1 : (i : Int) < (a.parts.l.length : Int)
  · obtain ⟨y, hy1⟩ : ∃ y, a.parts.l[i]? = some y := ⟨_, List.getElem?_eq_getElem (by omega)⟩
    obtain ⟨z, hz1⟩ : ∃ y, b.parts.l[i]? = some y := ⟨_, List.getElem?_eq_getElem (by omega)⟩
    have e2 : IntKind.i64.wrap ((i : Int) + 1) = ((i + 1 : Nat) : Int) := by rw [w64 (by omega) (by omega)]; omega
    have hty := b2 y (List.mem_of_getElem? hy1)
    have f0 : ¬ 0 = H.next := by omega
    have f1 : ¬ 1 = H.next := by omega
    have f2 : ¬ 0 = H.next + 1 := by omega
    have f3 : ¬ 1 = H.next + 1 := by omega
    have f4 : ¬ H.next = H.next + 1 := by omega
    have f5 : ¬ H.next = 0 := by omega
    have f6 : ¬ H.next = 1 := by omega
    simp -implicitDefEqProofs (maxDischargeDepth := 12) only [WW,List.replicate,e_splice,if_true,if_false,ite_true,ite_false,true_or,ne_eq,seval,h_putc,beq_self_eq_true,eq_self,exists_eq_left,exists_eq_left', hA, hB, c1, hy1, hz1, y.enc_eq, z.enc_eq, id_eq, interval_eq, toList_eq, f0, f1, f2, f3, f4, f5, f6]
    by_cases d0 : y.id = z.id
    rotate_left
    · rw [decide_eq_false (fun k => map_ne hy1 hz1 (fun e => d0 ((congrArg Part.id e : y.cn.id = z.cn.id))) (Score.cn_parts k))] at hr; subst hr
      simp -implicitDefEqProofs (maxDischargeDepth := 12) only [WW,List.replicate,e_splice,if_true,if_false,ite_true,ite_false,true_or,ne_eq,seval,h_putc,beq_self_eq_true,eq_self,exists_eq_left,exists_eq_left', d0, id_eq, interval_eq, toList_eq]
      exact frz_sc
    simp -implicitDefEqProofs (maxDischargeDepth := 12) only [WW,List.replicate,e_splice,if_true,if_false,ite_true,ite_false,true_or,ne_eq,seval,h_putc,beq_self_eq_true,eq_self,exists_eq_left,exists_eq_left', eq_true d0, id_eq, interval_eq, toList_eq, f0, f1, f2, f3, f4, f5, f6, hA, hB]
    by_cases d1 : y.name = z.name
    rotate_left
    · rw [decide_eq_false (fun k => map_ne hy1 hz1 (fun e => d1 ((congrArg Part.name e : y.cn.name = z.cn.name))) (Score.cn_parts k))] at hr; subst hr
      simp -implicitDefEqProofs (maxDischargeDepth := 12) only [WW,List.replicate,e_splice,if_true,if_false,ite_true,ite_false,true_or,ne_eq,seval,h_putc,beq_self_eq_true,eq_self,exists_eq_left,exists_eq_left', d1, id_eq, interval_eq, toList_eq]
      exact frz_sc
    simp -implicitDefEqProofs (maxDischargeDepth := 12) only [WW,List.replicate,e_splice,if_true,if_false,ite_true,ite_false,true_or,ne_eq,seval,h_putc,beq_self_eq_true,eq_self,exists_eq_left,exists_eq_left', eq_true d1, id_eq, interval_eq, toList_eq, f0, f1, f2, f3, f4, f5, f6, hA, hB]
    by_cases d2 : y.transpose = z.transpose
    rotate_left
    · rw [decide_eq_false (fun k => map_ne hy1 hz1 (fun e => d2 ((congrArg Part.transpose e : y.cn.transpose = z.cn.transpose))) (Score.cn_parts k))] at hr; subst hr
      simp -implicitDefEqProofs (maxDischargeDepth := 12) only [WW,List.replicate,e_splice,if_true,if_false,ite_true,ite_false,true_or,ne_eq,seval,h_putc,beq_self_eq_true,eq_self,exists_eq_left,exists_eq_left', d2, id_eq, interval_eq, toList_eq]
      exact frz_sc
    simp -implicitDefEqProofs (maxDischargeDepth := 12) only [WW,List.replicate,e_splice,if_true,if_false,ite_true,ite_false,true_or,ne_eq,seval,h_putc,beq_self_eq_true,eq_self,exists_eq_left,exists_eq_left', eq_true d2, id_eq, interval_eq, toList_eq, f0, f1, f2, f3, f4, f5, f6, hA, hB]
    by_cases d3 : (y.staves.l.length : Int) = (z.staves.l.length : Int)
    rotate_left
    · rw [decide_eq_false (fun k => map_ne hy1 hz1 (fun e => d3 (by rw [Part.cn_staves e])) (Score.cn_parts k))] at hr; subst hr
      simp -implicitDefEqProofs (maxDischargeDepth := 12) only [WW,List.replicate,e_splice,if_true,if_false,ite_true,ite_false,true_or,ne_eq,seval,h_putc,beq_self_eq_true,eq_self,exists_eq_left,exists_eq_left', d3, id_eq, interval_eq, toList_eq]
      exact frz_sc
    simp -implicitDefEqProofs (maxDischargeDepth := 12) only [WW,List.replicate,e_splice,if_true,if_false,ite_true,ite_false,true_or,ne_eq,seval,h_putc,beq_self_eq_true,eq_self,exists_eq_left,exists_eq_left', eq_true d3, id_eq, interval_eq, toList_eq, f0, f1, f2, f3, f4, f5, f6, hA, hB]
    generalize hq : H.next = q at *
    refine wp_loop (Inv := fun k' t H' => ∃ (j : Nat), j + k' = y.staves.l.length ∧ H'.cells 0 = some a.enc.cells ∧ H'.cells 1 = some b.enc.cells ∧ H'.cells q = some y.enc.cells ∧ H'.cells (q + 1) = some z.enc.cells ∧ y.staves.l.take j = z.staves.l.take j ∧
      ∃ x : Nat → AV, t = [a.enc, b.enc, .ptr 0 0, .ptr 1 0, .sc (.bool false), .sc (.int .i64 i), .ptr q 0, .ptr (q + 1) 0, .sc (.int .i64 j), x 9, x 10, x 11, x 12, x 13, x 14, x 15, x 16, x 17, x 18, x 19, x 20, x 21, x 22, x 23, x 24, x 25, x 26, x 27, x 28, x 29, x 30, x 31, x 32, x 33, x 34, x 35, x 36, x 37, x 38, x 39, x 40, x 41, x 42, x 43, x 44, x 45, x 46, x 47, x 48, x 49, x 50, x 51, x 52, x 53, x 54, x 55, x 56, x 57, x 58, x 59, x 60, x 61, x 62, x 63, x 64, x 65, x 66, x 67, x 68, x 69, x 70, x 71, x 72, x 73, x 74, x 75, x 76, x 77, x 78, x 79, x 80, x 81, x 82, x 83, x 84, x 85, x 86, x 87, x 88, x 89, x 90, x 91, x 92, x 93, x 94, x 95, x 96, x 97, x 98, x 99, x 100, x 101, x 102, x 103, x 104, x 105, x 106, x 107, x 108, x 109, x 110, x 111, x 112, x 113, x 114, x 115, x 116, x 117, x 118, x 119, x 120, x 121, x 122, x 123, x 124, x 125, x 126, x 127, x 128, x 129, x 130, x 131, x 132, x 133, x 134, x 135, x 136, x 137, x 138, x 139, x 140, x 141, x 142, x 143, x 144, x 145, x 146, x 147, x 148, x 149, x 150, x 151, x 152, x 153, x 154, x 155, x 156, x 157, x 158, x 159, x 160, x 161, x 162, x 163, x 164, x 165, x 166, x 167, x 168, x 169, x 170, x 171, x 172, x 173, x 174, x 175, x 176, x 177]) (k := y.staves.l.length) ?_
      ⟨0, by omega, ?_, ?_, ?_, ?_, rfl, ex_x rfl⟩
    rotate_left
    · simp -implicitDefEqProofs (maxDischargeDepth := 12) only [WW,List.replicate,e_splice,if_true,if_false,ite_true,ite_false,true_or,ne_eq,seval,h_putc,beq_self_eq_true,eq_self,exists_eq_left,exists_eq_left', hA, hB, f0, f1, f2, f3, f4, f5, f6, hq]; rfl
    · simp -implicitDefEqProofs (maxDischargeDepth := 12) only [WW,List.replicate,e_splice,if_true,if_false,ite_true,ite_false,true_or,ne_eq,seval,h_putc,beq_self_eq_true,eq_self,exists_eq_left,exists_eq_left', hA, hB, f0, f1, f2, f3, f4, f5, f6, hq]; rfl
    · simp -implicitDefEqProofs (maxDischargeDepth := 12) only [WW,List.replicate,e_splice,if_true,if_false,ite_true,ite_false,true_or,ne_eq,seval,h_putc,beq_self_eq_true,eq_self,exists_eq_left,exists_eq_left', hA, hB, f0, f1, f2, f3, f4, f5, f6, hq]; rfl
    · simp -implicitDefEqProofs (maxDischargeDepth := 12) only [WW,List.replicate,e_splice,if_true,if_false,ite_true,ite_false,true_or,ne_eq,seval,h_putc,beq_self_eq_true,eq_self,exists_eq_left,exists_eq_left', hA, hB, f0, f1, f2, f3, f4, f5, f6, hq]; rfl
    clear hA hB x
    rintro k' t H' ⟨j, hk', hA, hB, hY, hZ, hj, x, rfl⟩
    simp only [a.enc_eq, b.enc_eq, y.enc_eq, z.enc_eq, c_agg] at hA hB hY hZ
    by_cases c2 : (j : Int) < (y.staves.l.length : Int)
    · obtain ⟨u, hu⟩ : ∃ u, y.staves.l[j]? = some u := ⟨_, List.getElem?_eq_getElem (by omega)⟩
      obtain ⟨w, hw⟩ : ∃ w, z.staves.l[j]? = some w := ⟨_, List.getElem?_eq_getElem (by omega)⟩
      have e3 : IntKind.i64.wrap ((j : Int) + 1) = ((j + 1 : Nat) : Int) := by
        have : y.staves.l.length < 1000000 := hty
        rw [w64 (by omega) (by omega)]; omega
      by_cases c3 : u = w
      · subst c3
        simp -implicitDefEqProofs (maxDischargeDepth := 12) only [WW,List.replicate,e_splice,if_true,if_false,ite_true,ite_false,true_or,ne_eq,seval,h_putc,beq_self_eq_true,eq_self,exists_eq_left,exists_eq_left', hY, hZ, c2, hu, hw, u.enc_eq, staff_eq, e3]
        exact ⟨k' - 1, by omega, j + 1, by omega, hA, hB, rfl, rfl, take_step hu hw hj, ex_x rfl⟩
      · rw [decide_eq_false (fun k => map_ne hy1 hz1 (fun e => list_ne hu hw c3 (Part.cn_staves e)) (Score.cn_parts k))] at hr; subst hr
        simp -implicitDefEqProofs (maxDischargeDepth := 12) only [WW,List.replicate,e_splice,if_true,if_false,ite_true,ite_false,true_or,ne_eq,seval,h_putc,beq_self_eq_true,eq_self,exists_eq_left,exists_eq_left', hY, hZ, c2, hu, hw, u.enc_eq, w.enc_eq, staff_eq, c3]
        exact frz_sc
    · have hst : y.staves.l = z.staves.l := by rw [List.take_of_length_le (by omega), List.take_of_length_le (by omega)] at hj; exact hj
      simp -implicitDefEqProofs (maxDischargeDepth := 12) only [WW,List.replicate,e_splice,if_true,if_false,ite_true,ite_false,true_or,ne_eq,seval,h_putc,beq_self_eq_true,eq_self,exists_eq_left,exists_eq_left', hY, hZ, c2, e2]
      exact ⟨k - 1, by omega, i + 1, by omega, hA, hB, map_step hy1 hz1 (Part.cn_mk d0 d1 d2 hst) ht, ex_x rfl⟩
  have partsE : a.parts.l.map Part.cn = b.parts.l.map Part.cn := by rw [List.take_of_length_le (by omega), List.take_of_length_le (by omega)] at ht; exact ht
  simp -implicitDefEqProofs (maxDischargeDepth := 12) only [WW,List.replicate,e_splice,if_true,if_false,ite_true,ite_false,true_or,ne_eq,seval,h_putc,beq_self_eq_true,eq_self,exists_eq_left,exists_eq_left', hA, hB, c1]
  refine wp_loop (Inv := fun k t H => ∃ (i : Nat), i + k = a.measures.l.length ∧ H.cells 0 = some a.enc.cells ∧ H.cells 1 = some b.enc.cells ∧ (a.measures.l.take i).map Measure.cn = (b.measures.l.take i).map Measure.cn ∧
    ∃ x : Nat → AV, t = [a.enc, b.enc, .ptr 0 0, .ptr 1 0, .sc (.bool false), x 5, x 6, x 7, x 8, .sc (.int .i64 i), x 10, x 11, x 12, x 13, x 14, x 15, x 16, x 17, x 18, x 19, x 20, x 21, x 22, x 23, x 24, x 25, x 26, x 27, x 28, x 29, x 30, x 31, x 32, x 33, x 34, x 35, x 36, x 37, x 38, x 39, x 40, x 41, x 42, x 43, x 44, x 45, x 46, x 47, x 48, x 49, x 50, x 51, x 52, x 53, x 54, x 55, x 56, x 57, x 58, x 59, x 60, x 61, x 62, x 63, x 64, x 65, x 66, x 67, x 68, x 69, x 70, x 71, x 72, x 73, x 74, x 75, x 76, x 77, x 78, x 79, x 80, x 81, x 82, x 83, x 84, x 85, x 86, x 87, x 88, x 89, x 90, x 91, x 92, x 93, x 94, x 95, x 96, x 97, x 98, x 99, x 100, x 101, x 102, x 103, x 104, x 105, x 106, x 107, x 108, x 109, x 110, x 111, x 112, x 113, x 114, x 115, x 116, x 117, x 118, x 119, x 120, x 121, x 122, x 123, x 124, x 125, x 126, x 127, x 128, x 129, x 130, x 131, x 132, x 133, x 134, x 135, x 136, x 137, x 138, x 139, x 140, x 141, x 142, x 143, x 144, x 145, x 146, x 147, x 148, x 149, x 150, x 151, x 152, x 153, x 154, x 155, x 156, x 157, x 158, x 159, x 160, x 161, x 162, x 163, x 164, x 165, x 166, x 167, x 168, x 169, x 170, x 171, x 172, x 173, x 174, x 175, x 176, x 177]) (k := a.measures.l.length) ?_
    ⟨0, by omega, hA, hB, rfl, ex_x rfl⟩
  clear hA hB ht x c1 hk g0 g1
  rintro k t H ⟨i, hk, hA, hB, ht, x, rfl⟩
  simp only [a.enc_eq, b.enc_eq, c_agg] at hA hB
  by_cases c1 : (i : Int) < (a.measures.l.length : Int)
  · obtain ⟨y, hy1⟩ : ∃ y, a.measures.l[i]? = some y := ⟨_, List.getElem?_eq_getElem (by omega)⟩
    obtain ⟨z, hz1⟩ : ∃ y, b.measures.l[i]? = some y := ⟨_, List.getElem?_eq_getElem (by omega)⟩
    have e2 : IntKind.i64.wrap ((i : Int) + 1) = ((i + 1 : Nat) : Int) := by rw [w64 (by omega) (by omega)]; omega
    simp -implicitDefEqProofs (maxDischargeDepth := 12) only [WW,List.replicate,e_splice,if_true,if_false,ite_true,ite_false,true_or,ne_eq,seval,h_putc,beq_self_eq_true,eq_self,exists_eq_left,exists_eq_left', hA, hB, c1, hy1, hz1, y.enc_eq, z.enc_eq]
    rw [← y.enc_eq, ← z.enc_eq]
    refine wA_pure hp4 (sameMeasure_pv hp hp2 hp3 y z (b4 y (List.mem_of_getElem? hy1))) ?_
    by_cases c3 : y.cn = z.cn
    · simp -implicitDefEqProofs (maxDischargeDepth := 12) only [WW,List.replicate,e_splice,if_true,if_false,ite_true,ite_false,true_or,ne_eq,seval,h_putc,beq_self_eq_true,eq_self,exists_eq_left,exists_eq_left', eq_true c3, e2]
      exact ⟨k - 1, by omega, i + 1, by omega, hA, hB, map_step hy1 hz1 c3 ht, ex_x rfl⟩
    · rw [decide_eq_false (fun k : a.cn = b.cn => map_ne hy1 hz1 c3 (Score.cn_measures k))] at hr; subst hr
      simp -implicitDefEqProofs (maxDischargeDepth := 12) only [WW,List.replicate,e_splice,if_true,if_false,ite_true,ite_false,true_or,ne_eq,seval,h_putc,beq_self_eq_true,eq_self,exists_eq_left,exists_eq_left', c3]
      exact frz_sc
  have measuresE : a.measures.l.map Measure.cn = b.measures.l.map Measure.cn := by rw [List.take_of_length_le (by omega), List.take_of_length_le (by omega)] at ht; exact ht
  simp -implicitDefEqProofs (maxDischargeDepth := 12) only [WW,List.replicate,e_splice,if_true,if_false,ite_true,ite_false,true_or,ne_eq,seval,h_putc,beq_self_eq_true,eq_self,exists_eq_left,exists_eq_left', hA, hB, c1]
  refine wp_loop (Inv := fun k t H => ∃ (i : Nat), i + k = a.spanners.l.length ∧ H.cells 0 = some a.enc.cells ∧ H.cells 1 = some b.enc.cells ∧ a.spanners.l.take i = b.spanners.l.take i ∧
    ∃ x : Nat → AV, t = [a.enc, b.enc, .ptr 0 0, .ptr 1 0, .sc (.bool false), x 5, x 6, x 7, x 8, x 9, .sc (.int .i64 i), x 11, x 12, x 13, x 14, x 15, x 16, x 17, x 18, x 19, x 20, x 21, x 22, x 23, x 24, x 25, x 26, x 27, x 28, x 29, x 30, x 31, x 32, x 33, x 34, x 35, x 36, x 37, x 38, x 39, x 40, x 41, x 42, x 43, x 44, x 45, x 46, x 47, x 48, x 49, x 50, x 51, x 52, x 53, x 54, x 55, x 56, x 57, x 58, x 59, x 60, x 61, x 62, x 63, x 64, x 65, x 66, x 67, x 68, x 69, x 70, x 71, x 72, x 73, x 74, x 75, x 76, x 77, x 78, x 79, x 80, x 81, x 82, x 83, x 84, x 85, x 86, x 87, x 88, x 89, x 90, x 91, x 92, x 93, x 94, x 95, x 96, x 97, x 98, x 99, x 100, x 101, x 102, x 103, x 104, x 105, x 106, x 107, x 108, x 109, x 110, x 111, x 112, x 113, x 114, x 115, x 116, x 117, x 118, x 119, x 120, x 121, x 122, x 123, x 124, x 125, x 126, x 127, x 128, x 129, x 130, x 131, x 132, x 133, x 134, x 135, x 136, x 137, x 138, x 139, x 140, x 141, x 142, x 143, x 144, x 145, x 146, x 147, x 148, x 149, x 150, x 151, x 152, x 153, x 154, x 155, x 156, x 157, x 158, x 159, x 160, x 161, x 162, x 163, x 164, x 165, x 166, x 167, x 168, x 169, x 170, x 171, x 172, x 173, x 174, x 175, x 176, x 177]) (k := a.spanners.l.length) ?_
    ⟨0, by omega, hA, hB, rfl, ex_x rfl⟩
  clear hA hB ht x c1 hk
  rintro k t H ⟨i, hk, hA, hB, ht, x, rfl⟩
  simp only [a.enc_eq, b.enc_eq, c_agg] at hA hB
  by_cases c1 : (i : Int) < (a.spanners.l.length : Int)
  · obtain ⟨y, hy1⟩ : ∃ y, a.spanners.l[i]? = some y := ⟨_, List.getElem?_eq_getElem (by omega)⟩
    obtain ⟨z, hz1⟩ : ∃ y, b.spanners.l[i]? = some y := ⟨_, List.getElem?_eq_getElem (by omega)⟩
    have e2 : IntKind.i64.wrap ((i : Int) + 1) = ((i + 1 : Nat) : Int) := by rw [w64 (by omega) (by omega)]; omega
    by_cases c2 : y = z
    · subst c2
      simp -implicitDefEqProofs (maxDischargeDepth := 12) only [WW,List.replicate,e_splice,if_true,if_false,ite_true,ite_false,true_or,ne_eq,seval,h_putc,beq_self_eq_true,eq_self,exists_eq_left,exists_eq_left', hA, hB, c1, hy1, hz1, y.enc_eq, spanner_eq, e2]
      exact ⟨k - 1, by omega, i + 1, by omega, rfl, rfl, take_step hy1 hz1 ht, ex_x rfl⟩
    · rw [decide_eq_false (fun k : a.cn = b.cn => list_ne hy1 hz1 c2 (Score.cn_spanners k))] at hr; subst hr
      simp -implicitDefEqProofs (maxDischargeDepth := 12) only [WW,List.replicate,e_splice,if_true,if_false,ite_true,ite_false,true_or,ne_eq,seval,h_putc,beq_self_eq_true,eq_self,exists_eq_left,exists_eq_left', hA, hB, c1, hy1, hz1, y.enc_eq, z.enc_eq, spanner_eq, c2]
      exact frz_sc
  have spannersE : a.spanners.l = b.spanners.l := by rw [List.take_of_length_le (by omega), List.take_of_length_le (by omega)] at ht; exact ht
  simp -implicitDefEqProofs (maxDischargeDepth := 12) only [WW,List.replicate,e_splice,if_true,if_false,ite_true,ite_false,true_or,ne_eq,seval,h_putc,beq_self_eq_true,eq_self,exists_eq_left,exists_eq_left', hA, hB, c1]
  refine wp_loop (Inv := fun k t H => ∃ (i : Nat), i + k = a.last.l.length ∧ H.cells 0 = some a.enc.cells ∧ H.cells 1 = some b.enc.cells ∧ a.last.l.take i = b.last.l.take i ∧
    ∃ x : Nat → AV, t = [a.enc, b.enc, .ptr 0 0, .ptr 1 0, .sc (.bool false), x 5, x 6, x 7, x 8, x 9, x 10, .sc (.int .i64 i), x 12, x 13, x 14, x 15, x 16, x 17, x 18, x 19, x 20, x 21, x 22, x 23, x 24, x 25, x 26, x 27, x 28, x 29, x 30, x 31, x 32, x 33, x 34, x 35, x 36, x 37, x 38, x 39, x 40, x 41, x 42, x 43, x 44, x 45, x 46, x 47, x 48, x 49, x 50, x 51, x 52, x 53, x 54, x 55, x 56, x 57, x 58, x 59, x 60, x 61, x 62, x 63, x 64, x 65, x 66, x 67, x 68, x 69, x 70, x 71, x 72, x 73, x 74, x 75, x 76, x 77, x 78, x 79, x 80, x 81, x 82, x 83, x 84, x 85, x 86, x 87, x 88, x 89, x 90, x 91, x 92, x 93, x 94, x 95, x 96, x 97, x 98, x 99, x 100, x 101, x 102, x 103, x 104, x 105, x 106, x 107, x 108, x 109, x 110, x 111, x 112, x 113, x 114, x 115, x 116, x 117, x 118, x 119, x 120, x 121, x 122, x 123, x 124, x 125, x 126, x 127, x 128, x 129, x 130, x 131, x 132, x 133, x 134, x 135, x 136, x 137, x 138, x 139, x 140, x 141, x 142, x 143, x 144, x 145, x 146, x 147, x 148, x 149, x 150, x 151, x 152, x 153, x 154, x 155, x 156, x 157, x 158, x 159, x 160, x 161, x 162, x 163, x 164, x 165, x 166, x 167, x 168, x 169, x 170, x 171, x 172, x 173, x 174, x 175, x 176, x 177]) (k := a.last.l.length) ?_
    ⟨0, by omega, hA, hB, rfl, ex_x rfl⟩
  clear hA hB ht x c1 hk
  rintro k t H ⟨i, hk, hA, hB, ht, x, rfl⟩
  simp only [a.enc_eq, b.enc_eq, c_agg] at hA hB
  by_cases c1 : (i : Int) < (a.last.l.length : Int)
  · obtain ⟨y, hy1⟩ : ∃ y, a.last.l[i]? = some y := ⟨_, List.getElem?_eq_getElem (by omega)⟩
    obtain ⟨z, hz1⟩ : ∃ y, b.last.l[i]? = some y := ⟨_, List.getElem?_eq_getElem (by omega)⟩
    have e2 : IntKind.i64.wrap ((i : Int) + 1) = ((i + 1 : Nat) : Int) := by rw [w64 (by omega) (by omega)]; omega
    by_cases c2 : y = z
    · subst c2
      simp -implicitDefEqProofs (maxDischargeDepth := 12) only [WW,List.replicate,e_splice,if_true,if_false,ite_true,ite_false,true_or,ne_eq,seval,h_putc,beq_self_eq_true,eq_self,exists_eq_left,exists_eq_left', hA, hB, c1, hy1, hz1, y.enc_eq, id_eq, e2]
      exact ⟨k - 1, by omega, i + 1, by omega, rfl, rfl, take_step hy1 hz1 ht, ex_x rfl⟩
    · rw [decide_eq_false (fun k : a.cn = b.cn => list_ne hy1 hz1 c2 (Score.cn_last k))] at hr; subst hr
      simp -implicitDefEqProofs (maxDischargeDepth := 12) only [WW,List.replicate,e_splice,if_true,if_false,ite_true,ite_false,true_or,ne_eq,seval,h_putc,beq_self_eq_true,eq_self,exists_eq_left,exists_eq_left', hA, hB, c1, hy1, hz1, y.enc_eq, z.enc_eq, id_eq, c2]
      exact frz_sc
  have lastE : a.last.l = b.last.l := by rw [List.take_of_length_le (by omega), List.take_of_length_le (by omega)] at ht; exact ht
  simp -implicitDefEqProofs (maxDischargeDepth := 12) only [WW,List.replicate,e_splice,if_true,if_false,ite_true,ite_false,true_or,ne_eq,seval,h_putc,beq_self_eq_true,eq_self,exists_eq_left,exists_eq_left', hA, hB, c1]
  rw [decide_eq_true (Score.cn_mk h1 h2 partsE measuresE spannersE lastE)] at hr; subst hr
  exact frz_sc
end Go.Hem
/- Walks: slices.Equal, slices.EqualFunc, whatever the elements. -/
set_option maxRecDepth 10000
set_option maxHeartbeats 4000000
set_option linter.unusedSimpArgs false
set_option linter.unusedVariables false
namespace Go.Hem
variable {pol : Pol}
end Go.Hem
/- Walks: the program's Equal of scores. -/
set_option maxRecDepth 10000
set_option maxHeartbeats 4000000
set_option linter.unusedSimpArgs false
set_option linter.unusedVariables false
namespace Go.Hem
variable {pol : Pol}
def Measure.pl (m : Measure) : Measure := { m with tempi := none, cells := none }
theorem Measure.cn_iff {a b : Measure} : a.cn = b.cn ↔ a.pl = b.pl ∧ a.tempi.l = b.tempi.l ∧ a.cells.l.map Cell.cn = b.cells.l.map Cell.cn := by
  unfold Measure.cn Measure.pl; simp only [Measure.mk.injEq, of_inj, and_true, and_assoc]
end Go.Hem
/- Walks: slices.Clone, whatever the elements; event.Clone. -/
set_option maxRecDepth 10000
set_option maxHeartbeats 4000000
set_option linter.unusedSimpArgs false
set_option linter.unusedVariables false
namespace Go.Hem
variable {pol : Pol}
def sclCode (n bytes : Nat) : CF := ⟨.seq (.ops [⟨some 2, none, .mv (.const (.slice none 0 0)), []⟩]) (.seq (.seq (.ops [⟨some 3, none, .mv (.tmp 0), []⟩, ⟨some 4, none, .bnil false .slice (.tmp 3) (.const (.slice none 0 0)), []⟩]) (.cond (.tmp 4) (.seq (.ops [⟨some 2, none, .mv (.const (.slice none 0 0)), []⟩]) .ret) .skip)) (.seq (.ops [⟨some 5, none, .eslice 0 n, []⟩, ⟨some 6, none, .mv (.tmp 0), []⟩, ⟨some 7, none, .app n bytes (.tmp 5) (.tmp 6), []⟩, ⟨some 2, none, .mv (.tmp 7), []⟩]) .ret)), 8, [.tmp 2]⟩
/-- A copy of a list of plain elements: fresh, what lies below stays. -/
def Fresh (H0 H' : AHeap) (fp : List Nat) : Prop := (∀ b ∈ fp, H0.next ≤ b) ∧ H0.next ≤ H'.next ∧ Keep H0.next H0 H'
theorem sclone_ok {α : Type} {f : α → AV} {n bytes : Nat} {fn : FuncId} (row : RowOf n f) (hlen : ∀ x, (f x).cells.length = n) (hsc : ∀ x, (f x).cells.all AV.isSc = true) (hf : compF prog fn = some (sclCode n bytes)) (a : Sl α) (ha : a.l.length < 1000000) (hb : bytes ≤ 1000) (H0 : AHeap) :
    Ev prog pol (.call fn [slm f a]) H0 fun o H' => ∃ v fp, o = .val v ∧ AccX false 1 n f H' v a fp ∧ Fresh H0 H' fp := by
  refine (wpF_ok hf (Q := fun v H' => ∃ fp, AccX false 1 n f H' v a fp ∧ Fresh H0 H' fp) ?_).mono ?_
  rotate_left
  · rintro o H' ⟨v, rfl, fp, h⟩; exact ⟨v, fp, rfl, h⟩
  cases a with
  | none =>
    simp -implicitDefEqProofs (maxDischargeDepth := 12) only [wpF, sclCode, WW,List.replicate,e_splice,if_true,if_false,ite_true,ite_false,true_or,ne_eq,seval,h_putc,beq_self_eq_true,eq_self,exists_eq_left,exists_eq_left', Option.isNone_none, Bool.bne_false]
    exact ⟨[], acc_none, by simp, Nat.le_refl _, Keep.refl⟩
  | some l =>
    simp only [Sl.l, Option.getD_some] at ha
    have e1 : alen (slm f (some l)) = some l.length := by rw [e_alenm]; rfl
    have e2 : asrc n (H0.alloc (.cells [])) (slm f (some l)) l.length = some (l.flatMap fun v => (f v).cells) := by
      rw [e_srcm hlen (by simp [Sl.l])]; simp [Sl.l]
    have hbig : (2 * (0 + l.length) + 1000) * bytes ≤ 2 ^ 47 := by
      have : (2 * (0 + l.length) + 1000) * bytes ≤ (2 * (0 + l.length) + 1000) * 1000 := Nat.mul_le_mul_left _ hb
      omega
    have own : ∀ H, OwnL (OwnX false 1) H (l.flatMap fun x => (f x).cells) (l.flatMap fun x => (f x).cells) [] := fun H => OwnL.scal (by
      simp only [List.all_eq_true]
      intro v hv
      obtain ⟨x, _, hx⟩ := List.mem_flatMap.1 hv
      exact List.all_eq_true.1 (hsc x) v hx)
    by_cases h0 : l = []
    · subst h0
      have e1' : alen (slm f (some [])) = some 0 := rfl
      have e2' : asrc n (H0.alloc (.cells [])) (slm f (some [])) 0 = some [] := by simpa using e2
      have sp : splice [] 0 [] = ([] : List AV) := rfl
      simp -implicitDefEqProofs (maxDischargeDepth := 12) only [wpF, sclCode, WW,List.replicate,e_splice,if_true,if_false,ite_true,ite_false,true_or,ne_eq,seval,h_putc,beq_self_eq_true,eq_self,exists_eq_left,exists_eq_left', Option.isNone_some, Bool.bne_false, appTo, e1', e2', Nat.zero_mul, sp]
      refine ⟨[H0.next], .inr ⟨H0.next, 0, [], [], [], [], rfl, rfl, Nat.le_refl _, ?_, by simp, by simp, .nil, by simp, rfl⟩, by simp, by simp, (by repeat (first | exact Keep.refl | refine Keep.put (by (try simp only [AHeap.next_alloc, AHeap.next_put]); omega) ?_ | refine Keep.alloc (by (try simp only [AHeap.next_alloc, AHeap.next_put]); omega) ?_))⟩
      simp -implicitDefEqProofs (maxDischargeDepth := 12) only [WW,List.replicate,e_splice,if_true,if_false,ite_true,ite_false,true_or,ne_eq,seval,h_putc,beq_self_eq_true,eq_self,exists_eq_left,exists_eq_left']
    · have h1 : ¬ l.length = 0 := by simpa using h0
      have h2 : ¬ (0 + l.length ≤ 0) := by omega
      have h3 : ¬ (l.length ≤ 0) := by omega
      have hb2 := hbig
      rw [Nat.zero_add] at hb2
      simp -implicitDefEqProofs (maxDischargeDepth := 12) only [wpF, sclCode, WW,List.replicate,e_splice,if_true,if_false,ite_true,ite_false,true_or,ne_eq,seval,h_putc,beq_self_eq_true,eq_self,exists_eq_left,exists_eq_left', Option.isNone_some, Bool.bne_false, appTo, e1, e2, h2, h3, hbig, hb2, Nat.zero_mul]
      refine ⟨[H0.next + 1], .inr ⟨H0.next + 1, l.length, _, [], [], l, rfl, rfl, Nat.le_refl _, by simp -implicitDefEqProofs (maxDischargeDepth := 12) only [WW,List.replicate,e_splice,if_true,if_false,ite_true,ite_false,true_or,ne_eq,seval,h_putc,beq_self_eq_true,eq_self,exists_eq_left,exists_eq_left'], flat_len row l, by simp, own _, by simp, rfl⟩, by simp, by simp only [AHeap.next_alloc, AHeap.next_put]; omega, (by repeat (first | exact Keep.refl | refine Keep.put (by (try simp only [AHeap.next_alloc, AHeap.next_put]); omega) ?_ | refine Keep.alloc (by (try simp only [AHeap.next_alloc, AHeap.next_put]); omega) ?_))⟩
theorem row_Spanner' : RowOf 7 Spanner.enc := ⟨by decide, fun _ => ⟨rfl, rfl⟩⟩
theorem sclSpanner_ok (a : Sl Spanner) (ha : a.l.length < 1000000) (H0 : AHeap) : Ev prog pol (.call 84 [slm Spanner.enc a]) H0 fun o H' => ∃ v fp, o = .val v ∧ AccX false 1 7 Spanner.enc H' v a fp ∧ Fresh H0 H' fp :=
  sclone_ok row_Spanner' Spanner.enc_len (fun _ => rfl) (bytes := 56) ok84 a ha (by decide) H0
theorem row_ID' : RowOf 2 ID.enc := ⟨by decide, fun _ => ⟨rfl, rfl⟩⟩
theorem sclID_ok (a : Sl ID) (ha : a.l.length < 1000000) (H0 : AHeap) : Ev prog pol (.call 85 [slm ID.enc a]) H0 fun o H' => ∃ v fp, o = .val v ∧ AccX false 1 2 ID.enc H' v a fp ∧ Fresh H0 H' fp :=
  sclone_ok row_ID' ID.enc_len (fun _ => rfl) (bytes := 16) ok85 a ha (by decide) H0
theorem row_ClefChange' : RowOf 2 ClefChange.enc := ⟨by decide, fun _ => ⟨rfl, rfl⟩⟩
theorem sclClefChange_ok (a : Sl ClefChange) (ha : a.l.length < 1000000) (H0 : AHeap) : Ev prog pol (.call 117 [slm ClefChange.enc a]) H0 fun o H' => ∃ v fp, o = .val v ∧ AccX false 1 2 ClefChange.enc H' v a fp ∧ Fresh H0 H' fp :=
  sclone_ok row_ClefChange' ClefChange.enc_len (fun _ => rfl) (bytes := 16) ok117 a ha (by decide) H0
theorem row_Staff' : RowOf 3 Staff.enc := ⟨by decide, fun _ => ⟨rfl, rfl⟩⟩
theorem sclStaff_ok (a : Sl Staff) (ha : a.l.length < 1000000) (H0 : AHeap) : Ev prog pol (.call 123 [slm Staff.enc a]) H0 fun o H' => ∃ v fp, o = .val v ∧ AccX false 1 3 Staff.enc H' v a fp ∧ Fresh H0 H' fp :=
  sclone_ok row_Staff' Staff.enc_len (fun _ => rfl) (bytes := 24) ok123 a ha (by decide) H0
theorem row_Tempo' : RowOf 3 Tempo.enc := ⟨by decide, fun _ => ⟨rfl, rfl⟩⟩
theorem sclTempo_ok (a : Sl Tempo) (ha : a.l.length < 1000000) (H0 : AHeap) : Ev prog pol (.call 124 [slm Tempo.enc a]) H0 fun o H' => ∃ v fp, o = .val v ∧ AccX false 1 3 Tempo.enc H' v a fp ∧ Fresh H0 H' fp :=
  sclone_ok row_Tempo' Tempo.enc_len (fun _ => rfl) (bytes := 24) ok124 a ha (by decide) H0
theorem row_Head' : RowOf 5 Head.enc := ⟨by decide, fun _ => ⟨rfl, rfl⟩⟩
theorem sclHead_ok (a : Sl Head) (ha : a.l.length < 1000000) (H0 : AHeap) : Ev prog pol (.call 129 [slm Head.enc a]) H0 fun o H' => ∃ v fp, o = .val v ∧ AccX false 1 5 Head.enc H' v a fp ∧ Fresh H0 H' fp :=
  sclone_ok row_Head' Head.enc_len (fun _ => rfl) (bytes := 40) ok129 a ha (by decide) H0
theorem row_Grace' : RowOf 5 Grace.enc := ⟨by decide, fun _ => ⟨rfl, rfl⟩⟩
theorem sclGrace_ok (a : Sl Grace) (ha : a.l.length < 1000000) (H0 : AHeap) : Ev prog pol (.call 130 [slm Grace.enc a]) H0 fun o H' => ∃ v fp, o = .val v ∧ AccX false 1 5 Grace.enc H' v a fp ∧ Fresh H0 H' fp :=
  sclone_ok row_Grace' Grace.enc_len (fun _ => rfl) (bytes := 40) ok130 a ha (by decide) H0
theorem row_Syllable' : RowOf 2 Syllable.enc := ⟨by decide, fun _ => ⟨rfl, rfl⟩⟩
theorem sclSyllable_ok (a : Sl Syllable) (ha : a.l.length < 1000000) (H0 : AHeap) : Ev prog pol (.call 131 [slm Syllable.enc a]) H0 fun o H' => ∃ v fp, o = .val v ∧ AccX false 1 2 Syllable.enc H' v a fp ∧ Fresh H0 H' fp :=
  sclone_ok row_Syllable' Syllable.enc_len (fun _ => rfl) (bytes := 24) ok131 a ha (by decide) H0
theorem nq1 (q : Nat) : (q = q + 1) = False := by simp
theorem nq2 (q : Nat) : (q = q + 2) = False := by simp
theorem mq1 (q : Nat) : (q + 1 = q) = False := by simp
theorem mq2 (q : Nat) : (q + 2 = q) = False := by simp
theorem mq12 (q : Nat) : (q + 1 = q + 2) = False := by simp
theorem mq21 (q : Nat) : (q + 2 = q + 1) = False := by simp
theorem addq (q : Nat) : q + 1 + 1 = q + 2 := rfl
theorem eClone_ok (h1 : pol.pure 129 = false) (h2 : pol.pure 130 = false) (h3 : pol.pure 131 = false) (x : Event) (hx : x.tame) (H0 : AHeap) :
    Ev prog pol (.call 97 [x.enc]) H0 fun o H' => ∃ cs fp, o = .val (.agg cs) ∧ OwnL (OwnX false 2) H' cs x.enc.cells fp ∧ cs.length = 13 ∧ AV.ones cs = true ∧ Fresh H0 H' fp := by
  refine (wpF_ok ok97 (Q := fun v H' => ∃ cs fp, v = .agg cs ∧ OwnL (OwnX false 2) H' cs x.enc.cells fp ∧ cs.length = 13 ∧ AV.ones cs = true ∧ Fresh H0 H' fp) ?_).mono ?_
  rotate_left
  · rintro o H' ⟨v, rfl, cs, fp, rfl, h⟩; exact ⟨cs, fp, rfl, h⟩
  obtain ⟨b1, b2, b3⟩ := hx
  simp -implicitDefEqProofs (maxDischargeDepth := 12) only [wpF, cf97, WW,List.replicate,e_splice,if_true,if_false,ite_true,ite_false,true_or,ne_eq,seval,h_putc,beq_self_eq_true,eq_self,exists_eq_left,exists_eq_left', x.enc_eq, nq1, mq1, addq]
  refine wA_call h1 ((sclHead_ok x.heads b1 _).mono ?_)
  rintro o H1 ⟨v1, fp1, rfl, hA1, hF1, hN1, hK1⟩
  refine ⟨_, rfl, ?_⟩
  simp only [AHeap.next_alloc, addq] at hF1 hN1
  have c0 := hK1 H0.next (by simp only [AHeap.next_alloc]; omega)
  have c1 := hK1 (H0.next + 1) (by simp only [AHeap.next_alloc]; omega)
  simp -implicitDefEqProofs (maxDischargeDepth := 12) only [WW,List.replicate,e_splice,if_true,if_false,ite_true,ite_false,true_or,ne_eq,seval,h_putc,beq_self_eq_true,eq_self,exists_eq_left,exists_eq_left', nq1, mq1, addq] at c0 c1
  simp -implicitDefEqProofs (maxDischargeDepth := 12) only [WW,List.replicate,e_splice,if_true,if_false,ite_true,ite_false,true_or,ne_eq,seval,h_putc,beq_self_eq_true,eq_self,exists_eq_left,exists_eq_left', nq1, mq1, addq, c0, c1]
  have hK0 : Keep H0.next H0 H1 := fun b hb => by
    rw [hK1 b (by simp only [AHeap.next_alloc]; omega)]
    simp only [c_alloc_ne (show b ≠ H0.next by omega), c_alloc_ne (show b ≠ (H0.alloc _).next by simp only [AHeap.next_alloc]; omega)]
  clear hK1
  refine wA_call h2 ((sclGrace_ok x.graces b2 _).mono ?_)
  rintro o H2 ⟨v2, fp2, rfl, hA2, hF2, hN2, hK2⟩
  refine ⟨_, rfl, ?_⟩
  have d0 := (hK2 H0.next (by omega)).trans c0
  have d1 := (hK2 (H0.next + 1) (by omega)).trans c1
  simp -implicitDefEqProofs (maxDischargeDepth := 12) only [WW,List.replicate,e_splice,if_true,if_false,ite_true,ite_false,true_or,ne_eq,seval,h_putc,beq_self_eq_true,eq_self,exists_eq_left,exists_eq_left', nq1, mq1, addq, c0, c1, d0, d1]
  refine wA_call h3 ((sclSyllable_ok x.lyrics b3 _).mono ?_)
  rintro o H3 ⟨v3, fp3, rfl, hA3, hF3, hN3, hK3⟩
  refine ⟨_, rfl, ?_⟩
  have e0 := (hK3 H0.next (by omega)).trans d0
  have e1 := (hK3 (H0.next + 1) (by omega)).trans d1
  simp -implicitDefEqProofs (maxDischargeDepth := 12) only [WW,List.replicate,e_splice,if_true,if_false,ite_true,ite_false,true_or,ne_eq,seval,h_putc,beq_self_eq_true,eq_self,exists_eq_left,exists_eq_left', nq1, mq1, addq, e0, e1, hA1.one, hA1.cells, hA2.one, hA2.cells, hA3.one, hA3.cells]
  have l1 := hA1.lts
  have l2 := hA2.lts
  obtain ⟨g1, o1, k1⟩ := hA1.own row_Head'
  obtain ⟨g2, o2, k2⟩ := hA2.own row_Grace'
  obtain ⟨g3, o3, k3⟩ := hA3.own row_Syllable'
  have w1 : ∀ H', (∀ b, H0.next + 2 ≤ b → H'.cells b = H3.cells b) → OwnX false 2 H' v1 (slm Head.enc x.heads) g1 := fun H' hh => o1.frame fun b hb => by
    have := l1 b (k1 b hb)
    rw [hh b (hF1 b (k1 b hb)), hK3 b (by omega), hK2 b (by omega)]
  have w2 : ∀ H', (∀ b, H0.next + 2 ≤ b → H'.cells b = H3.cells b) → OwnX false 2 H' v2 (slm Grace.enc x.graces) g2 := fun H' hh => o2.frame fun b hb => by
    have := l2 b (k2 b hb)
    have := hF2 b (k2 b hb)
    rw [hh b (by omega), hK3 b (by omega)]
  have w3 : ∀ H', (∀ b, H0.next + 2 ≤ b → H'.cells b = H3.cells b) → OwnX false 2 H' v3 (slm Syllable.enc x.lyrics) g3 := fun H' hh => o3.frame fun b hb => by
    have := hF3 b (k3 b hb)
    rw [hh b (by omega)]
  have ap12 : Apart g1 g2 := fun b hb hb2 => by have := l1 b (k1 b hb); have := hF2 b (k2 b hb2); omega
  have ap13 : Apart g1 g3 := fun b hb hb2 => by have := l1 b (k1 b hb); have := hF3 b (k3 b hb2); omega
  have ap23 : Apart g2 g3 := fun b hb hb2 => by have := l2 b (k2 b hb); have := hF3 b (k3 b hb2); omega
  refine ⟨_, _, rfl, .cons OwnX.scal (.cons OwnX.scal (.cons OwnX.scal (.cons OwnX.scal (.cons OwnX.scal (.cons (w1 _ ?_) (.cons (w2 _ ?_) (.cons OwnX.scal (.cons OwnX.scal (.cons OwnX.scal (.cons (w3 _ ?_) (.cons OwnX.scal (.cons OwnX.scal .nil
    Apart.nil_left) Apart.nil_left) ?_) Apart.nil_left) Apart.nil_left) Apart.nil_left) ?_) ?_) Apart.nil_left) Apart.nil_left) Apart.nil_left) Apart.nil_left) Apart.nil_left, rfl, ?_, ?_, ?_, ?_⟩
  · exact fun b hb => by simp only [c_put_ne (show b ≠ H0.next by omega), c_put_ne (show b ≠ H0.next + 1 by omega)]
  · exact fun b hb => by simp only [c_put_ne (show b ≠ H0.next by omega), c_put_ne (show b ≠ H0.next + 1 by omega)]
  · exact fun b hb => by simp only [c_put_ne (show b ≠ H0.next by omega), c_put_ne (show b ≠ H0.next + 1 by omega)]
  · simpa using Apart.nil_right
  · simpa using ap23
  · simpa using ap12.app_right ap13
  · simp only [AV.ones, List.all_cons, List.all_nil, o_int, hA1.one, hA2.one, hA3.one, Bool.and_self]
  · intro b hb
    simp only [List.nil_append, List.append_nil, List.mem_append] at hb
    rcases hb with h | h | h
    · have := hF1 b (k1 b h); omega
    · have := hF2 b (k2 b h); omega
    · have := hF3 b (k3 b h); omega
  · simp only [AHeap.next_put]; omega
  · intro b hb
    simp only [c_put_ne (show b ≠ H0.next by omega), c_put_ne (show b ≠ H0.next + 1 by omega)]
    rw [hK3 b (by omega), hK2 b (by omega), hK0 b hb]
end Go.Hem
/- Walks: part, voice.Clone. -/
set_option maxRecDepth 10000
set_option maxHeartbeats 4000000
set_option linter.unusedSimpArgs false
set_option linter.unusedVariables false
namespace Go.Hem
variable {pol : Pol}
/-- A copy whose cells own their blocks. -/
def ClPost (d n : Nat) (H0 : AHeap) (u : AV) (o : Out) (H' : AHeap) : Prop := ∃ cs fp, o = .val (.agg cs) ∧ OwnL (OwnX false d) H' cs u.cells fp ∧ cs.length = n ∧ AV.ones cs = true ∧ Fresh H0 H' fp
theorem pClone_ok (h1 : pol.pure 123 = false) (x : Part) (hx : x.tame) (H0 : AHeap) : Ev prog pol (.call 78 [x.enc]) H0 (ClPost 2 6 H0 x.enc) := by
  refine (wpF_ok ok78 (Q := fun v H' => ∃ cs fp, v = .agg cs ∧ OwnL (OwnX false 2) H' cs x.enc.cells fp ∧ cs.length = 6 ∧ AV.ones cs = true ∧ Fresh H0 H' fp) ?_).mono ?_
  rotate_left
  · rintro o H' ⟨v, rfl, cs, fp, rfl, h⟩; exact ⟨cs, fp, rfl, h⟩
  simp -implicitDefEqProofs (maxDischargeDepth := 12) only [wpF, cf78, WW,List.replicate,e_splice,if_true,if_false,ite_true,ite_false,true_or,ne_eq,seval,h_putc,beq_self_eq_true,eq_self,exists_eq_left,exists_eq_left', x.enc_eq, nq1, mq1, addq]
  refine wA_call h1 ((sclStaff_ok x.staves hx _).mono ?_)
  rintro o H1 ⟨v1, fp1, rfl, hA1, hF1, hN1, hK1⟩
  refine ⟨_, rfl, ?_⟩
  simp only [AHeap.next_alloc, addq] at hF1 hN1
  have c0 := hK1 H0.next (by simp only [AHeap.next_alloc]; omega)
  have c1 := hK1 (H0.next + 1) (by simp only [AHeap.next_alloc]; omega)
  simp -implicitDefEqProofs (maxDischargeDepth := 12) only [WW,List.replicate,e_splice,if_true,if_false,ite_true,ite_false,true_or,ne_eq,seval,h_putc,beq_self_eq_true,eq_self,exists_eq_left,exists_eq_left', nq1, mq1, addq] at c0 c1
  simp -implicitDefEqProofs (maxDischargeDepth := 12) only [WW,List.replicate,e_splice,if_true,if_false,ite_true,ite_false,true_or,ne_eq,seval,h_putc,beq_self_eq_true,eq_self,exists_eq_left,exists_eq_left', nq1, mq1, addq, c0, c1, hA1.one, hA1.cells]
  have hK0 : Keep H0.next H0 H1 := fun b hb => by
    rw [hK1 b (by simp only [AHeap.next_alloc]; omega)]
    simp only [c_alloc_ne (show b ≠ H0.next by omega), c_alloc_ne (show b ≠ (H0.alloc _).next by simp only [AHeap.next_alloc]; omega)]
  obtain ⟨g1, o1, k1⟩ := hA1.own row_Staff'
  refine ⟨_, _, rfl, .cons OwnX.scal (.cons OwnX.scal (.cons OwnX.scal (.cons OwnX.scal (.cons OwnX.scal (.cons (o1.frame fun b hb => ?_) .nil Apart.nil_right) Apart.nil_left) Apart.nil_left) Apart.nil_left) Apart.nil_left) Apart.nil_left, rfl, ?_, ?_, ?_, ?_⟩
  · have := hF1 b (k1 b hb)
    simp only [c_put_ne (show b ≠ H0.next by omega), c_put_ne (show b ≠ H0.next + 1 by omega)]
  · simp only [AV.ones, List.all_cons, List.all_nil, o_int, o_str, hA1.one, Bool.and_self]
  · intro b hb
    simp only [List.nil_append, List.append_nil] at hb
    have := hF1 b (k1 b hb); omega
  · simp only [AHeap.next_put]; omega
  · intro b hb
    simp only [c_put_ne (show b ≠ H0.next by omega), c_put_ne (show b ≠ H0.next + 1 by omega)]
    rw [hK0 b hb]
def Voice.cl (v : Voice) : Voice := { events := Sl.of v.events.l, tuplets := Sl.of v.tuplets.l }
theorem of_take_succ {α : Type} {l : List α} {i : Nat} {x : α} (h : l[i]? = some x) : (some ((Sl.of (l.take i)).l ++ [x]) : Sl α) = Sl.of (l.take (i + 1)) := by
  rw [l_of, List.take_add_one, h]
  unfold Sl.of
  rw [if_neg (by simp)]; rfl
theorem ones_take {l : List AV} {n : Nat} (h : l.length = n) : l.take n = l := List.take_of_length_le (by omega)
theorem vClone_ok (h0 : pol.pure 97 = false) (h1 : pol.pure 129 = false) (h2 : pol.pure 130 = false) (h3 : pol.pure 131 = false) (x : Voice) (hx : x.tame) (H0 : AHeap) : Ev prog pol (.call 118 [x.enc]) H0 (ClPost 3 2 H0 x.cl.enc) := by
  refine (wpF_ok ok118 (Q := fun v H' => ∃ cs fp, v = .agg cs ∧ OwnL (OwnX false 3) H' cs x.cl.enc.cells fp ∧ cs.length = 2 ∧ AV.ones cs = true ∧ Fresh H0 H' fp) ?_).mono ?_
  rotate_left
  · rintro o H' ⟨v, rfl, cs, fp, rfl, h⟩; exact ⟨cs, fp, rfl, h⟩
  obtain ⟨b1, b2, b3⟩ := hx
  generalize hq : H0.next = q
  simp -implicitDefEqProofs (maxDischargeDepth := 12) only [wpF, cf118, WW,List.replicate,e_splice,if_true,if_false,ite_true,ite_false,true_or,ne_eq,seval,h_putc,beq_self_eq_true,eq_self,exists_eq_left,exists_eq_left', x.enc_eq, nq1, mq1, addq, hq, nq2, mq2, mq12, mq21]
  refine wp_loop (Inv := fun k t H => ∃ (i : Nat) (fp : List Nat) (a : AV), i + k = x.events.l.length ∧ H.cells q = some [slm Event.enc x.events, slm Tuplet.enc x.tuplets] ∧ H.cells (q + 1) = some [.sc .nils, .sc .nils] ∧
    H.cells (q + 2) = some [a, .sc .nils] ∧ AccX false 2 13 Event.enc H a (Sl.of (x.events.l.take i)) fp ∧ (∀ b ∈ fp, q + 3 ≤ b) ∧ q + 3 ≤ H.next ∧ Keep q H0 H ∧
    ∃ y : Nat → AV, t = [.agg [slm Event.enc x.events, slm Tuplet.enc x.tuplets], .ptr q 0, .ptr (q + 1) 0, .ptr (q + 2) 0, y 4, y 5, y 6, slm Event.enc x.events, .sc (.int .i64 x.events.l.length), .sc (.int .i64 i), y 10, y 11, y 12, y 13, y 14, y 15, y 16, y 17, y 18, y 19, y 20, y 21, y 22, y 23, y 24, y 25, y 26, y 27]) (k := x.events.l.length) ?_
    ⟨0, [], _, by omega, ?_, ?_, ?_, acc_none, by simp, ?_, ?_, ex_x rfl⟩
  rotate_left
  · simp -implicitDefEqProofs (maxDischargeDepth := 12) only [WW,List.replicate,e_splice,if_true,if_false,ite_true,ite_false,true_or,ne_eq,seval,h_putc,beq_self_eq_true,eq_self,exists_eq_left,exists_eq_left', nq1, mq1, addq, hq, nq2, mq2, mq12, mq21]
  · simp -implicitDefEqProofs (maxDischargeDepth := 12) only [WW,List.replicate,e_splice,if_true,if_false,ite_true,ite_false,true_or,ne_eq,seval,h_putc,beq_self_eq_true,eq_self,exists_eq_left,exists_eq_left', nq1, mq1, addq, hq, nq2, mq2, mq12, mq21]
  · simp -implicitDefEqProofs (maxDischargeDepth := 12) only [WW,List.replicate,e_splice,if_true,if_false,ite_true,ite_false,true_or,ne_eq,seval,h_putc,beq_self_eq_true,eq_self,exists_eq_left,exists_eq_left', nq1, mq1, addq, hq, nq2, mq2, mq12, mq21]
  · simp only [AHeap.next_alloc, hq]; omega
  · subst hq; exact (by repeat (first | exact Keep.refl | refine Keep.put (by (try simp only [AHeap.next_alloc, AHeap.next_put]); omega) ?_ | refine Keep.alloc (by (try simp only [AHeap.next_alloc, AHeap.next_put]); omega) ?_))
  rintro k t H ⟨i, fp, a, hk, hA, hB, hC, hE, hfp, hN, hKp, y, rfl⟩
  have g0 : ¬ q = H.next := by omega
  have g1 : ¬ q + 1 = H.next := by omega
  have g2 : ¬ q + 2 = H.next := by omega
  have g3 : ¬ H.next = q := by omega
  have g4 : ¬ H.next = q + 1 := by omega
  have g5 : ¬ H.next = q + 2 := by omega
  by_cases c1 : (i : Int) < (x.events.l.length : Int)
  · obtain ⟨e, he⟩ : ∃ y, x.events.l[i]? = some y := ⟨_, List.getElem?_eq_getElem (by omega)⟩
    have e2 : IntKind.i64.wrap ((i : Int) + 1) = ((i + 1 : Nat) : Int) := by rw [w64 (by omega) (by omega)]; omega
    simp -implicitDefEqProofs (maxDischargeDepth := 12) only [WW,List.replicate,e_splice,if_true,if_false,ite_true,ite_false,true_or,ne_eq,seval,h_putc,beq_self_eq_true,eq_self,exists_eq_left,exists_eq_left', hA, hB, hC, c1, he, e.enc_eq, g0, g1, g2, g3, g4, g5]
    rw [← e.enc_eq]
    refine wA_call h0 ((eClone_ok h1 h2 h3 e (b3 e (List.mem_of_getElem? he)) _).mono ?_)
    rintro o H1 ⟨cs, fp1, rfl, ho, hl, hones, hF1, hN1, hK1⟩
    refine ⟨_, rfl, ?_⟩
    simp only [AHeap.next_alloc, AHeap.next_put] at hF1 hN1
    have d0 := hK1 q (by simp only [AHeap.next_alloc, AHeap.next_put]; omega)
    have d1 := hK1 (q + 1) (by simp only [AHeap.next_alloc, AHeap.next_put]; omega)
    have d2 := hK1 (q + 2) (by simp only [AHeap.next_alloc, AHeap.next_put]; omega)
    simp -implicitDefEqProofs (maxDischargeDepth := 12) only [WW,List.replicate,e_splice,if_true,if_false,ite_true,ite_false,true_or,ne_eq,seval,h_putc,beq_self_eq_true,eq_self,exists_eq_left,exists_eq_left', g0, g1, g2, g3, g4, g5, hA, hB, hC] at d0 d1 d2
    have hE1 : AccX false 2 13 Event.enc H1 a (Sl.of (x.events.l.take i)) fp := hE.fr fun b hb => by
      have := hE.lts b hb
      rw [hK1 b (by simp only [AHeap.next_alloc, AHeap.next_put]; omega), c_put_ne (by omega), c_alloc_ne (by omega)]
    have hK2 : Keep q H0 H1 := fun b hb => by
      rw [hK1 b (by simp only [AHeap.next_alloc, AHeap.next_put]; omega), c_put_ne (by omega), c_alloc_ne (by omega), hKp b hb]
    simp -implicitDefEqProofs (maxDischargeDepth := 12) only [WW,List.replicate,e_splice,if_true,if_false,ite_true,ite_false,true_or,ne_eq,seval,h_putc,beq_self_eq_true,eq_self,exists_eq_left,exists_eq_left', g0, g1, g2, g3, g4, g5, hA, hB, hC, d0, d1, d2, hl, hones, ones_take hl]
    have apf : Apart fp fp1 := fun b hb hb2 => by
      have := hE.lts b hb
      have := hF1 b hb2; omega
    refine wA_app2 row_Event hE1 (by repeat (first | exact Keep.refl | refine Keep.put (by (try simp only [AHeap.next_alloc, AHeap.next_put]); omega) ?_ | refine Keep.alloc (by (try simp only [AHeap.next_alloc, AHeap.next_put]); omega) ?_)) (by simp) (ys := [e]) (by simp) rfl (asrc_new rfl (by simpa using hl)) (fp1 := fp1) (by
      have : ([e].flatMap fun y => (Event.enc y).cells) = e.enc.cells := by simp
      rw [this]
      exact ho.fr fun b hb => c_alloc_ne (by have := ho.lts b hb; omega)) apf ?_ ?_
    · rw [l_of]; simp only [List.length_take, List.length_cons, List.length_nil]; omega
    intro v' H2 fp' hE' hn2 hk2 hfp2 ho2 hc2
    rw [of_take_succ he] at hE'
    have k0 := (hk2 q (fun h => by have := hfp q h; omega) (by omega)).trans d0
    have k1 := (hk2 (q + 1) (fun h => by have := hfp _ h; omega) (by omega)).trans d1
    have k2 := (hk2 (q + 2) (fun h => by have := hfp _ h; omega) (by omega)).trans d2
    have hfp3 : ∀ b ∈ fp', q + 3 ≤ b := fun b hb => by
      rcases hfp2 b hb with h | h | h
      · exact hfp b h
      · have := hF1 b h; omega
      · omega
    simp -implicitDefEqProofs (maxDischargeDepth := 12) only [WW,List.replicate,e_splice,if_true,if_false,ite_true,ite_false,true_or,ne_eq,seval,h_putc,beq_self_eq_true,eq_self,exists_eq_left,exists_eq_left', e2, k0, k1, k2, ho2, hc2, nq2, mq2, mq12, mq21, nq1, mq1]
    refine ⟨k - 1, by omega, i + 1, fp', v', by omega, rfl, hE'.fr fun b hb => h_put_ne (by have := hfp3 b hb; omega), hfp3, by omega, fun b hb => ?_, ex_x rfl⟩
    rw [h_put_ne (by omega), hk2 b (fun h => by have := hfp b h; omega) (by omega), hK2 b hb]
  · have hi : i = x.events.l.length := by omega
    subst hi
    rw [List.take_length] at hE
    have ea : alen (slm Tuplet.enc x.tuplets) = some x.tuplets.l.length := e_alenm
    have es : ∀ H, asrc 4 H (slm Tuplet.enc x.tuplets) x.tuplets.l.length = some (x.tuplets.l.flatMap fun v => (Tuplet.enc v).cells) := fun H => by
      rw [e_srcm Tuplet.enc_len (Nat.le_refl _), List.take_length]
    have hbig : (2 * x.tuplets.l.length + 1000) * 32 ≤ 2 ^ 47 := by omega
    obtain ⟨g, og, kg⟩ := hE.own row_Event
    by_cases h0 : x.tuplets.l = []
    · have h0' : x.tuplets.l.length = 0 := by rw [h0]; rfl
      have es0 : ∀ H, asrc 4 H (slm Tuplet.enc x.tuplets) 0 = some [] := fun H => by have := es H; rw [h0'] at this; rw [this, h0]; rfl
      simp -implicitDefEqProofs (maxDischargeDepth := 12) only [WW,List.replicate,e_splice,if_true,if_false,ite_true,ite_false,true_or,ne_eq,seval,h_putc,beq_self_eq_true,eq_self,exists_eq_left,exists_eq_left', hA, hB, hC, c1, appTo, ea, es0, h0', hE.one, hE.cells, nq1, nq2, mq1, mq2, mq12, mq21]
      refine ⟨_, _, rfl, .cons (og.frame fun b hb => ?_) (.cons (f := []) ?_ .nil Apart.nil_right) (by simpa using Apart.nil_right), rfl, ?_, ?_, ?_, ?_⟩
      · have := hfp b (kg b hb)
        simp only [c_put_ne (show b ≠ q + 2 by omega), c_put_ne (show b ≠ q + 1 by omega)]
      · have e : slm Tuplet.enc x.cl.tuplets = .sc .nils := by show slm Tuplet.enc (Sl.of x.tuplets.l) = _; rw [h0]; rfl
        rw [e]; exact OwnX.scal
      · simp only [AV.ones, List.all_cons, List.all_nil, hE.one, o_nils, Bool.and_self]
      · intro b hb
        simp only [List.append_nil] at hb
        have := hfp b (kg b hb); omega
      · simp only [AHeap.next_put]; omega
      · intro b hb
        simp only [c_put_ne (show b ≠ q + 2 by omega), c_put_ne (show b ≠ q + 1 by omega)]
        exact hKp b (by omega)
    · have h1' : ¬ x.tuplets.l.length = 0 := by simpa using h0
      have row4 : RowOf 4 Tuplet.enc := ⟨by decide, fun _ => ⟨rfl, rfl⟩⟩
      simp -implicitDefEqProofs (maxDischargeDepth := 12) only [WW,List.replicate,e_splice,if_true,if_false,ite_true,ite_false,true_or,ne_eq,seval,h_putc,beq_self_eq_true,eq_self,exists_eq_left,exists_eq_left', hA, hB, hC, c1, appTo, ea, es, h1', hbig, hE.one, hE.cells, nq1, nq2, mq1, mq2, mq12, mq21, g0, g1, g2, g3, g4, g5]
      have hT : AccX false 1 4 Tuplet.enc (H.alloc (.cells (x.tuplets.l.flatMap fun v => (Tuplet.enc v).cells))) (.slice H.next 0 x.tuplets.l.length x.tuplets.l.length 4) (Sl.of x.tuplets.l) [H.next] :=
        .inr ⟨H.next, _, _, [], [], x.tuplets.l, by unfold Sl.of; rw [if_neg (by simpa using h0)], rfl, Nat.le_refl _, by simp -implicitDefEqProofs (maxDischargeDepth := 12) only [WW,List.replicate,e_splice,if_true,if_false,ite_true,ite_false,true_or,ne_eq,seval,h_putc,beq_self_eq_true,eq_self,exists_eq_left,exists_eq_left'], flat_len row4 _, by simp, OwnL.scal (by
          simp only [List.all_eq_true]
          intro v hv
          obtain ⟨z, _, hz⟩ := List.mem_flatMap.1 hv
          have : (Tuplet.enc z).cells.all AV.isSc = true := rfl
          exact List.all_eq_true.1 this v hz), by simp, rfl⟩
      obtain ⟨gt, ot, kt⟩ := hT.own row4
      refine ⟨_, _, rfl, .cons (og.frame fun b hb => ?_) (.cons ((ot.mono (by decide)).frame fun b hb => ?_) .nil Apart.nil_right) ?_, rfl, ?_, ?_, ?_, ?_⟩
      · have := hfp b (kg b hb)
        have := hE.lts b (kg b hb)
        simp only [c_put_ne (show b ≠ q + 2 by omega), c_put_ne (show b ≠ q + 1 by omega), c_alloc_ne (show b ≠ H.next by omega)]
      · have := kt b hb
        simp only [List.mem_singleton] at this
        simp only [c_put_ne (show b ≠ q + 2 by omega), c_put_ne (show b ≠ q + 1 by omega)]
      · intro b hb hb2
        simp only [List.append_nil] at hb2
        have := hE.lts b (kg b hb)
        have := kt b hb2
        simp only [List.mem_singleton] at this
        omega
      · simp only [AV.ones, List.all_cons, List.all_nil, hE.one, o_slice, Bool.and_self]
      · intro b hb
        simp only [List.append_nil, List.mem_append] at hb
        rcases hb with h | h
        · have := hfp b (kg b h); omega
        · have := kt b h
          simp only [List.mem_singleton] at this
          omega
      · simp only [AHeap.next_put, AHeap.next_alloc]; omega
      · intro b hb
        simp only [c_put_ne (show b ≠ q + 2 by omega), c_put_ne (show b ≠ q + 1 by omega), c_alloc_ne (show b ≠ H.next by omega)]
        exact hKp b (by omega)
end Go.Hem
/- Walks: measure.CloneCell, measure.Clone. -/
set_option maxRecDepth 10000
set_option maxHeartbeats 4000000
set_option linter.unusedSimpArgs false
set_option linter.unusedVariables false
namespace Go.Hem
variable {pol : Pol}
/-- The functions of Clone are run where their results may be changed. -/
def ClPol (pol : Pol) : Prop := ∀ f ∈ [39, 75, 78, 83, 84, 85, 97, 117, 118, 123, 124, 129, 130, 131], pol.pure f = false
def Cell.cl (c : Cell) : Cell := { clefs := c.clefs, voices := Sl.of (c.voices.l.map Voice.cl) }
theorem of_map_succ {α β : Type} {g : α → β} {l : List α} {i : Nat} {x : α} (h : l[i]? = some x) : (some ((Sl.of ((l.take i).map g)).l ++ [g x]) : Sl β) = Sl.of ((l.take (i + 1)).map g) := by
  rw [l_of, List.take_add_one, h]
  unfold Sl.of
  rw [if_neg (by simp)]; simp
theorem ClPost.own {d n : Nat} {H0 H' : AHeap} {u : AV} {o : Out} (h : ClPost d n H0 u o H') : ∃ cs fp, o = .val (.agg cs) ∧ OwnL (OwnX false d) H' cs u.cells fp ∧ cs.length = n ∧ AV.ones cs = true ∧ Fresh H0 H' fp := h
theorem cClone_ok (hc : ClPol pol) (x : Cell) (hx : x.tame) (H0 : AHeap) : Ev prog pol (.call 75 [x.enc]) H0 (ClPost 4 2 H0 x.cl.enc) := by
  refine (wpF_ok ok75 (Q := fun v H' => ∃ cs fp, v = .agg cs ∧ OwnL (OwnX false 4) H' cs x.cl.enc.cells fp ∧ cs.length = 2 ∧ AV.ones cs = true ∧ Fresh H0 H' fp) ?_).mono ?_
  rotate_left
  · rintro o H' ⟨v, rfl, cs, fp, rfl, h⟩; exact ⟨cs, fp, rfl, h⟩
  obtain ⟨b1, b2, b3⟩ := hx
  generalize hq : H0.next = q
  simp -implicitDefEqProofs (maxDischargeDepth := 12) only [wpF, cf75, WW,List.replicate,e_splice,if_true,if_false,ite_true,ite_false,true_or,ne_eq,seval,h_putc,beq_self_eq_true,eq_self,exists_eq_left,exists_eq_left', x.enc_eq, nq1, mq1, addq, hq, nq2, mq2, mq12, mq21]
  refine wA_call (hc _ (by decide)) ((sclClefChange_ok x.clefs b1 _).mono ?_)
  rintro o Hc ⟨vc, fpc, rfl, hAc, hFc, hNc, hKc⟩
  refine ⟨_, rfl, ?_⟩
  simp only [AHeap.next_alloc, addq, hq] at hFc hNc
  have a0 := hKc q (by simp only [AHeap.next_alloc, hq]; omega)
  have a1 := hKc (q + 1) (by simp only [AHeap.next_alloc, hq]; omega)
  simp -implicitDefEqProofs (maxDischargeDepth := 12) only [WW,List.replicate,e_splice,if_true,if_false,ite_true,ite_false,true_or,ne_eq,seval,h_putc,beq_self_eq_true,eq_self,exists_eq_left,exists_eq_left', nq1, mq1, addq, hq, nq2, mq2, mq12, mq21] at a0 a1
  have hK0 : Keep q H0 Hc := fun b hb => by
    rw [hKc b (by simp only [AHeap.next_alloc, hq]; omega)]
    simp only [c_alloc_ne (show b ≠ H0.next by omega), c_alloc_ne (show b ≠ (H0.alloc _).next by simp only [AHeap.next_alloc]; omega)]
  have lc := hAc.lts
  generalize hr : Hc.next = r
  rw [hr] at hNc
  have p0 : ¬ q = r := by omega
  have p1 : ¬ q + 1 = r := by omega
  have p2 : ¬ r = q := by omega
  have p3 : ¬ r = q + 1 := by omega
  simp -implicitDefEqProofs (maxDischargeDepth := 12) only [WW,List.replicate,e_splice,if_true,if_false,ite_true,ite_false,true_or,ne_eq,seval,h_putc,beq_self_eq_true,eq_self,exists_eq_left,exists_eq_left', nq1, mq1, addq, hq, hr, nq2, mq2, mq12, mq21, a0, a1, p0, p1, p2, p3, hAc.one, hAc.cells]
  refine wp_loop (Inv := fun k t H => ∃ (i : Nat) (fp : List Nat) (a : AV), i + k = x.voices.l.length ∧ H.cells q = some [slm ClefChange.enc x.clefs, slm Voice.enc x.voices] ∧ H.cells (q + 1) = some [.sc .nils, .sc .nils] ∧
    H.cells r = some [vc, a] ∧ AccX false 1 2 ClefChange.enc H vc x.clefs fpc ∧ AccX false 3 2 Voice.enc H a (Sl.of ((x.voices.l.take i).map Voice.cl)) fp ∧ (∀ b ∈ fp, r + 1 ≤ b) ∧ r + 1 ≤ H.next ∧ Keep q H0 H ∧
    ∃ y : Nat → AV, t = [.agg [slm ClefChange.enc x.clefs, slm Voice.enc x.voices], .ptr q 0, .ptr (q + 1) 0, .ptr r 0, y 4, y 5, y 6, y 7, y 8, y 9, y 10, slm Voice.enc x.voices, .sc (.int .i64 x.voices.l.length), .sc (.int .i64 i), y 14, y 15, y 16, y 17, y 18, y 19, y 20, y 21, y 22, y 23, y 24, y 25]) (k := x.voices.l.length) ?_
    ⟨0, [], _, by omega, ?_, ?_, ?_, ?_, acc_none, by simp, ?_, ?_, ex_x rfl⟩
  rotate_left
  · simp -implicitDefEqProofs (maxDischargeDepth := 12) only [WW,List.replicate,e_splice,if_true,if_false,ite_true,ite_false,true_or,ne_eq,seval,h_putc,beq_self_eq_true,eq_self,exists_eq_left,exists_eq_left', nq1, mq1, addq, hq, hr, nq2, mq2, mq12, mq21, a0, a1, p0, p1, p2, p3]
  · simp -implicitDefEqProofs (maxDischargeDepth := 12) only [WW,List.replicate,e_splice,if_true,if_false,ite_true,ite_false,true_or,ne_eq,seval,h_putc,beq_self_eq_true,eq_self,exists_eq_left,exists_eq_left', nq1, mq1, addq, hq, hr, nq2, mq2, mq12, mq21, a0, a1, p0, p1, p2, p3]
  · simp -implicitDefEqProofs (maxDischargeDepth := 12) only [WW,List.replicate,e_splice,if_true,if_false,ite_true,ite_false,true_or,ne_eq,seval,h_putc,beq_self_eq_true,eq_self,exists_eq_left,exists_eq_left', nq1, mq1, addq, hq, hr, nq2, mq2, mq12, mq21, a0, a1, p0, p1, p2, p3]
  · exact hAc.fr fun b hb => by have := lc b hb; rw [c_put_ne (by omega), c_alloc_ne (by omega)]
  · simp only [AHeap.next_alloc, AHeap.next_put, hr]; omega
  · intro b hb; rw [c_put_ne (by omega), c_alloc_ne (by omega), hK0 b hb]
  clear a0 a1 hAc
  rintro k t H ⟨i, fp, a, hk, hA, hB, hC, hAc, hE, hfp, hN, hKp, y, rfl⟩
  have g0 : ¬ q = H.next := by omega
  have g1 : ¬ q + 1 = H.next := by omega
  have g2 : ¬ r = H.next := by omega
  have g3 : ¬ H.next = q := by omega
  have g4 : ¬ H.next = q + 1 := by omega
  have g5 : ¬ H.next = r := by omega
  by_cases c1 : (i : Int) < (x.voices.l.length : Int)
  · obtain ⟨e, he⟩ : ∃ y, x.voices.l[i]? = some y := ⟨_, List.getElem?_eq_getElem (by omega)⟩
    have e2 : IntKind.i64.wrap ((i : Int) + 1) = ((i + 1 : Nat) : Int) := by rw [w64 (by omega) (by omega)]; omega
    simp -implicitDefEqProofs (maxDischargeDepth := 12) only [WW,List.replicate,e_splice,if_true,if_false,ite_true,ite_false,true_or,ne_eq,seval,h_putc,beq_self_eq_true,eq_self,exists_eq_left,exists_eq_left', hA, hB, hC, c1, he, e.enc_eq, g0, g1, g2, g3, g4, g5, p0, p1, p2, p3]
    rw [← e.enc_eq]
    refine wA_call (hc _ (by decide)) ((vClone_ok (hc _ (by decide)) (hc _ (by decide)) (hc _ (by decide)) (hc _ (by decide)) e (b3 e (List.mem_of_getElem? he)) _).mono ?_)
    rintro o H1 ⟨cs, fp1, rfl, ho, hl, hones, hF1, hN1, hK1⟩
    refine ⟨_, rfl, ?_⟩
    simp only [AHeap.next_alloc, AHeap.next_put] at hF1 hN1
    have d0 := hK1 q (by simp only [AHeap.next_alloc, AHeap.next_put]; omega)
    have d1 := hK1 (q + 1) (by simp only [AHeap.next_alloc, AHeap.next_put]; omega)
    have d2 := hK1 r (by simp only [AHeap.next_alloc, AHeap.next_put]; omega)
    simp -implicitDefEqProofs (maxDischargeDepth := 12) only [WW,List.replicate,e_splice,if_true,if_false,ite_true,ite_false,true_or,ne_eq,seval,h_putc,beq_self_eq_true,eq_self,exists_eq_left,exists_eq_left', g0, g1, g2, g3, g4, g5, hA, hB, hC] at d0 d1 d2
    have hE1 : AccX false 3 2 Voice.enc H1 a (Sl.of ((x.voices.l.take i).map Voice.cl)) fp := hE.fr fun b hb => by
      have := hE.lts b hb
      rw [hK1 b (by simp only [AHeap.next_alloc, AHeap.next_put]; omega), c_put_ne (by omega), c_alloc_ne (by omega)]
    have hAc1 : AccX false 1 2 ClefChange.enc H1 vc x.clefs fpc := hAc.fr fun b hb => by
      have := lc b hb
      rw [hK1 b (by simp only [AHeap.next_alloc, AHeap.next_put]; omega), c_put_ne (by omega), c_alloc_ne (by omega)]
    have hK2 : Keep q H0 H1 := fun b hb => by
      rw [hK1 b (by simp only [AHeap.next_alloc, AHeap.next_put]; omega), c_put_ne (by omega), c_alloc_ne (by omega), hKp b hb]
    simp -implicitDefEqProofs (maxDischargeDepth := 12) only [WW,List.replicate,e_splice,if_true,if_false,ite_true,ite_false,true_or,ne_eq,seval,h_putc,beq_self_eq_true,eq_self,exists_eq_left,exists_eq_left', g0, g1, g2, g3, g4, g5, hA, hB, hC, d0, d1, d2, hl, hones, ones_take hl]
    have apf : Apart fp fp1 := fun b hb hb2 => by
      have := hE.lts b hb
      have := hF1 b hb2; omega
    refine wA_app2 row_Voice hE1 (by repeat (first | exact Keep.refl | refine Keep.put (by (try simp only [AHeap.next_alloc, AHeap.next_put]); omega) ?_ | refine Keep.alloc (by (try simp only [AHeap.next_alloc, AHeap.next_put]); omega) ?_)) (by simp) (ys := [e.cl]) (by simp) rfl (asrc_new rfl (by simpa using hl)) (fp1 := fp1) (by
      have : ([e.cl].flatMap fun y => (Voice.enc y).cells) = e.cl.enc.cells := by simp
      rw [this]
      exact ho.fr fun b hb => c_alloc_ne (by have := ho.lts b hb; omega)) apf ?_ ?_
    · rw [l_of]; simp only [List.length_map, List.length_take, List.length_cons, List.length_nil]; omega
    intro v' H2 fp' hE' hn2 hk2 hfp2 ho2 hc2
    rw [of_map_succ he] at hE'
    have k0 := (hk2 q (fun h => by have := hfp q h; omega) (by omega)).trans d0
    have k1 := (hk2 (q + 1) (fun h => by have := hfp _ h; omega) (by omega)).trans d1
    have k2 := (hk2 r (fun h => by have := hfp _ h; omega) (by omega)).trans d2
    have hfp3 : ∀ b ∈ fp', r + 1 ≤ b := fun b hb => by
      rcases hfp2 b hb with h | h | h
      · exact hfp b h
      · have := hF1 b h; omega
      · omega
    simp -implicitDefEqProofs (maxDischargeDepth := 12) only [WW,List.replicate,e_splice,if_true,if_false,ite_true,ite_false,true_or,ne_eq,seval,h_putc,beq_self_eq_true,eq_self,exists_eq_left,exists_eq_left', e2, k0, k1, k2, ho2, hc2, nq2, mq2, mq12, mq21, nq1, mq1, p0, p1, p2, p3]
    refine ⟨k - 1, by omega, i + 1, fp', v', by omega, rfl, hAc1.fr fun b hb => ?_, hE'.fr fun b hb => h_put_ne (by have := hfp3 b hb; omega), hfp3, by omega, fun b hb => ?_, ex_x rfl⟩
    · have := lc b hb
      rw [h_put_ne (by omega), hk2 b (fun h => by have := hfp b h; omega) (by omega)]
    rw [h_put_ne (by omega), hk2 b (fun h => by have := hfp b h; omega) (by omega), hK2 b hb]
  · have hi : i = x.voices.l.length := by omega
    subst hi
    rw [List.take_length] at hE
    obtain ⟨g, og, kg⟩ := hE.own row_Voice
    obtain ⟨gc, oc, kc⟩ := hAc.own row_ClefChange'
    simp -implicitDefEqProofs (maxDischargeDepth := 12) only [WW,List.replicate,e_splice,if_true,if_false,ite_true,ite_false,true_or,ne_eq,seval,h_putc,beq_self_eq_true,eq_self,exists_eq_left,exists_eq_left', hA, hB, hC, c1, hE.one, hE.cells, hAc.one, hAc.cells, nq1, nq2, mq1, mq2, mq12, mq21, p0, p1, p2, p3]
    refine ⟨_, _, rfl, .cons ((oc.mono (by decide)).frame fun b hb => ?_) (.cons (og.frame fun b hb => ?_) .nil Apart.nil_right) ?_, rfl, ?_, ?_, ?_, ?_⟩
    · have := hFc b (kc b hb)
      simp only [c_put_ne (show b ≠ q + 1 by omega)]
    · have := hfp b (kg b hb)
      simp only [c_put_ne (show b ≠ q + 1 by omega)]
    · intro b hb hb2
      simp only [List.append_nil] at hb2
      have := lc b (kc b hb)
      have := hfp b (kg b hb2)
      omega
    · simp only [AV.ones, List.all_cons, List.all_nil, hE.one, hAc.one, Bool.and_self]
    · intro b hb
      simp only [List.append_nil, List.mem_append] at hb
      rcases hb with h | h
      · have := hFc b (kc b h); omega
      · have := hfp b (kg b h); omega
    · simp only [AHeap.next_put]; omega
    · intro b hb
      simp only [c_put_ne (show b ≠ q + 1 by omega)]
      exact hKp b (by omega)
end Go.Hem
/- Walks: measure.Clone. -/
set_option maxRecDepth 10000
set_option maxHeartbeats 4000000
set_option linter.unusedSimpArgs false
set_option linter.unusedVariables false
namespace Go.Hem
variable {pol : Pol}
def Measure.cl (m : Measure) : Measure := { m with cells := Sl.of (m.cells.l.map Cell.cl) }
theorem mClone_ok (hc : ClPol pol) (x : Measure) (hx : x.tame) (H0 : AHeap) : Ev prog pol (.call 83 [x.enc]) H0 (ClPost 5 22 H0 x.cl.enc) := by
  refine (wpF_ok ok83 (Q := fun v H' => ∃ cs fp, v = .agg cs ∧ OwnL (OwnX false 5) H' cs x.cl.enc.cells fp ∧ cs.length = 22 ∧ AV.ones cs = true ∧ Fresh H0 H' fp) ?_).mono ?_
  rotate_left
  · rintro o H' ⟨v, rfl, cs, fp, rfl, h⟩; exact ⟨cs, fp, rfl, h⟩
  obtain ⟨b1, b2, b3⟩ := hx
  generalize hq : H0.next = q
  simp -implicitDefEqProofs (maxDischargeDepth := 12) only [wpF, cf83, WW,List.replicate,e_splice,if_true,if_false,ite_true,ite_false,true_or,ne_eq,seval,h_putc,beq_self_eq_true,eq_self,exists_eq_left,exists_eq_left', x.enc_eq, nq1, mq1, addq, hq, nq2, mq2, mq12, mq21]
  refine wA_call (hc _ (by decide)) ((sclTempo_ok x.tempi b1 _).mono ?_)
  rintro o Hc ⟨vc, fpc, rfl, hAc, hFc, hNc, hKc⟩
  refine ⟨_, rfl, ?_⟩
  simp only [AHeap.next_alloc, addq, hq] at hFc hNc
  have a0 := hKc q (by simp only [AHeap.next_alloc, hq]; omega)
  have a1 := hKc (q + 1) (by simp only [AHeap.next_alloc, hq]; omega)
  simp -implicitDefEqProofs (maxDischargeDepth := 12) only [WW,List.replicate,e_splice,if_true,if_false,ite_true,ite_false,true_or,ne_eq,seval,h_putc,beq_self_eq_true,eq_self,exists_eq_left,exists_eq_left', nq1, mq1, addq, hq, nq2, mq2, mq12, mq21] at a0 a1
  have hK0 : Keep q H0 Hc := fun b hb => by
    rw [hKc b (by simp only [AHeap.next_alloc, hq]; omega)]
    simp only [c_alloc_ne (show b ≠ H0.next by omega), c_alloc_ne (show b ≠ (H0.alloc _).next by simp only [AHeap.next_alloc]; omega)]
  have lc := hAc.lts
  simp -implicitDefEqProofs (maxDischargeDepth := 12) only [WW,List.replicate,e_splice,if_true,if_false,ite_true,ite_false,true_or,ne_eq,seval,h_putc,beq_self_eq_true,eq_self,exists_eq_left,exists_eq_left', nq1, mq1, addq, hq, nq2, mq2, mq12, mq21, a0, a1, hAc.one, hAc.cells]
  refine wp_loop (Inv := fun k t H => ∃ (i : Nat) (fp : List Nat) (a : AV), i + k = x.cells.l.length ∧ H.cells q = some [.sc (.int .i64 x.id.site), .sc (.int .i64 x.id.number), .sc (.int .i64 x.metre.count), .sc (.int .i64 x.metre.unit), .sc (.int .i64 x.metre.g0), .sc (.int .i64 x.metre.g1), .sc (.int .i64 x.metre.g2), .sc (.int .i64 x.metre.g3), .sc (.int .i64 x.metre.g4), .sc (.int .i64 x.metre.g5), .sc (.int .i64 x.length), .sc (.int .i64 x.fifths), .sc (.bool x.rstart), .sc (.int .i64 x.rend), .sc (.int .i64 x.endings), .sc (.int .i64 x.jump), .sc (.int .i64 x.labels), .sc (.int .i64 x.swing), .sc (.int .i64 x.brk), .sc (.str x.rehearsal), vc, a] ∧ H.cells (q + 1) = some [.sc (.int .i64 0), .sc (.int .i64 0), .sc (.int .i64 0), .sc (.int .i64 0), .sc (.int .i64 0), .sc (.int .i64 0), .sc (.int .i64 0), .sc (.int .i64 0), .sc (.int .i64 0), .sc (.int .i64 0), .sc (.int .i64 0), .sc (.int .i64 0), .sc (.bool false), .sc (.int .i64 0), .sc (.int .i64 0), .sc (.int .i64 0), .sc (.int .i64 0), .sc (.int .i64 0), .sc (.int .i64 0), .sc (.str ⟨#[]⟩), .sc .nils, .sc .nils] ∧
    AccX false 1 3 Tempo.enc H vc x.tempi fpc ∧ AccX false 4 2 Cell.enc H a (Sl.of ((x.cells.l.take i).map Cell.cl)) fp ∧ (∀ b ∈ fp, Hc.next ≤ b) ∧ Hc.next ≤ H.next ∧ Keep q H0 H ∧
    ∃ y : Nat → AV, t = [.agg [.sc (.int .i64 x.id.site), .sc (.int .i64 x.id.number), .sc (.int .i64 x.metre.count), .sc (.int .i64 x.metre.unit), .sc (.int .i64 x.metre.g0), .sc (.int .i64 x.metre.g1), .sc (.int .i64 x.metre.g2), .sc (.int .i64 x.metre.g3), .sc (.int .i64 x.metre.g4), .sc (.int .i64 x.metre.g5), .sc (.int .i64 x.length), .sc (.int .i64 x.fifths), .sc (.bool x.rstart), .sc (.int .i64 x.rend), .sc (.int .i64 x.endings), .sc (.int .i64 x.jump), .sc (.int .i64 x.labels), .sc (.int .i64 x.swing), .sc (.int .i64 x.brk), .sc (.str x.rehearsal), slm Tempo.enc x.tempi, slm Cell.enc x.cells], .ptr q 0, .ptr (q + 1) 0, slm Cell.enc x.cells, y 4, y 5, y 6, y 7, y 8, y 9, y 10, y 11, y 12, slm Cell.enc x.cells, .sc (.int .i64 x.cells.l.length), .sc (.int .i64 i), y 16, y 17, y 18, y 19, y 20, y 21, y 22, y 23, y 24, y 25, y 26, y 27]) (k := x.cells.l.length) ?_
    ⟨0, [], _, by omega, ?_, ?_, ?_, acc_none, by simp, ?_, ?_, ex_x rfl⟩
  rotate_left
  · simp -implicitDefEqProofs (maxDischargeDepth := 12) only [WW,List.replicate,e_splice,if_true,if_false,ite_true,ite_false,true_or,ne_eq,seval,h_putc,beq_self_eq_true,eq_self,exists_eq_left,exists_eq_left', nq1, mq1, addq, hq, nq2, mq2, mq12, mq21, a0, a1]
  · simp -implicitDefEqProofs (maxDischargeDepth := 12) only [WW,List.replicate,e_splice,if_true,if_false,ite_true,ite_false,true_or,ne_eq,seval,h_putc,beq_self_eq_true,eq_self,exists_eq_left,exists_eq_left', nq1, mq1, addq, hq, nq2, mq2, mq12, mq21, a0, a1]
  · exact hAc.fr fun b hb => by have := hFc b hb; rw [c_put_ne (by omega), c_put_ne (by omega)]
  · simp only [AHeap.next_alloc, AHeap.next_put]; omega
  · intro b hb; rw [c_put_ne (by omega), c_put_ne (by omega), hK0 b hb]
  clear a0 a1 hAc
  rintro k t H ⟨i, fp, a, hk, hA, hB, hAc, hE, hfp, hN, hKp, y, rfl⟩
  have g0 : ¬ q = H.next := by omega
  have g1 : ¬ q + 1 = H.next := by omega
  have g3 : ¬ H.next = q := by omega
  have g4 : ¬ H.next = q + 1 := by omega
  by_cases c1 : (i : Int) < (x.cells.l.length : Int)
  · obtain ⟨e, he⟩ : ∃ y, x.cells.l[i]? = some y := ⟨_, List.getElem?_eq_getElem (by omega)⟩
    have e2 : IntKind.i64.wrap ((i : Int) + 1) = ((i + 1 : Nat) : Int) := by rw [w64 (by omega) (by omega)]; omega
    simp -implicitDefEqProofs (maxDischargeDepth := 12) only [WW,List.replicate,e_splice,if_true,if_false,ite_true,ite_false,true_or,ne_eq,seval,h_putc,beq_self_eq_true,eq_self,exists_eq_left,exists_eq_left', hA, hB, c1, he, e.enc_eq, g0, g1, g3, g4]
    rw [← e.enc_eq]
    refine wA_call (hc _ (by decide)) ((cClone_ok hc e (b3 e (List.mem_of_getElem? he)) _).mono ?_)
    rintro o H1 ⟨cs, fp1, rfl, ho, hl, hones, hF1, hN1, hK1⟩
    refine ⟨_, rfl, ?_⟩
    simp only [AHeap.next_alloc, AHeap.next_put] at hF1 hN1
    have d0 := hK1 q (by simp only [AHeap.next_alloc, AHeap.next_put]; omega)
    have d1 := hK1 (q + 1) (by simp only [AHeap.next_alloc, AHeap.next_put]; omega)
    simp -implicitDefEqProofs (maxDischargeDepth := 12) only [WW,List.replicate,e_splice,if_true,if_false,ite_true,ite_false,true_or,ne_eq,seval,h_putc,beq_self_eq_true,eq_self,exists_eq_left,exists_eq_left', g0, g1, g3, g4, hA, hB] at d0 d1
    have hE1 : AccX false 4 2 Cell.enc H1 a (Sl.of ((x.cells.l.take i).map Cell.cl)) fp := hE.fr fun b hb => by
      have := hE.lts b hb
      rw [hK1 b (by simp only [AHeap.next_alloc, AHeap.next_put]; omega), c_put_ne (by omega), c_alloc_ne (by omega)]
    have hAc1 : AccX false 1 3 Tempo.enc H1 vc x.tempi fpc := hAc.fr fun b hb => by
      have := lc b hb
      rw [hK1 b (by simp only [AHeap.next_alloc, AHeap.next_put]; omega), c_put_ne (by omega), c_alloc_ne (by omega)]
    have hK2 : Keep q H0 H1 := fun b hb => by
      rw [hK1 b (by simp only [AHeap.next_alloc, AHeap.next_put]; omega), c_put_ne (by omega), c_alloc_ne (by omega), hKp b hb]
    simp -implicitDefEqProofs (maxDischargeDepth := 12) only [WW,List.replicate,e_splice,if_true,if_false,ite_true,ite_false,true_or,ne_eq,seval,h_putc,beq_self_eq_true,eq_self,exists_eq_left,exists_eq_left', g0, g1, g3, g4, hA, hB, d0, d1, hl, hones, ones_take hl]
    have apf : Apart fp fp1 := fun b hb hb2 => by
      have := hE.lts b hb
      have := hF1 b hb2; omega
    refine wA_app2 row_Cell hE1 (by repeat (first | exact Keep.refl | refine Keep.put (by (try simp only [AHeap.next_alloc, AHeap.next_put]); omega) ?_ | refine Keep.alloc (by (try simp only [AHeap.next_alloc, AHeap.next_put]); omega) ?_)) (by simp) (ys := [e.cl]) (by simp) rfl (asrc_new rfl (by simpa using hl)) (fp1 := fp1) (by
      have : ([e.cl].flatMap fun y => (Cell.enc y).cells) = e.cl.enc.cells := by simp
      rw [this]
      exact ho.fr fun b hb => c_alloc_ne (by have := ho.lts b hb; omega)) apf ?_ ?_
    · rw [l_of]; simp only [List.length_map, List.length_take, List.length_cons, List.length_nil]; omega
    intro v' H2 fp' hE' hn2 hk2 hfp2 ho2 hc2
    rw [of_map_succ he] at hE'
    have k0 := (hk2 q (fun h => by have := hfp q h; omega) (by omega)).trans d0
    have k1 := (hk2 (q + 1) (fun h => by have := hfp _ h; omega) (by omega)).trans d1
    have hfp3 : ∀ b ∈ fp', Hc.next ≤ b := fun b hb => by
      rcases hfp2 b hb with h | h | h
      · exact hfp b h
      · have := hF1 b h; omega
      · omega
    simp -implicitDefEqProofs (maxDischargeDepth := 12) only [WW,List.replicate,e_splice,if_true,if_false,ite_true,ite_false,true_or,ne_eq,seval,h_putc,beq_self_eq_true,eq_self,exists_eq_left,exists_eq_left', e2, k0, k1, ho2, hc2, nq2, mq2, mq12, mq21, nq1, mq1]
    refine ⟨k - 1, by omega, i + 1, fp', v', by omega, rfl, hAc1.fr fun b hb => ?_, hE'.fr fun b hb => h_put_ne (by have := hfp3 b hb; omega), hfp3, by omega, fun b hb => ?_, ex_x rfl⟩
    · have := lc b hb
      have := hFc b hb
      rw [h_put_ne (by omega), hk2 b (fun h => by have := hfp b h; omega) (by omega)]
    rw [h_put_ne (by omega), hk2 b (fun h => by have := hfp b h; omega) (by omega), hK2 b hb]
  · have hi : i = x.cells.l.length := by omega
    subst hi
    rw [List.take_length] at hE
    obtain ⟨g, og, kg⟩ := hE.own row_Cell
    obtain ⟨gc, oc, kc⟩ := hAc.own row_Tempo'
    simp -implicitDefEqProofs (maxDischargeDepth := 12) only [WW,List.replicate,e_splice,if_true,if_false,ite_true,ite_false,true_or,ne_eq,seval,h_putc,beq_self_eq_true,eq_self,exists_eq_left,exists_eq_left', hA, hB, c1, hE.one, hE.cells, hAc.one, hAc.cells, nq1, nq2, mq1, mq2, mq12, mq21]
    refine ⟨_, _, rfl, (.cons OwnX.scal (.cons OwnX.scal (.cons OwnX.scal (.cons OwnX.scal (.cons OwnX.scal (.cons OwnX.scal (.cons OwnX.scal (.cons OwnX.scal (.cons OwnX.scal (.cons OwnX.scal (.cons OwnX.scal (.cons OwnX.scal (.cons OwnX.scal (.cons OwnX.scal (.cons OwnX.scal (.cons OwnX.scal (.cons OwnX.scal (.cons OwnX.scal (.cons OwnX.scal (.cons OwnX.scal (.cons ((oc.mono (by decide)).frame fun b hb => ?_) (.cons (og.frame fun b hb => ?_) .nil Apart.nil_right) ?_) Apart.nil_left) Apart.nil_left) Apart.nil_left) Apart.nil_left) Apart.nil_left) Apart.nil_left) Apart.nil_left) Apart.nil_left) Apart.nil_left) Apart.nil_left) Apart.nil_left) Apart.nil_left) Apart.nil_left) Apart.nil_left) Apart.nil_left) Apart.nil_left) Apart.nil_left) Apart.nil_left) Apart.nil_left) Apart.nil_left), rfl, ?_, ?_, ?_, ?_⟩
    · have := hFc b (kc b hb)
      simp only [c_put_ne (show b ≠ q + 1 by omega)]
    · have := hfp b (kg b hb)
      simp only [c_put_ne (show b ≠ q + 1 by omega)]
    · intro b hb hb2
      simp only [List.append_nil] at hb2
      have := lc b (kc b hb)
      have := hfp b (kg b hb2)
      omega
    · simp only [AV.ones, List.all_cons, List.all_nil, o_int, o_bool, o_str, hE.one, hAc.one, Bool.and_self]
    · intro b hb
      simp only [List.nil_append, List.append_nil, List.mem_append] at hb
      rcases hb with h | h
      · have := hFc b (kc b h); omega
      · have := hfp b (kg b h); omega
    · simp only [AHeap.next_put]; omega
    · intro b hb
      simp only [c_put_ne (show b ≠ q + 1 by omega)]
      exact hKp b (by omega)
end Go.Hem
/- Walks: score.Clone. -/
set_option maxRecDepth 10000
set_option maxHeartbeats 4000000
set_option linter.unusedSimpArgs false
set_option linter.unusedVariables false
namespace Go.Hem
variable {pol : Pol}
def Score.cl (s : Score) : Score := { s with parts := some s.parts.l, measures := some (s.measures.l.map Measure.cl) }
theorem some_take_succ {α : Type} {l : List α} {i : Nat} {x : α} (h : l[i]? = some x) : (some (Sl.l (some (l.take i)) ++ [x]) : Sl α) = some (l.take (i + 1)) := by
  rw [List.take_add_one, h]; rfl
theorem some_map_succ {α β : Type} {g : α → β} {l : List α} {i : Nat} {x : α} (h : l[i]? = some x) : (some (Sl.l (some ((l.take i).map g)) ++ [g x]) : Sl β) = some ((l.take (i + 1)).map g) := by
  rw [List.take_add_one, h]; simp [Sl.l]
theorem acc_room {α : Type} {f : α → AV} {d n c b : Nat} {H : AHeap} {z : List AV} (hz : z.length = n) (h : H.cells b = some (rep c z)) : AccX false d n f H (.slice b 0 0 c n) (some []) [b] :=
  .inr ⟨b, c, [], rep c z, [], [], rfl, rfl, Nat.zero_le _, by simpa using h, by simp, by rw [len_rep, hz]; simp, .nil, by simp, rfl⟩
/-- The size of a slice's rows. -/
def RowN (n : Nat) (v : AV) : Prop := ∀ b off len cap n', v = .slice b off len cap n' → n ≤ n'
theorem AccX.rowN {α : Type} {f : α → AV} {I : Bool} {d n : Nat} {H : AHeap} {v : AV} {s : Sl α} {fp : List Nat} (h : AccX I d n f H v s fp) : RowN n v := by
  intro b off len cap n' e
  rcases h with ⟨rfl, _⟩ | ⟨b', cap', cs, rest, fp', l, _, rfl, _⟩
  · cases e
  · cases e; exact Nat.le_refl _
def ClPost2 (H0 : AHeap) (u : AV) (o : Out) (H' : AHeap) : Prop := ∃ cs fp, o = .val (.agg cs) ∧ OwnL (OwnX false 7) H' cs u.cells fp ∧ cs.length = 6 ∧ AV.ones cs = true ∧ (RowN 6 (cs.getD 2 .poison) ∧ RowN 22 (cs.getD 3 .poison)) ∧ Fresh H0 H' fp
theorem sClone_ok2 (hc : ClPol pol) (x : Score) (hx : x.tame) (H0 : AHeap) : Ev prog pol (.call 39 [x.enc]) H0 (ClPost2 H0 x.cl.enc) := by
  refine (wpF_ok ok39 (Q := fun v H' => ∃ cs fp, v = .agg cs ∧ OwnL (OwnX false 7) H' cs x.cl.enc.cells fp ∧ cs.length = 6 ∧ AV.ones cs = true ∧ (RowN 6 (cs.getD 2 .poison) ∧ RowN 22 (cs.getD 3 .poison)) ∧ Fresh H0 H' fp) ?_).mono ?_
  rotate_left
  · rintro o H' ⟨v, rfl, cs, fp, rfl, h⟩; exact ⟨cs, fp, rfl, h⟩
  obtain ⟨b1, b2, b3, b4, b5, b6⟩ := hx
  have m1 : ((72 : Nat) : Int) * ((x.parts.l.length : Nat) : Int) ≤ 2 ^ 47 := by omega
  have m2 : x.parts.l.length < 2 ^ 40 := by omega
  have m3 : ((216 : Nat) : Int) * ((x.measures.l.length : Nat) : Int) ≤ 2 ^ 47 := by omega
  have m4 : x.measures.l.length < 2 ^ 40 := by omega
  generalize hq : H0.next = q
  simp -implicitDefEqProofs (maxDischargeDepth := 12) only [wpF, cf39, WW,List.replicate,e_splice,if_true,if_false,ite_true,ite_false,true_or,ne_eq,Nat.reduceAdd,Nat.reduceSub,Nat.reduceMul,Nat.reduceLeDiff,Nat.reduceEqDiff,Nat.reduceGT,Nat.reduceLT,Int.reduceLE,Int.reduceLT,Int.reduceToNat,Int.reduceAdd,reduceCtorEq,h_putc,beq_self_eq_true,eq_self,exists_eq_left,exists_eq_left', x.enc_eq, nq1, mq1, addq, nq2, mq2, mq12, mq21, hq, mksOf, m1, m2]
  refine wp_loop (Inv := fun k t H => ∃ (i : Nat) (fp : List Nat) (a : AV), i + k = x.parts.l.length ∧ H.cells q = some [.sc (.str x.title), .sc (.bool x.written), slm Part.enc x.parts, slm Measure.enc x.measures, slm Spanner.enc x.spanners, slm ID.enc x.last] ∧ H.cells (q + 1) = some [.sc (.str ⟨#[]⟩), .sc (.bool false), .sc .nils, .sc .nils, .sc .nils, .sc .nils] ∧
    AccX false 3 6 Part.enc H a (some (x.parts.l.take i)) fp ∧ (∀ b ∈ fp, q + 2 ≤ b) ∧ q + 2 ≤ H.next ∧ Keep q H0 H ∧
    ∃ y : Nat → AV, t = [.agg [.sc (.str x.title), .sc (.bool x.written), slm Part.enc x.parts, slm Measure.enc x.measures, slm Spanner.enc x.spanners, slm ID.enc x.last], .ptr q 0, .ptr (q + 1) 0, a, y 4, y 5, y 6, y 7, y 8, y 9, y 10, y 11, y 12, y 13, slm Part.enc x.parts, .sc (.int .i64 x.parts.l.length), .sc (.int .i64 i), y 17, y 18, y 19, y 20, y 21, y 22, y 23, y 24, y 25, y 26, y 27, y 28, y 29, y 30, y 31, y 32, y 33, y 34, y 35, y 36, y 37, y 38, y 39, y 40, y 41, y 42, y 43, y 44, y 45, y 46, y 47, y 48, y 49, y 50, y 51, y 52, y 53, y 54, y 55]) (k := x.parts.l.length) ?_
    ⟨0, [q + 2], _, by omega, ?_, ?_, ?_, ?_, ?_, ?_, ex_x rfl⟩
  rotate_left
  · simp -implicitDefEqProofs (maxDischargeDepth := 12) only [WW,List.replicate,e_splice,if_true,if_false,ite_true,ite_false,true_or,ne_eq,seval,h_putc,beq_self_eq_true,eq_self,exists_eq_left,exists_eq_left', nq1, mq1, addq, nq2, mq2, mq12, mq21, hq]
  · simp -implicitDefEqProofs (maxDischargeDepth := 12) only [WW,List.replicate,e_splice,if_true,if_false,ite_true,ite_false,true_or,ne_eq,seval,h_putc,beq_self_eq_true,eq_self,exists_eq_left,exists_eq_left', nq1, mq1, addq, nq2, mq2, mq12, mq21, hq]
  · exact acc_room (z := [.sc (.int .i64 0), .sc (.int .i64 0), .sc (.str ⟨#[]⟩), .sc (.int .i64 0), .sc (.int .i64 0), .sc .nils]) rfl (by simp -implicitDefEqProofs (maxDischargeDepth := 12) only [WW,List.replicate,e_splice,if_true,if_false,ite_true,ite_false,true_or,ne_eq,seval,h_putc,beq_self_eq_true,eq_self,exists_eq_left,exists_eq_left', nq1, mq1, addq, nq2, mq2, mq12, mq21, hq])
  · intro b hb; simp only [List.mem_singleton] at hb; omega
  · simp only [AHeap.next_alloc, hq]; omega
  · subst hq; exact (by repeat (first | exact Keep.refl | refine Keep.put (by (try simp only [AHeap.next_alloc, AHeap.next_put]); omega) ?_ | refine Keep.alloc (by (try simp only [AHeap.next_alloc, AHeap.next_put]); omega) ?_))
  rintro k t H ⟨i, fp, a, hk, hA, hB, hE, hfp, hN, hKp, y, rfl⟩
  have g0 : ¬ q = H.next := by omega
  have g1 : ¬ q + 1 = H.next := by omega
  have g3 : ¬ H.next = q := by omega
  have g4 : ¬ H.next = q + 1 := by omega
  by_cases c1 : (i : Int) < (x.parts.l.length : Int)
  · obtain ⟨e, he⟩ : ∃ y, x.parts.l[i]? = some y := ⟨_, List.getElem?_eq_getElem (by omega)⟩
    have e2 : IntKind.i64.wrap ((i : Int) + 1) = ((i + 1 : Nat) : Int) := by rw [w64 (by omega) (by omega)]; omega
    simp -implicitDefEqProofs (maxDischargeDepth := 12) only [WW,List.replicate,e_splice,if_true,if_false,ite_true,ite_false,true_or,ne_eq,seval,h_putc,beq_self_eq_true,eq_self,exists_eq_left,exists_eq_left', hA, hB, c1, he, e.enc_eq, g0, g1, g3, g4]
    rw [← e.enc_eq]
    refine wA_call (hc _ (by decide)) ((pClone_ok (hc _ (by decide)) e (b2 e (List.mem_of_getElem? he)) _).mono ?_)
    rintro o H1 ⟨cs, fp1, rfl, ho0, hl, hones, hF1, hN1, hK1⟩
    have ho := OwnL.mono (d' := 3) ho0 (by decide)
    refine ⟨_, rfl, ?_⟩
    simp only [AHeap.next_alloc, AHeap.next_put] at hF1 hN1
    have d0 := hK1 q (by simp only [AHeap.next_alloc, AHeap.next_put]; omega)
    have d1 := hK1 (q + 1) (by simp only [AHeap.next_alloc, AHeap.next_put]; omega)
    simp -implicitDefEqProofs (maxDischargeDepth := 12) only [WW,List.replicate,e_splice,if_true,if_false,ite_true,ite_false,true_or,ne_eq,seval,h_putc,beq_self_eq_true,eq_self,exists_eq_left,exists_eq_left', g0, g1, g3, g4, hA, hB] at d0 d1
    have hold : ∀ b, b < H.next → H1.cells b = H.cells b := fun b hb => by
      rw [hK1 b (by simp only [AHeap.next_alloc, AHeap.next_put]; omega), c_put_ne (by omega), c_alloc_ne (by omega)]
    have hE1 : AccX false 3 6 Part.enc H1 a (some (x.parts.l.take i)) fp := hE.fr fun b hb => hold b (hE.lts b hb)
    have hK2 : Keep q H0 H1 := fun b hb => by rw [hold b (by omega), hKp b hb]
    simp -implicitDefEqProofs (maxDischargeDepth := 12) only [WW,List.replicate,e_splice,if_true,if_false,ite_true,ite_false,true_or,ne_eq,seval,h_putc,beq_self_eq_true,eq_self,exists_eq_left,exists_eq_left', g0, g1, g3, g4, hA, hB, d0, d1, hl, hones, ones_take hl]
    have apf : Apart fp fp1 := fun b hb hb2 => by
      have := hE.lts b hb
      have := hF1 b hb2; omega
    refine wA_app2 row_Part hE1 (by repeat (first | exact Keep.refl | refine Keep.put (by (try simp only [AHeap.next_alloc, AHeap.next_put]); omega) ?_ | refine Keep.alloc (by (try simp only [AHeap.next_alloc, AHeap.next_put]); omega) ?_)) (by simp) (ys := [e]) (by simp) rfl (asrc_new rfl (by simpa using hl)) (fp1 := fp1) (by
      have : ([e].flatMap fun y => (Part.enc y).cells) = (e).enc.cells := by simp
      rw [this]
      exact ho.fr fun b hb => c_alloc_ne (by have := ho.lts b hb; omega)) apf ?_ ?_
    · simp only [Sl.l, Option.getD_some, List.length_map, List.length_take, List.length_cons, List.length_nil]; omega
    intro v' H2 fp' hE' hn2 hk2 hfp2 ho2 hc2
    rw [some_take_succ he] at hE'
    have k0 := (hk2 q (fun h => by have := hfp q h; omega) (by omega)).trans d0
    have k1 := (hk2 (q + 1) (fun h => by have := hfp _ h; omega) (by omega)).trans d1
    have hfp3 : ∀ b ∈ fp', q + 2 ≤ b := fun b hb => by
      rcases hfp2 b hb with h | h | h
      · exact hfp b h
      · have := hF1 b h; omega
      · omega
    simp -implicitDefEqProofs (maxDischargeDepth := 12) only [WW,List.replicate,e_splice,if_true,if_false,ite_true,ite_false,true_or,ne_eq,seval,h_putc,beq_self_eq_true,eq_self,exists_eq_left,exists_eq_left', e2, k0, k1, ho2, hc2, nq1, mq1, addq, nq2, mq2, mq12, mq21]
    refine ⟨k - 1, by omega, i + 1, fp', v', by omega, hE', hfp3, by omega, fun b hb => ?_, ex_x rfl⟩
    rw [hk2 b (fun h => by have := hfp b h; omega) (by omega), hK2 b hb]
  have hi : i = x.parts.l.length := by omega
  subst hi
  rw [List.take_length] at hE
  have hP := hE
  have hPf := hfp
  have lp := hE.lts
  clear hE hfp
  generalize a = vp at *
  generalize fp = fpp at *
  generalize hr : H.next = r
  rw [hr] at lp
  have hqr : q + 2 ≤ r := by omega
  have p0 : ¬ q = r := by omega
  have p1 : ¬ q + 1 = r := by omega
  simp -implicitDefEqProofs (maxDischargeDepth := 12) only [WW,List.replicate,e_splice,if_true,if_false,ite_true,ite_false,true_or,ne_eq,Nat.reduceAdd,Nat.reduceSub,Nat.reduceMul,Nat.reduceLeDiff,Nat.reduceEqDiff,Nat.reduceGT,Nat.reduceLT,Int.reduceLE,Int.reduceLT,Int.reduceToNat,Int.reduceAdd,reduceCtorEq,h_putc,beq_self_eq_true,eq_self,exists_eq_left,exists_eq_left', hA, hB, c1, hr, p0, p1, mksOf, m3, m4]
  refine wp_loop (Inv := fun k t H => ∃ (i : Nat) (fp : List Nat) (a : AV), i + k = x.measures.l.length ∧ H.cells q = some [.sc (.str x.title), .sc (.bool x.written), slm Part.enc x.parts, slm Measure.enc x.measures, slm Spanner.enc x.spanners, slm ID.enc x.last] ∧ H.cells (q + 1) = some [.sc (.str ⟨#[]⟩), .sc (.bool false), .sc .nils, .sc .nils, .sc .nils, .sc .nils] ∧ AccX false 3 6 Part.enc H vp (some x.parts.l) fpp ∧
    AccX false 5 22 Measure.enc H a (some ((x.measures.l.take i).map Measure.cl)) fp ∧ (∀ b ∈ fp, r ≤ b) ∧ r ≤ H.next ∧ Keep q H0 H ∧
    ∃ y : Nat → AV, t = [.agg [.sc (.str x.title), .sc (.bool x.written), slm Part.enc x.parts, slm Measure.enc x.measures, slm Spanner.enc x.spanners, slm ID.enc x.last], .ptr q 0, .ptr (q + 1) 0, vp, y 4, y 5, a, y 7, y 8, y 9, y 10, y 11, y 12, y 13, y 14, y 15, y 16, y 17, y 18, y 19, y 20, y 21, y 22, y 23, y 24, y 25, y 26, y 27, y 28, y 29, y 30, slm Measure.enc x.measures, .sc (.int .i64 x.measures.l.length), .sc (.int .i64 i), y 34, y 35, y 36, y 37, y 38, y 39, y 40, y 41, y 42, y 43, y 44, y 45, y 46, y 47, y 48, y 49, y 50, y 51, y 52, y 53, y 54, y 55]) (k := x.measures.l.length) ?_
    ⟨0, [r], _, by omega, ?_, ?_, ?_, ?_, ?_, ?_, ?_, ex_x rfl⟩
  rotate_left
  · simp -implicitDefEqProofs (maxDischargeDepth := 12) only [WW,List.replicate,e_splice,if_true,if_false,ite_true,ite_false,true_or,ne_eq,seval,h_putc,beq_self_eq_true,eq_self,exists_eq_left,exists_eq_left', nq1, mq1, addq, nq2, mq2, mq12, mq21, hr, p0, p1, hA, hB]
  · simp -implicitDefEqProofs (maxDischargeDepth := 12) only [WW,List.replicate,e_splice,if_true,if_false,ite_true,ite_false,true_or,ne_eq,seval,h_putc,beq_self_eq_true,eq_self,exists_eq_left,exists_eq_left', nq1, mq1, addq, nq2, mq2, mq12, mq21, hr, p0, p1, hA, hB]
  · exact hP.fr fun b hb => by have := lp b hb; rw [c_alloc_ne (by omega)]
  · exact acc_room (z := [.sc (.int .i64 0), .sc (.int .i64 0), .sc (.int .i64 0), .sc (.int .i64 0), .sc (.int .i64 0), .sc (.int .i64 0), .sc (.int .i64 0), .sc (.int .i64 0), .sc (.int .i64 0), .sc (.int .i64 0), .sc (.int .i64 0), .sc (.int .i64 0), .sc (.bool false), .sc (.int .i64 0), .sc (.int .i64 0), .sc (.int .i64 0), .sc (.int .i64 0), .sc (.int .i64 0), .sc (.int .i64 0), .sc (.str ⟨#[]⟩), .sc .nils, .sc .nils]) rfl (by simp -implicitDefEqProofs (maxDischargeDepth := 12) only [WW,List.replicate,e_splice,if_true,if_false,ite_true,ite_false,true_or,ne_eq,seval,h_putc,beq_self_eq_true,eq_self,exists_eq_left,exists_eq_left', nq1, mq1, addq, nq2, mq2, mq12, mq21, hr])
  · intro b hb; simp only [List.mem_singleton] at hb; omega
  · simp only [AHeap.next_alloc, hr]; omega
  · intro b hb; rw [c_alloc_ne (by omega), hKp b hb]
  clear hA hB hP hN hKp hk c1
  rintro k t H ⟨i, fp, a, hk, hA, hB, hP, hE, hfp, hN, hKp, y, rfl⟩
  have g0 : ¬ q = H.next := by omega
  have g1 : ¬ q + 1 = H.next := by omega
  have g3 : ¬ H.next = q := by omega
  have g4 : ¬ H.next = q + 1 := by omega
  by_cases c1 : (i : Int) < (x.measures.l.length : Int)
  · obtain ⟨e, he⟩ : ∃ y, x.measures.l[i]? = some y := ⟨_, List.getElem?_eq_getElem (by omega)⟩
    have e2 : IntKind.i64.wrap ((i : Int) + 1) = ((i + 1 : Nat) : Int) := by rw [w64 (by omega) (by omega)]; omega
    simp -implicitDefEqProofs (maxDischargeDepth := 12) only [WW,List.replicate,e_splice,if_true,if_false,ite_true,ite_false,true_or,ne_eq,seval,h_putc,beq_self_eq_true,eq_self,exists_eq_left,exists_eq_left', hA, hB, c1, he, e.enc_eq, g0, g1, g3, g4]
    rw [← e.enc_eq]
    refine wA_call (hc _ (by decide)) ((mClone_ok hc e (b4 e (List.mem_of_getElem? he)) _).mono ?_)
    rintro o H1 ⟨cs, fp1, rfl, ho, hl, hones, hF1, hN1, hK1⟩
    refine ⟨_, rfl, ?_⟩
    simp only [AHeap.next_alloc, AHeap.next_put] at hF1 hN1
    have d0 := hK1 q (by simp only [AHeap.next_alloc, AHeap.next_put]; omega)
    have d1 := hK1 (q + 1) (by simp only [AHeap.next_alloc, AHeap.next_put]; omega)
    simp -implicitDefEqProofs (maxDischargeDepth := 12) only [WW,List.replicate,e_splice,if_true,if_false,ite_true,ite_false,true_or,ne_eq,seval,h_putc,beq_self_eq_true,eq_self,exists_eq_left,exists_eq_left', g0, g1, g3, g4, hA, hB] at d0 d1
    have hold : ∀ b, b < H.next → H1.cells b = H.cells b := fun b hb => by
      rw [hK1 b (by simp only [AHeap.next_alloc, AHeap.next_put]; omega), c_put_ne (by omega), c_alloc_ne (by omega)]
    have hE1 : AccX false 5 22 Measure.enc H1 a (some ((x.measures.l.take i).map Measure.cl)) fp := hE.fr fun b hb => hold b (hE.lts b hb)
    have hK2 : Keep q H0 H1 := fun b hb => by rw [hold b (by omega), hKp b hb]
    have hP1 : AccX false 3 6 Part.enc H1 vp (some x.parts.l) fpp := hP.fr fun b hb => hold b (hP.lts b hb)
    simp -implicitDefEqProofs (maxDischargeDepth := 12) only [WW,List.replicate,e_splice,if_true,if_false,ite_true,ite_false,true_or,ne_eq,seval,h_putc,beq_self_eq_true,eq_self,exists_eq_left,exists_eq_left', g0, g1, g3, g4, hA, hB, d0, d1, hl, hones, ones_take hl]
    have apf : Apart fp fp1 := fun b hb hb2 => by
      have := hE.lts b hb
      have := hF1 b hb2; omega
    refine wA_app2 row_Measure hE1 (by repeat (first | exact Keep.refl | refine Keep.put (by (try simp only [AHeap.next_alloc, AHeap.next_put]); omega) ?_ | refine Keep.alloc (by (try simp only [AHeap.next_alloc, AHeap.next_put]); omega) ?_)) (by simp) (ys := [e.cl]) (by simp) rfl (asrc_new rfl (by simpa using hl)) (fp1 := fp1) (by
      have : ([e.cl].flatMap fun y => (Measure.enc y).cells) = (e.cl).enc.cells := by simp
      rw [this]
      exact ho.fr fun b hb => c_alloc_ne (by have := ho.lts b hb; omega)) apf ?_ ?_
    · simp only [Sl.l, Option.getD_some, List.length_map, List.length_take, List.length_cons, List.length_nil]; omega
    intro v' H2 fp' hE' hn2 hk2 hfp2 ho2 hc2
    rw [some_map_succ he] at hE'
    have k0 := (hk2 q (fun h => by have := hfp q h; omega) (by omega)).trans d0
    have k1 := (hk2 (q + 1) (fun h => by have := hfp _ h; omega) (by omega)).trans d1
    have hfp3 : ∀ b ∈ fp', r ≤ b := fun b hb => by
      rcases hfp2 b hb with h | h | h
      · exact hfp b h
      · have := hF1 b h; omega
      · omega
    simp -implicitDefEqProofs (maxDischargeDepth := 12) only [WW,List.replicate,e_splice,if_true,if_false,ite_true,ite_false,true_or,ne_eq,seval,h_putc,beq_self_eq_true,eq_self,exists_eq_left,exists_eq_left', e2, k0, k1, ho2, hc2, nq1, mq1, addq, nq2, mq2, mq12, mq21]
    refine ⟨k - 1, by omega, i + 1, fp', v', by omega, hP1.fr fun b hb => hk2 b (fun h => by have := hfp b h; have := lp b hb; omega) (by have := lp b hb; omega), hE', hfp3, by omega, fun b hb => ?_, ex_x rfl⟩
    rw [hk2 b (fun h => by have := hfp b h; omega) (by omega), hK2 b hb]
  have hi : i = x.measures.l.length := by omega
  subst hi
  rw [List.take_length] at hE
  have lm := hE.lts
  simp -implicitDefEqProofs (maxDischargeDepth := 12) only [WW,List.replicate,e_splice,if_true,if_false,ite_true,ite_false,true_or,ne_eq,seval,h_putc,beq_self_eq_true,eq_self,exists_eq_left,exists_eq_left', hA, hB, c1]
  refine wA_call (hc _ (by decide)) ((sclSpanner_ok x.spanners b5 _).mono ?_)
  rintro o H3 ⟨vs, fps, rfl, hAs, hFs, hNs, hKs⟩
  refine ⟨_, rfl, ?_⟩
  have a0 := (hKs q (by omega)).trans hA
  have a1 := (hKs (q + 1) (by omega)).trans hB
  have ls := hAs.lts
  simp -implicitDefEqProofs (maxDischargeDepth := 12) only [WW,List.replicate,e_splice,if_true,if_false,ite_true,ite_false,true_or,ne_eq,seval,h_putc,beq_self_eq_true,eq_self,exists_eq_left,exists_eq_left', hA, hB, a0, a1]
  refine wA_call (hc _ (by decide)) ((sclID_ok x.last b6 _).mono ?_)
  rintro o H4 ⟨vl, fpl, rfl, hAl, hFl, hNl, hKl⟩
  refine ⟨_, rfl, ?_⟩
  have d0 := (hKl q (by omega)).trans a0
  have d1 := (hKl (q + 1) (by omega)).trans a1
  simp -implicitDefEqProofs (maxDischargeDepth := 12) only [WW,List.replicate,e_splice,if_true,if_false,ite_true,ite_false,true_or,ne_eq,seval,h_putc,beq_self_eq_true,eq_self,exists_eq_left,exists_eq_left', a0, a1, d0, d1, hP.one, hP.cells, hE.one, hE.cells, hAs.one, hAs.cells, hAl.one, hAl.cells, nq1, mq1, addq, nq2, mq2, mq12, mq21]
  obtain ⟨gp, op, kp⟩ := hP.own row_Part
  obtain ⟨gm, om, km⟩ := hE.own row_Measure
  obtain ⟨gs, os, ks⟩ := hAs.own row_Spanner'
  obtain ⟨gl, ol, kl⟩ := hAl.own row_ID'
  have old : ∀ b, b < H.next → H4.cells b = H.cells b := fun b hb => by rw [hKl b (by omega), hKs b hb]
  refine ⟨_, _, rfl, .cons OwnX.scal (.cons OwnX.scal (.cons ((op.mono (by decide)).frame fun b hb => ?_) (.cons ((om.mono (by decide)).frame fun b hb => ?_) (.cons ((os.mono (by decide)).frame fun b hb => ?_) (.cons ((ol.mono (by decide)).frame fun b hb => ?_) .nil Apart.nil_right) ?_) ?_) ?_) Apart.nil_left) Apart.nil_left, rfl, ?_, ⟨hP.rowN, hE.rowN⟩, ?_, ?_, ?_⟩
  · have := hPf b (kp b hb)
    have := lp b (kp b hb)
    simp only [c_put_ne (show b ≠ q by omega), c_put_ne (show b ≠ q + 1 by omega)]
    exact old b (by omega)
  · have := hfp b (km b hb)
    have := lm b (km b hb)
    simp only [c_put_ne (show b ≠ q by omega), c_put_ne (show b ≠ q + 1 by omega)]
    exact old b (by omega)
  · have := hFs b (ks b hb)
    have := ls b (ks b hb)
    simp only [c_put_ne (show b ≠ q by omega), c_put_ne (show b ≠ q + 1 by omega)]
    exact hKl b (by omega)
  · have := hFl b (kl b hb)
    simp only [c_put_ne (show b ≠ q by omega), c_put_ne (show b ≠ q + 1 by omega)]
  · intro b hb hb2
    simp only [List.append_nil] at hb2
    have := ls b (ks b hb)
    have := hFl b (kl b hb2)
    omega
  · intro b hb hb2
    simp only [List.append_nil, List.mem_append] at hb2
    have := lm b (km b hb)
    rcases hb2 with h | h
    · have := hFs b (ks b h); omega
    · have := hFl b (kl b h); omega
  · intro b hb hb2
    simp only [List.append_nil, List.mem_append] at hb2
    have := lp b (kp b hb)
    rcases hb2 with h | h | h
    · have := hfp b (km b h); omega
    · have := hFs b (ks b h); omega
    · have := hFl b (kl b h); omega
  · simp only [AV.ones, List.all_cons, List.all_nil, o_str, o_bool, hP.one, hE.one, hAs.one, hAl.one, Bool.and_self]
  · intro b hb
    simp only [List.nil_append, List.append_nil, List.mem_append] at hb
    rcases hb with h | h | h | h
    · have := hPf b (kp b h); omega
    · have := hfp b (km b h); omega
    · have := hFs b (ks b h); omega
    · have := hFl b (kl b h); omega
  · simp only [AHeap.next_put]; omega
  · intro b hb
    simp only [c_put_ne (show b ≠ q by omega), c_put_ne (show b ≠ q + 1 by omega)]
    rw [old b (by omega), hKp b (by omega)]
end Go.Hem
/- Walks: the reference's Give. -/
set_option maxRecDepth 10000
set_option maxHeartbeats 4000000
set_option linter.unusedSimpArgs false
set_option linter.unusedVariables false
namespace Go.Hem
variable {pol : Pol}
def hasS (l : List ID) (st : Int) : Bool := l.any fun x => decide (x.site = st)
/-- The first id of a site gets another number. -/
def setL : List ID → Int → Int → List ID
  | [], _, _ => []
  | x :: l, st, n => if x.site = st then ⟨st, n⟩ :: l else x :: setL l st n
/-- An id comes ahead of the first of a greater site. -/
def insL : List ID → Int → Int → List ID
  | [], st, n => [⟨st, n⟩]
  | x :: l, st, n => if x.site ≤ st then x :: insL l st n else ⟨st, n⟩ :: x :: l
def giveL (l : List ID) (st n : Int) : List ID := if hasS l st = true then setL l st n else insL l st n
end Go.Hem
/- Walks: the reference's SetCell and SetEvent. -/
set_option maxRecDepth 10000
set_option maxHeartbeats 4000000
set_option linter.unusedSimpArgs false
set_option linter.unusedVariables false
namespace Go.Hem
variable {pol : Pol}
theorem AccX.open {α : Type} {f : α → AV} {I : Bool} {d n : Nat} {H : AHeap} {v : AV} {l : List α} {fp : List Nat} (h : AccX I d n f H v (some l) fp) : AV.closedB v = false := by
  rcases h with ⟨_, h, _⟩ | ⟨b, cap, cs, rest, fp', l', h1, rfl, _⟩
  · cases h
  · rfl
end Go.Hem
/- Walks: the reference's SetEvent. -/
set_option maxRecDepth 10000
set_option maxHeartbeats 4000000
set_option linter.unusedSimpArgs false
set_option linter.unusedVariables false
namespace Go.Hem
variable {pol : Pol}
section
variable {α : Type} {f : α → AV} {n : Nat}
end
end Go.Hem
/- A map of ids as a set. -/
set_option linter.unusedSimpArgs false
set_option linter.unusedVariables false
namespace Go.Hem
end Go.Hem
/- Walks: the closure of Prune. -/
set_option maxRecDepth 10000
set_option maxHeartbeats 4000000
set_option linter.unusedSimpArgs false
set_option linter.unusedVariables false
namespace Go.Hem
variable {pol : Pol}
end Go.Hem
/- What is written into a copy: numbers over numbers, a text over a text; the rest stays. -/
set_option maxRecDepth 10000
set_option linter.unusedSimpArgs false
set_option linter.unusedVariables false
namespace Go.Hem
variable {pol : Pol}

def Alike (S : Bool) (a b : AV) : Prop := a = b ∨ (∃ x y, a = .sc (.int .i64 x) ∧ b = .sc (.int .i64 y)) ∨ (S = true ∧ ∃ x y, a = .sc (.str x) ∧ b = .sc (.str y))

structure Mut (S : Bool) (fp : List Nat) (H0 H : AHeap) : Prop where
  sh : ∀ b ∈ fp, ∀ cs, H0.cells b = some cs → ∃ cs', H.cells b = some cs' ∧ cs'.length = cs.length ∧ ∀ (j : Nat) v, cs[j]? = some v → ∃ v', cs'[j]? = some v' ∧ Alike S v v'
  keep : ∀ b, b ∉ fp → H.cells b = H0.cells b

theorem Mut.refl {S : Bool} {fp : List Nat} {H : AHeap} : Mut S fp H H := ⟨fun b _ cs h => ⟨cs, h, rfl, fun j v e => ⟨v, e, .inl rfl⟩⟩, fun _ _ => rfl⟩
theorem Mut.text {S : Bool} {fp : List Nat} {H0 H : AHeap} (h : Mut false fp H0 H) : Mut S fp H0 H := by
  refine ⟨fun b hb cs hc => ?_, h.keep⟩
  obtain ⟨cs', h1, h2, h3⟩ := h.sh b hb cs hc
  refine ⟨cs', h1, h2, fun j v e => ?_⟩
  obtain ⟨v', e1, e2⟩ := h3 j v e
  rcases e2 with e2 | e2 | ⟨e2, _⟩
  · exact ⟨v', e1, .inl e2⟩
  · exact ⟨v', e1, .inr (.inl e2)⟩
  · cases e2

theorem OwnL.cell {O : AHeap → AV → AV → List Nat → Prop} {H : AHeap} {vs us : List AV} {fp : List Nat} (h : OwnL O H vs us fp) : ∀ {j : Nat} {u : AV}, us[j]? = some u → ∃ v fp', vs[j]? = some v ∧ O H v u fp' ∧ ∀ b ∈ fp', b ∈ fp := by
  induction h with
  | nil => intro j u h; simp at h
  | cons h1 h2 h3 ih =>
    rename_i v u vs us f g
    intro j w hj
    cases j with
    | zero => simp at hj; subst hj; exact ⟨v, f, by simp, h1, fun b hb => List.mem_append.2 (.inl hb)⟩
    | succ j =>
      obtain ⟨v', fp', a, b, c⟩ := ih (j := j) (u := w) (by simpa using hj)
      exact ⟨v', fp', by simpa using a, b, fun x hx => List.mem_append.2 (.inr (c x hx))⟩

theorem own_len {α : Type} {f : α → AV} {d : Nat} {H : AHeap} {v : AV} {s : Sl α} {fp : List Nat} (h : OwnX false (d + 1) H v (slm f s) fp) : lenOf v = some (.sc (.int .i64 s.l.length)) ∧ v.one = true ∧ v.cells = [v] := by
  cases v <;> simp only [OwnX] at h
  case sc x =>
    obtain ⟨h1, _⟩ := h
    cases s with
    | none => simp only [slm, AV.sc.injEq] at h1; subst h1; exact ⟨rfl, rfl, rfl⟩
    | some l => simp [slm] at h1
  case imm l =>
    obtain ⟨h0, h1, _⟩ := h
    cases s with
    | none => simp [slm] at h1
    | some m => simp only [slm, AV.imm.injEq] at h1; subst h1; exact ⟨by simp [lenOf, Sl.l], rfl, rfl⟩
  case agg cs =>
    obtain ⟨us, h1, _⟩ := h
    cases s <;> simp [slm] at h1
  case slice b off len cap n =>
    refine ⟨?_, rfl, rfl⟩
    rcases h with ⟨h0, h1, _⟩ | ⟨cs, us, fp', _, _, _, _, ho, _, _, h1, _⟩
    · cases h0
    · cases s with
      | none => simp [slm] at h1
      | some m =>
        simp only [slm, AV.imm.injEq] at h1
        have := congrArg List.length h1
        rw [rows_len, List.length_map] at this
        subst this; rfl

theorem own_elem {α : Type} {f : α → AV} {d n : Nat} {H : AHeap} {v : AV} {s : Sl α} {fp : List Nat} {i : Nat} {x : α} (row : RowOf n f) (hn1 : n ≠ 1) (h : OwnX false (d + 1) H v (slm f s) fp) (hi : s.l[i]? = some x) :
    ∃ b off cap cs fp', v = .slice b off s.l.length cap n ∧ H.cells b = some cs ∧ off + s.l.length * n ≤ cs.length ∧ b ∈ fp ∧ OwnL (OwnX false d) H ((cs.drop (off + i * n)).take n) (f x).cells fp' ∧ ∀ c ∈ fp', c ∈ fp := by
  have hlt : i < s.l.length := (List.getElem?_eq_some_iff.1 hi).1
  have hs : s = some s.l := by cases s with
    | none => simp [Sl.l] at hi
    | some l => rfl
  have hl := (own_len h).1
  rw [hs] at h
  cases v <;> simp only [OwnX] at h
  case sc y =>
    obtain ⟨h1, _⟩ := h
    simp [slm] at h1
  case imm l => simp at h
  case agg cs =>
    obtain ⟨us, h1, _⟩ := h
    simp [slm] at h1
  case slice b off len cap n' =>
    simp only [lenOf, Option.some.injEq, AV.sc.injEq, Sc.int.injEq, true_and] at hl
    have hl : len = s.l.length := by omega
    subst hl
    rcases h with ⟨h0, _, _⟩ | ⟨cs, us, fp', h1, h2, h3, h4, h5, h6, hq, h7, h8⟩
    · cases h0
    · simp only [slm, AV.imm.injEq] at h7
      have hul : us.length = s.l.length * n' := by
        have := h5.len
        simp only [List.length_take, List.length_drop] at this
        omega
      have hn : n' = n := by
        cases hl2 : s.l with
        | nil => rw [hl2] at hlt; simp at hlt
        | cons y l =>
          rw [hl2] at h7 hul
          simp only [List.map_cons, List.length_cons, rows, List.cons.injEq] at h7
          have ry := row.2 y
          rw [if_neg hn1] at ry
          have e3 := h7.1
          by_cases q : n' = 1
          · rw [if_pos q] at e3
            cases hus : us with
            | nil => rw [hus, q] at hul; simp at hul
            | cons w ws =>
              rw [hus] at e3
              simp only [List.headD_cons] at e3
              have := hq q w (by rw [hus]; simp)
              rw [← e3] at this
              have := congrArg List.length this
              rw [ry.1] at this
              simp at this; omega
          · rw [if_neg q, ry.2] at e3
            simp only [AV.agg.injEq] at e3
            have := congrArg List.length e3
            rw [ry.1, List.length_take, hul, List.length_cons, Nat.succ_mul] at this
            omega
      subst hn
      have hmap : us = s.l.flatMap fun x => (f x).cells := by
        have key : ∀ (l : List α) (us : List AV), us.length = l.length * n' → l.map f = rows n' l.length us → us = l.flatMap fun x => (f x).cells := by
          intro l
          induction l with
          | nil => intro us h1 _; simp at h1; simp [h1]
          | cons y l ih =>
            intro us h1 h2
            simp only [List.map_cons, List.length_cons, rows, List.cons.injEq] at h2
            have ry := row.2 y
            rw [if_neg hn1] at ry
            have e3 := h2.1
            rw [if_neg hn1, ry.2] at e3
            simp only [AV.agg.injEq] at e3
            have := ih (us.drop n') (by rw [List.length_drop, h1, List.length_cons, Nat.succ_mul]; omega) h2.2
            simp only [List.flatMap_cons]
            rw [← this, e3, List.take_append_drop]
        exact key s.l us hul h7
      have hmul : i * n' + n' ≤ s.l.length * n' := by
        have : (i + 1) * n' ≤ s.l.length * n' := Nat.mul_le_mul_right _ hlt
        rw [Nat.succ_mul] at this; exact this
      obtain ⟨f1, g1, p1, p2, p3, p4⟩ := h5.split (i * n')
      obtain ⟨f2, g2, q1, q2, q3, q4⟩ := p2.split n'
      refine ⟨b, off, cap, cs, f2, rfl, h1, h4, by rw [h8]; simp, ?_, ?_⟩
      · have e1 : (((cs.drop off).take (s.l.length * n')).drop (i * n')).take n' = (cs.drop (off + i * n')).take n' := by
          rw [List.drop_take, List.take_take, List.drop_drop, Nat.min_eq_left (by omega)]
        have e2 : (us.drop (i * n')).take n' = (f x).cells := by
          rw [hmap]
          have key : ∀ (l : List α) (i : Nat), l[i]? = some x → (((l.flatMap fun x => (f x).cells).drop (i * n')).take n') = (f x).cells := by
            intro l
            induction l with
            | nil => intro i h; simp at h
            | cons y l ih =>
              intro i h
              have ry := row.2 y
              cases i with
              | zero =>
                simp at h; subst h
                simp only [List.flatMap_cons, Nat.zero_mul, List.drop_zero]
                rw [List.take_append_of_le_length (by omega), List.take_of_length_le (by omega)]
              | succ i =>
                simp only [List.flatMap_cons, Nat.succ_mul]
                rw [List.drop_append, List.drop_of_length_le (by omega), List.nil_append, ry.1, Nat.add_sub_cancel]
                exact ih i (by simpa using h)
          exact key s.l i hi
        rw [e1, e2] at q1
        exact q1
      · intro c hc
        rw [h8, p4, q4]
        simp only [List.mem_cons, List.mem_append]
        exact .inr (.inr (.inl hc))

section
variable {S : Bool} {fp : List Nat} {H0 H : AHeap}
theorem Mut.elem (M : Mut S fp H0 H) {α : Type} {f : α → AV} {d n i j : Nat} {v u : AV} {s : Sl α} {fp1 : List Nat} {x : α} (row : RowOf n f) (hn1 : n ≠ 1) (h : OwnX false (d + 1) H0 v (slm f s) fp1) (hs : ∀ b ∈ fp1, b ∈ fp) (hi : s.l[i]? = some x) (hj : (f x).cells[j]? = some u) :
    ∃ b off cap cs cs' w w' fp2, v = .slice b off s.l.length cap n ∧ b ∈ fp ∧ H0.cells b = some cs ∧ H.cells b = some cs' ∧ cs'.length = cs.length ∧ off + i * n + j + 1 ≤ cs.length ∧ cs[off + i * n + j]? = some w ∧ cs'[off + i * n + j]? = some w' ∧ Alike S w w' ∧ OwnX false d H0 w u fp2 ∧ ∀ c ∈ fp2, c ∈ fp := by
  obtain ⟨b, off, cap, cs, fp', h1, h2, h3, h4, h5, h6⟩ := own_elem row hn1 h hi
  obtain ⟨w, fp2, h7, h8, h9⟩ := h5.cell hj
  have h10 : cs[off + i * n + j]? = some w := by
    rw [List.getElem?_take] at h7
    split at h7
    · rw [List.getElem?_drop] at h7; exact h7
    · cases h7
  obtain ⟨cs', g1, g2, g3⟩ := M.sh b (hs b h4) cs h2
  obtain ⟨w', g4, g5⟩ := g3 _ _ h10
  have := (List.getElem?_eq_some_iff.1 h10).1
  exact ⟨b, off, cap, cs, cs', w, w', fp2, h1, hs b h4, h2, g1, g2, by omega, h10, g4, g5, h8, fun c hc => hs c (h6 c (h9 c hc))⟩

theorem Mut.step (M : Mut S fp H0 H) {α β : Type} {f : α → AV} {g : β → AV} {d n i j : Nat} {v : AV} {s : Sl α} {s' : Sl β} {fp1 : List Nat} {x : α} (row : RowOf n f) (hn1 : n ≠ 1) (h : OwnX false (d + 2) H0 v (slm f s) fp1) (hs : ∀ b ∈ fp1, b ∈ fp) (hi : s.l[i]? = some x) (hj : (f x).cells[j]? = some (slm g s')) :
    ∃ b off cap cs w fp2, v = .slice b off s.l.length cap n ∧ H.cells b = some cs ∧ off + i * n + j + 1 ≤ cs.length ∧ cs[off + i * n + j]? = some w ∧ OwnX false (d + 1) H0 w (slm g s') fp2 ∧ ∀ c ∈ fp2, c ∈ fp := by
  obtain ⟨b, off, cap, cs, cs', w, w', fp2, h1, hb, h2, h3, h4, h5, h6, h7, h8, h9, h10⟩ := M.elem row hn1 h hs hi hj
  have hl := (own_len h9).1
  have : w' = w := by
    rcases h8 with rfl | ⟨x, y, rfl, _⟩ | ⟨_, x, y, rfl, _⟩
    · rfl
    · simp [lenOf] at hl
    · simp [lenOf] at hl
  subst this
  exact ⟨b, off, cap, cs', w', fp2, h1, h3, by omega, h7, h9, h10⟩

theorem splice_get {cs : List AV} {o j : Nat} {w : AV} (h : o + 1 ≤ cs.length) : (splice cs o [w])[j]? = if j = o then some w else cs[j]? := by
  have e : splice cs o [w] = cs.set o w := by
    unfold splice
    simp only [List.length_cons, List.length_nil, Nat.zero_add]
    rw [List.set_eq_take_append_cons_drop, if_pos (by omega)]
    simp
  rw [e, List.getElem?_set]
  by_cases q : o = j
  · subst q; simp; omega
  · rw [if_neg q, if_neg (fun k => q k.symm)]

theorem Mut.put (M : Mut S fp H0 H) {b o : Nat} {cs cs' : List AV} {w w2 : AV} (hb : b ∈ fp) (h0 : H0.cells b = some cs) (h1 : H.cells b = some cs') (hl : cs'.length = cs.length) (ho : o + 1 ≤ cs.length) (hw : cs[o]? = some w) (ha : Alike S w w2) :
    Mut S fp H0 (H.put b (some (.cells (splice cs' o [w2])))) := by
  refine ⟨fun c hc ds hd => ?_, fun c hc => ?_⟩
  · by_cases q : c = b
    · subst q
      rw [h0] at hd; cases hd
      refine ⟨splice cs' o [w2], by rw [h_putc (by rw [h1]; rfl)]; simp, ?_, fun j v hv => ?_⟩
      · unfold splice; simp; omega
      · rw [splice_get (by omega)]
        by_cases e : j = o
        · subst e; rw [hw] at hv; cases hv
          exact ⟨w2, if_pos rfl, ha⟩
        · rw [if_neg e]
          obtain ⟨es, e1, e2, e3⟩ := M.sh c hc _ h0
          rw [h1] at e1; cases e1
          exact e3 j v hv
    · rw [c_put_ne q]; exact M.sh c hc ds hd
  · have q : c ≠ b := fun e => hc (e ▸ hb)
    rw [c_put_ne q]; exact M.keep c hc

theorem Mut.int (M : Mut S fp H0 H) {α : Type} {f : α → AV} {d n i j : Nat} {v : AV} {s : Sl α} {fp1 : List Nat} {x : α} {z : Int} (row : RowOf n f) (hn1 : n ≠ 1) (h : OwnX false (d + 2) H0 v (slm f s) fp1) (hs : ∀ b ∈ fp1, b ∈ fp) (hi : s.l[i]? = some x) (hj : (f x).cells[j]? = some (.sc (.int .i64 z))) :
    ∃ b off cap cs z', v = .slice b off s.l.length cap n ∧ H.cells b = some cs ∧ off + i * n + j + 1 ≤ cs.length ∧ cs[off + i * n + j]? = some (.sc (.int .i64 z')) ∧ ∀ z2, Mut S fp H0 (H.put b (some (.cells (splice cs (off + i * n + j) [.sc (.int .i64 z2)])))) := by
  obtain ⟨b, off, cap, cs, cs', w, w', fp2, h1, hb, h2, h3, h4, h5, h6, h7, h8, h9, h10⟩ := M.elem row hn1 h hs hi hj
  have hw : w = .sc (.int .i64 z) := by
    cases w <;> simp only [OwnX] at h9
    case sc y => obtain ⟨e, _⟩ := h9; exact e.symm
    case imm => simp at h9
    case agg => obtain ⟨_, e, _⟩ := h9; cases e
    case slice => rcases h9 with ⟨e, _⟩ | ⟨_, _, _, _, _, _, _, _, _, _, e, _⟩ <;> cases e
  subst hw
  have hw' : ∃ z', w' = .sc (.int .i64 z') := by
    rcases h8 with rfl | ⟨x, y, e, rfl⟩ | ⟨_, x, y, e, rfl⟩
    · exact ⟨z, rfl⟩
    · exact ⟨y, rfl⟩
    · cases e
  obtain ⟨z', rfl⟩ := hw'
  exact ⟨b, off, cap, cs', z', h1, h3, by omega, h7, fun z2 => M.put hb h2 h3 h4 h5 h6 (.inr (.inl ⟨_, _, rfl, rfl⟩))⟩

theorem Mut.str (M : Mut false fp H0 H) {α : Type} {f : α → AV} {d n i j : Nat} {v : AV} {s : Sl α} {fp1 : List Nat} {x : α} {z : ByteArray} (row : RowOf n f) (hn1 : n ≠ 1) (h : OwnX false (d + 2) H0 v (slm f s) fp1) (hs : ∀ b ∈ fp1, b ∈ fp) (hi : s.l[i]? = some x) (hj : (f x).cells[j]? = some (.sc (.str z))) :
    ∃ b off cap cs, v = .slice b off s.l.length cap n ∧ H.cells b = some cs ∧ off + i * n + j + 1 ≤ cs.length ∧ cs[off + i * n + j]? = some (.sc (.str z)) ∧ ∀ z2, Mut true fp H0 (H.put b (some (.cells (splice cs (off + i * n + j) [.sc (.str z2)])))) := by
  obtain ⟨b, off, cap, cs, cs', w, w', fp2, h1, hb, h2, h3, h4, h5, h6, h7, h8, h9, h10⟩ := M.elem row hn1 h hs hi hj
  have hw : w = .sc (.str z) := by
    cases w <;> simp only [OwnX] at h9
    case sc y => obtain ⟨e, _⟩ := h9; exact e.symm
    case imm => simp at h9
    case agg => obtain ⟨_, e, _⟩ := h9; cases e
    case slice => rcases h9 with ⟨e, _⟩ | ⟨_, _, _, _, _, _, _, _, _, _, e, _⟩ <;> cases e
  subst hw
  have hw' : w' = .sc (.str z) := by
    rcases h8 with rfl | ⟨x, y, e, rfl⟩ | ⟨e, x, y, _, rfl⟩
    · rfl
    · cases e
    · cases e
  subst hw'
  exact ⟨b, off, cap, cs', h1, h3, by omega, h7, fun z2 => M.text.put hb h2 h3 h4 h5 h6 (.inr (.inr ⟨rfl, _, _, rfl, rfl⟩))⟩
end
end Go.Hem
/- What is owned, and how a part of it is put anew. -/
set_option maxRecDepth 10000
set_option linter.unusedSimpArgs false
set_option linter.unusedVariables false
namespace Go.Hem
theorem splice_len2 {cs ys : List AV} {o : Nat} (h : o + ys.length ≤ cs.length) : (splice cs o ys).length = cs.length := by
  unfold splice; simp; omega
/-- What is put in place of the inside makes the outside whole again. -/
def Fit (H : AHeap) (fp f : List Nat) (In Out : AHeap → List Nat → Prop) : Prop :=
  ∀ H' f', In H' f' → (∀ b ∈ fp, b ∉ f → H'.cells b = H.cells b) → (∀ b ∈ f', b ∈ f ∨ b ∉ fp) → ∃ fp', Out H' fp' ∧ ∀ b ∈ fp', b ∈ f' ∨ (b ∈ fp ∧ b ∉ f)

section
variable {H : AHeap} {fp f g : List Nat} {In M Out : AHeap → List Nat → Prop} {I : Bool} {d : Nat}
theorem Fit.trans (h : Fit H fp f M Out) (k : Fit H f g In M) (hf : ∀ b ∈ f, b ∈ fp) (hg : ∀ b ∈ g, b ∈ f) : Fit H fp g In Out := by
  intro H' g' hi hk hs
  obtain ⟨f', h1, h2⟩ := k H' g' hi (fun b hb hb2 => hk b (hf b hb) hb2) (fun b hb => (hs b hb).imp id fun h h' => h (hf b h'))
  obtain ⟨fp', h3, h4⟩ := h H' f' h1 (fun b hb hb2 => hk b hb fun h => hb2 (hg b h)) (fun b hb => by
    rcases h2 b hb with h | ⟨h, h5⟩
    · exact (hs b h).imp (hg b) id
    · exact .inl h)
  refine ⟨fp', h3, fun b hb => ?_⟩
  rcases h4 b hb with h | ⟨h, h5⟩
  · rcases h2 b h with h | ⟨h, h6⟩
    · exact .inl h
    · exact .inr ⟨hf b h, h6⟩
  · exact .inr ⟨h, fun h6 => h5 (hg b h6)⟩

theorem OwnL.fit {vs us : List AV} (h : OwnL (OwnX I d) H vs us fp) : ∀ {j : Nat} {u : AV}, us[j]? = some u →
    ∃ v f, vs[j]? = some v ∧ OwnX I d H v u f ∧ (∀ b ∈ f, b ∈ fp) ∧ ∀ v' u', Fit H fp f (fun H' f' => OwnX I d H' v' u' f') (fun H' fp' => OwnL (OwnX I d) H' (vs.set j v') (us.set j u') fp') := by
  induction h with
  | nil => intro j u h; simp at h
  | cons h1 h2 h3 ih =>
    rename_i v u vs us f g
    intro j w hj
    cases j with
    | zero =>
      simp at hj; subst hj
      refine ⟨v, f, by simp, h1, fun b hb => List.mem_append.2 (.inl hb), fun v' u' H' f' hi hk hs => ⟨f' ++ g, ?_, ?_⟩⟩
      · simp only [List.set_cons_zero]
        refine .cons hi (h2.fr fun b hb => hk b (List.mem_append.2 (.inr hb)) (h3.symm b hb)) fun b hb hb2 => ?_
        rcases hs b hb with h | h
        · exact h3 b h hb2
        · exact h (List.mem_append.2 (.inr hb2))
      · intro b hb
        rcases List.mem_append.1 hb with h | h
        · exact .inl h
        · exact .inr ⟨List.mem_append.2 (.inr h), h3.symm b h⟩
    | succ j =>
      obtain ⟨v2, f1, a1, a2, a3, a4⟩ := ih (j := j) (u := w) (by simpa using hj)
      refine ⟨v2, f1, by simpa using a1, a2, fun b hb => List.mem_append.2 (.inr (a3 b hb)), fun v' u' H' f' hi hk hs => ?_⟩
      obtain ⟨g', b1, b2⟩ := a4 v' u' H' f' hi (fun b hb hb2 => hk b (List.mem_append.2 (.inr hb)) hb2) (fun b hb => (hs b hb).imp id fun h h' => h (List.mem_append.2 (.inr h')))
      refine ⟨f ++ g', ?_, ?_⟩
      · simp only [List.set_cons_succ]
        refine .cons (h1.frame fun b hb => hk b (List.mem_append.2 (.inl hb)) fun h => h3 b hb (a3 b h)) b1 fun b hb hb2 => ?_
        rcases b2 b hb2 with h | ⟨h, _⟩
        · rcases hs b h with h | h
          · exact h3 b hb (a3 b h)
          · exact h (List.mem_append.2 (.inl hb))
        · exact h3 b hb h
      · intro b hb
        rcases List.mem_append.1 hb with h | h
        · exact .inr ⟨List.mem_append.2 (.inl h), fun h2 => h3 b h (a3 b h2)⟩
        · rcases b2 b h with h | ⟨h, h5⟩
          · exact .inl h
          · exact .inr ⟨List.mem_append.2 (.inr h), h5⟩

theorem OwnL.fitR {vs us : List AV} (h : OwnL (OwnX I d) H vs us fp) (o k : Nat) :
    ∃ f, OwnL (OwnX I d) H ((vs.drop o).take k) ((us.drop o).take k) f ∧ (∀ b ∈ f, b ∈ fp) ∧
      ∀ ws xs, Fit H fp f (fun H' f' => OwnL (OwnX I d) H' ws xs f') (fun H' fp' => OwnL (OwnX I d) H' (vs.take o ++ (ws ++ (vs.drop o).drop k)) (us.take o ++ (xs ++ (us.drop o).drop k)) fp') := by
  obtain ⟨f1, g1, p1, p2, p3, p4⟩ := h.split o
  obtain ⟨f2, f3, q1, q2, q3, q4⟩ := p2.split k
  have i1 : ∀ b ∈ f1, b ∈ fp := fun b hb => by rw [p4]; exact List.mem_append.2 (.inl hb)
  have i2 : ∀ b ∈ f2, b ∈ fp := fun b hb => by rw [p4, q4]; exact List.mem_append.2 (.inr (List.mem_append.2 (.inl hb)))
  have i3 : ∀ b ∈ f3, b ∈ fp := fun b hb => by rw [p4, q4]; exact List.mem_append.2 (.inr (List.mem_append.2 (.inr hb)))
  have n1 : ∀ b ∈ f1, b ∉ f2 := fun b hb h => p3 b hb (by rw [q4]; exact List.mem_append.2 (.inl h))
  have n13 : ∀ b ∈ f1, b ∉ f3 := fun b hb h => p3 b hb (by rw [q4]; exact List.mem_append.2 (.inr h))
  have n3 : ∀ b ∈ f3, b ∉ f2 := q3.symm
  refine ⟨f2, q1, i2, fun ws xs H' f' hi hk hs => ⟨f1 ++ (f' ++ f3), ?_, ?_⟩⟩
  · refine OwnL.append (p1.fr fun b hb => hk b (i1 b hb) (n1 b hb)) (OwnL.append hi (q2.fr fun b hb => hk b (i3 b hb) (n3 b hb)) fun b hb hb2 => ?_) fun b hb hb2 => ?_
    · rcases hs b hb with h | h
      · exact n3 b hb2 h
      · exact h (i3 b hb2)
    · rcases List.mem_append.1 hb2 with h | h
      · rcases hs b h with h | h
        · exact n1 b hb h
        · exact h (i1 b hb)
      · exact n13 b hb h
  · intro b hb
    rcases List.mem_append.1 hb with h | h
    · exact .inr ⟨i1 b h, n1 b h⟩
    · rcases List.mem_append.1 h with h | h
      · exact .inl h
      · exact .inr ⟨i3 b h, n3 b h⟩
end

/-- The cells of a slice that is owned are those of its elements. -/
theorem own_rows {α : Type} {f : α → AV} {n : Nat} (row : RowOf n f) (hn1 : n ≠ 1) : ∀ (l : List α) (us : List AV), us.length = l.length * n → l.map f = rows n l.length us → us = l.flatMap fun x => (f x).cells
  | [], us, h1, _ => by simp at h1; simp [h1]
  | y :: l, us, h1, h2 => by
    simp only [List.map_cons, List.length_cons, rows, List.cons.injEq] at h2
    have ry := row.2 y
    rw [if_neg hn1] at ry
    have e3 := h2.1
    rw [if_neg hn1, ry.2] at e3
    simp only [AV.agg.injEq] at e3
    have := own_rows row hn1 l (us.drop n) (by rw [List.length_drop, h1, List.length_cons, Nat.succ_mul]; omega) h2.2
    simp only [List.flatMap_cons]
    rw [← this, e3, List.take_append_drop]

theorem flat_at {α : Type} {f : α → AV} {n : Nat} (row : RowOf n f) {x : α} : ∀ {l : List α} {i : Nat}, l[i]? = some x →
    ((l.flatMap fun x => (f x).cells).drop (i * n)).take n = (f x).cells ∧ ∀ x', (l.set i x').flatMap (fun x => (f x).cells) = (l.flatMap fun x => (f x).cells).take (i * n) ++ ((f x').cells ++ ((l.flatMap fun x => (f x).cells).drop (i * n)).drop n)
  | [], i, h => by simp at h
  | y :: l, 0, h => by
    have ry := (row.2 y).1
    simp at h; subst h
    simp only [List.flatMap_cons, Nat.zero_mul, List.drop_zero, List.set_cons_zero, List.take_zero, List.nil_append]
    refine ⟨by rw [List.take_append_of_le_length (by omega), List.take_of_length_le (by omega)], fun x' => ?_⟩
    rw [List.drop_append, List.drop_of_length_le (by omega), List.nil_append, ry, Nat.sub_self, List.drop_zero]
  | y :: l, i + 1, h => by
    have ry := (row.2 y).1
    have ih := flat_at row (l := l) (i := i) (x := x) (by simpa using h)
    have e : (i + 1) * n = n + i * n := by rw [Nat.succ_mul]; omega
    have e1 : ((f y).cells ++ l.flatMap fun x => (f x).cells).drop ((i + 1) * n) = (l.flatMap fun x => (f x).cells).drop (i * n) := by
      rw [List.drop_append, List.drop_of_length_le (by omega), List.nil_append, ry, e, Nat.add_sub_cancel_left]
    simp only [List.flatMap_cons, List.set_cons_succ]
    rw [e1]
    refine ⟨ih.1, fun x' => ?_⟩
    rw [ih.2 x', e, List.take_append, List.take_of_length_le (l := (f y).cells) (by omega), ry, Nat.add_sub_cancel_left, List.append_assoc]

theorem splice_mid {cs ws : List AV} {off len n i : Nat} (hl : off + len * n ≤ cs.length) (hi : i < len) (hw : ws.length = n) :
    ((splice cs (off + i * n) ws).drop off).take (len * n) = ((cs.drop off).take (len * n)).take (i * n) ++ (ws ++ (((cs.drop off).take (len * n)).drop (i * n)).drop n) := by
  have hm : i * n + n ≤ len * n := by
    have : (i + 1) * n ≤ len * n := Nat.mul_le_mul_right _ hi
    rw [Nat.succ_mul] at this; exact this
  have e1 : (splice cs (off + i * n) ws).drop off = (cs.drop off).take (i * n) ++ (ws ++ cs.drop (off + i * n + n)) := by
    unfold splice
    rw [List.append_assoc, List.drop_append_of_le_length (by simp; omega), hw]
    congr 1
    rw [List.drop_take, Nat.add_sub_cancel_left]
  have hA : ((cs.drop off).take (i * n)).length = i * n := by simp; omega
  rw [e1, List.take_append, List.take_of_length_le (l := (cs.drop off).take (i * n)) (by omega), hA, List.take_append, List.take_of_length_le (l := ws) (by omega), hw, List.take_take, Nat.min_eq_left (by omega : i * n ≤ len * n)]
  congr 2
  rw [List.drop_drop, List.drop_take, List.drop_drop, show off + (i * n + n) = off + i * n + n by omega, show len * n - i * n - n = len * n - (i * n + n) by omega]

/-- What stands in a slice's block at an element. -/
def ElemIn {α : Type} (d : Nat) (f : α → AV) (n b o : Nat) (cs : List AV) (x : α) (H : AHeap) (fp : List Nat) : Prop :=
  ∃ ws g, H.cells b = some (splice cs o ws) ∧ ws.length = n ∧ OwnL (OwnX false d) H ws (f x).cells g ∧ b ∉ g ∧ fp = b :: g

theorem own_elem_fit {α : Type} {f : α → AV} {d n : Nat} {H : AHeap} {v : AV} {s : Sl α} {fp : List Nat} {i : Nat} {x : α} (row : RowOf n f) (hn1 : n ≠ 1) (h : OwnX false (d + 1) H v (slm f s) fp) (hi : s.l[i]? = some x) :
    ∃ b off cap cs fp2, v = .slice b off s.l.length cap n ∧ H.cells b = some cs ∧ off + i * n + n ≤ cs.length ∧ b ∈ fp ∧ b ∉ fp2 ∧ (∀ c ∈ fp2, c ∈ fp) ∧ OwnL (OwnX false d) H ((cs.drop (off + i * n)).take n) (f x).cells fp2 ∧
      ∀ x', Fit H fp (b :: fp2) (ElemIn d f n b (off + i * n) cs x') (fun H' fp' => OwnX false (d + 1) H' v (slm f (some (s.l.set i x'))) fp') := by
  have hlt : i < s.l.length := (List.getElem?_eq_some_iff.1 hi).1
  obtain ⟨b0, off0, cap0, cs0, fp0, e0, e1, e2, e3, e4, e5⟩ := own_elem row hn1 h hi
  subst e0
  have hs : s = some s.l := by cases s with
    | none => simp [Sl.l] at hi
    | some l => rfl
  rw [hs] at h
  simp only [l_some] at h
  simp only [OwnX] at h
  rcases h with ⟨h0, _, _⟩ | ⟨cs, us, fp', h1, h2, h3, h4, h5, h6, hq, h7, h8⟩
  · cases h0
  rw [e1] at h1; cases h1
  simp only [slm, AV.imm.injEq] at h7
  have hul : us.length = s.l.length * n := by
    have := h5.len
    simp only [List.length_take, List.length_drop] at this
    omega
  have hmap := own_rows row hn1 s.l us hul h7
  have hm : i * n + n ≤ s.l.length * n := by
    have : (i + 1) * n ≤ s.l.length * n := Nat.mul_le_mul_right _ hlt
    rw [Nat.succ_mul] at this; exact this
  obtain ⟨fp2, q1, q2, q3⟩ := h5.fitR (i * n) n
  obtain ⟨fl1, fl2⟩ := flat_at row hi
  refine ⟨b0, off0, cap0, cs0, fp2, rfl, e1, by omega, by rw [h8]; simp, fun hb => h6 (q2 _ hb), fun c hc => by rw [h8]; exact List.mem_cons_of_mem _ (q2 c hc), ?_, ?_⟩
  · rw [hmap, fl1] at q1
    have e1 : (((cs0.drop off0).take (s.l.length * n)).drop (i * n)).take n = (cs0.drop (off0 + i * n)).take n := by
      rw [List.drop_take, List.take_take, List.drop_drop, Nat.min_eq_left (by omega)]
    rw [e1] at q1
    exact q1
  · intro x' H' f' hIn hk hs'
    obtain ⟨ws, g, k1, k2, k3, k4, rfl⟩ := hIn
    obtain ⟨fp'', r1, r2⟩ := q3 ws (f x').cells H' g k3 (fun c hc hc2 => hk c (by rw [h8]; exact List.mem_cons_of_mem _ hc) (fun h => by
      rcases List.mem_cons.1 h with rfl | h
      · exact h6 hc
      · exact hc2 h)) (fun c hc => by
      rcases hs' c (List.mem_cons_of_mem _ hc) with h | h
      · rcases List.mem_cons.1 h with rfl | h
        · exact absurd hc k4
        · exact .inl h
      · exact .inr fun h2 => h (by rw [h8]; exact List.mem_cons_of_mem _ h2))
    rw [hmap, ← fl2 x'] at r1
    have nb : b0 ∉ fp'' := fun hb => by
      rcases r2 _ hb with h | ⟨h, _⟩
      · exact k4 h
      · exact h6 h
    refine ⟨b0 :: fp'', ?_, fun c hc => ?_⟩
    · simp only [OwnX]
      refine .inr ⟨_, (s.l.set i x').flatMap (fun x => (f x).cells), fp'', k1, h2, h3, ?_, ?_, nb, row_one row, ?_, rfl⟩
      · rw [splice_len2 (by omega)]; exact h4
      · rw [splice_mid h4 hlt k2]; exact r1
      · have e := rows_map row (s.l.set i x')
        rw [List.length_set] at e
        rw [e]; rfl
    · rcases List.mem_cons.1 hc with rfl | hc
      · exact .inl (by simp)
      · rcases r2 c hc with h | ⟨h, h2⟩
        · exact .inl (List.mem_cons_of_mem _ h)
        · refine .inr ⟨by rw [h8]; exact List.mem_cons_of_mem _ h, fun hc2 => ?_⟩
          rcases List.mem_cons.1 hc2 with rfl | hc2
          · exact h6 h
          · exact h2 hc2

end Go.Hem
/- Walks: known, by running it. -/
set_option maxRecDepth 10000
namespace Go.Hem
def pures : List Nat := [33, 25, 14, 15, 16, 17, 18, 20, 21, 22, 23, 24, 26, 27, 28, 31, 35, 36, 37, 38, 41, 46, 49, 50, 51, 58, 59, 68, 71, 72, 79, 80, 81, 82, 96, 99, 100, 106, 113, 19]
def okTrue : XR AV → Bool
  | .ok (.sc (.bool b)) => b
  | _ => false
theorem okTrue_spec {r : XR AV} (h : okTrue r = true) : r = .ok (.sc (.bool true)) := by
  unfold okTrue at h
  split at h
  · subst h; rfl
  · cases h
end Go.Hem
/- What is copied is equal; what is short is tame. -/
set_option maxRecDepth 10000
set_option linter.unusedSimpArgs false
set_option linter.unusedVariables false
namespace Go.Hem
/-- What owns without immutable lists owns. -/
theorem OwnX.up {I : Bool} {H : AHeap} : ∀ {d : Nat} {v u : AV} {fp : List Nat}, OwnX I d H v u fp → Own d H v u fp
  | 0, _, _, _, h => h.elim
  | d + 1, v, u, fp, h => by
    cases v <;> simp only [OwnX] at h ⊢
    case sc => exact h
    case imm => exact ⟨trivial, h.2⟩
    case agg cs =>
      obtain ⟨us, h1, h2⟩ := h
      exact ⟨us, h1, h2.le fun _ _ _ a => OwnX.up a⟩
    case slice b off len cap n =>
      rcases h with h | ⟨cs, us, fp', h1, h2, h3, h4, h5, h6, hq, h7, rfl⟩
      · exact .inl ⟨trivial, h.2⟩
      · exact .inr ⟨cs, us, fp', h1, h2, (fun e => by cases e), h4, h5.le fun _ _ _ a => OwnX.up a, h6, hq, h7, rfl⟩
def pures8 : List Nat := [40, 86, 87, 88, 89, 90, 91, 92, 125, 126, 127, 128, 138, 139, 140, 145, 146, 147, 149, 150, 151, 152, 153] ++ pures
end Go.Hem
/- The law ScoreEquals, by the interpreter. -/
set_option maxRecDepth 10000
set_option maxHeartbeats 4000000
set_option linter.unusedSimpArgs false
set_option linter.unusedVariables false
namespace Go.Hem
theorem own6 {I : Bool} {d : Nat} {H : AHeap} {cs : List AV} {s : Score} {fp : List Nat} (h : OwnL (OwnX I (d + 1)) H cs s.enc.cells fp) : ∃ v2 v3 v4 v5 f2 f3 f4 f5, cs = [.sc (.str s.title), .sc (.bool s.written), v2, v3, v4, v5] ∧
    OwnX I (d + 1) H v2 (slm Part.enc s.parts) f2 ∧ OwnX I (d + 1) H v3 (slm Measure.enc s.measures) f3 ∧ OwnX I (d + 1) H v4 (slm Spanner.enc s.spanners) f4 ∧ OwnX I (d + 1) H v5 (slm ID.enc s.last) f5 ∧
    (∀ b ∈ f2, b ∈ fp) ∧ (∀ b ∈ f3, b ∈ fp) ∧ (∀ b ∈ f4, b ∈ fp) ∧ (∀ b ∈ f5, b ∈ fp) := by
  have hl := h.len
  obtain ⟨v0, f0, e0, h0, s0⟩ := h.cell (j := 0) (u := .sc (.str s.title)) rfl
  obtain ⟨v1, f1, e1, h1, s1⟩ := h.cell (j := 1) (u := .sc (.bool s.written)) rfl
  obtain ⟨v2, f2, e2, h2, s2⟩ := h.cell (j := 2) (u := slm Part.enc s.parts) rfl
  obtain ⟨v3, f3, e3, h3, s3⟩ := h.cell (j := 3) (u := slm Measure.enc s.measures) rfl
  obtain ⟨v4, f4, e4, h4, s4⟩ := h.cell (j := 4) (u := slm Spanner.enc s.spanners) rfl
  obtain ⟨v5, f5, e5, h5, s5⟩ := h.cell (j := 5) (u := slm ID.enc s.last) rfl
  have sc_of : ∀ {v : AV} {x : Sc} {f : List Nat}, OwnX I (d + 1) H v (.sc x) f → v = .sc x := by
    intro v x f h
    cases v <;> simp only [OwnX] at h
    case sc y => obtain ⟨e, _⟩ := h; exact e.symm
    case imm => obtain ⟨_, e, _⟩ := h; cases e
    case agg => obtain ⟨_, e, _⟩ := h; cases e
    case slice => rcases h with ⟨_, _, e, _⟩ | ⟨_, _, _, _, _, _, _, _, _, _, e, _⟩ <;> cases e
  have e0' := sc_of h0
  have e1' := sc_of h1
  subst e0' e1'
  refine ⟨v2, v3, v4, v5, f2, f3, f4, f5, ?_, h2, h3, h4, h5, s2, s3, s4, s5⟩
  match cs, hl with
  | [a, b, c, d, e, f], _ =>
    simp only [List.getElem?_cons_zero, List.getElem?_cons_succ, Option.some.injEq] at e0 e1 e2 e3 e4 e5
    subst e0 e1 e2 e3 e4 e5; rfl
end Go.Hem
/- Walks: what visit yields over a score that is owned. -/
set_option maxRecDepth 10000
set_option maxHeartbeats 4000000
set_option linter.unusedSimpArgs false
set_option linter.unusedVariables false
namespace Go.Hem
variable {pol : Pol}
inductive Pos where
  | part (i : Nat)
  | staff (i k st : Nat)
  | measure (m : Nat)
  | event (m c v e : Nat)
  | spanner (i : Nat)
  deriving DecidableEq
def Pos.place : Pos → Place
  | .part i => ⟨1, i, 0, 0, 0, 0, 0⟩
  | .staff _ _ st => ⟨2, 0, st, 0, 0, 0, 0⟩
  | .measure m => ⟨3, 0, 0, m, 0, 0, 0⟩
  | .event m c v e => ⟨4, 0, c, m, v, e, 0⟩
  | .spanner i => ⟨5, 0, 0, 0, 0, 0, i⟩
/-! ### Changes at a place -/
def Score.setP (a : Score) (i : Nat) (x : Part) : Score := { a with parts := some (a.parts.l.set i x) }
def Part.setS (a : Part) (i : Nat) (x : Staff) : Part := { a with staves := some (a.staves.l.set i x) }
def Score.setM (a : Score) (i : Nat) (x : Measure) : Score := { a with measures := some (a.measures.l.set i x) }
def Measure.setC (a : Measure) (i : Nat) (x : Cell) : Measure := { a with cells := some (a.cells.l.set i x) }
def Cell.setV (a : Cell) (i : Nat) (x : Voice) : Cell := { a with voices := some (a.voices.l.set i x) }
def Voice.setE (a : Voice) (i : Nat) (x : Event) : Voice := { a with events := some (a.events.l.set i x) }
def Score.setX (a : Score) (i : Nat) (x : Spanner) : Score := { a with spanners := some (a.spanners.l.set i x) }
/-- The id at a place is x, and b is the score with d there. -/
inductive IdAt (a : Score) : Pos → ID → (ID → Score) → Prop
  | part {i : Nat} {p : Part} : a.parts.l[i]? = some p → IdAt a (.part i) p.id fun d => a.setP i { p with id := d }
  | staff {i k st : Nat} {p : Part} {q : Staff} : a.parts.l[i]? = some p → p.staves.l[k]? = some q → IdAt a (.staff i k st) q.id fun d => a.setP i (p.setS k { q with id := d })
  | measure {m : Nat} {y : Measure} : a.measures.l[m]? = some y → IdAt a (.measure m) y.id fun d => a.setM m { y with id := d }
  | event {m c v e : Nat} {y : Measure} {q : Cell} {z : Voice} {w : Event} : a.measures.l[m]? = some y → y.cells.l[c]? = some q → q.voices.l[v]? = some z → z.events.l[e]? = some w →
      IdAt a (.event m c v e) w.id fun d => a.setM m (y.setC c (q.setV v (z.setE e { w with id := d })))
  | spanner {i : Nat} {y : Spanner} : a.spanners.l[i]? = some y → IdAt a (.spanner i) y.id fun d => a.setX i { y with id := d }

/-- A score in a block, what lies below in blocks of a list. -/
def OwnScore (H : AHeap) (bS : Nat) (R : List Nat) (a : Score) : Prop := ∃ cs fp, H.cells bS = some cs ∧ OwnL (OwnX false 7) H cs a.enc.cells fp ∧ ∀ b ∈ fp, b ∈ R
/-- One of the lists of a score, and how it is put anew. -/
def Foc (H : AHeap) (bS : Nat) (R : List Nat) (a : Score) (v : AV) (j : Nat) (u : AV) : Prop :=
  ∃ f, OwnX false 7 H v u f ∧ (∀ b ∈ f, b ∈ R) ∧ ∀ (a' : Score) (u' : AV), a'.enc.cells = a.enc.cells.set j u' → ∀ H' f' R', OwnX false 7 H' v u' f' → H'.cells bS = H.cells bS → (∀ b ∈ R, b ∉ f → H'.cells b = H.cells b) →
    (∀ b ∈ f', b ∈ f ∨ b ∉ R) → (∀ b ∈ R, b ∈ R') → (∀ b ∈ f', b ∈ R') → OwnScore H' bS R' a'
section
variable {H : AHeap} {bS : Nat} {R : List Nat} {a : Score}
theorem Foc.len {α : Type} {f : α → AV} {v : AV} {j : Nat} {s : Sl α} (h : Foc H bS R a v j (slm f s)) : lenOf v = some (.sc (.int .i64 s.l.length)) := by
  obtain ⟨f, h, _⟩ := h; exact (own_len h).1
theorem Fit.refl {H : AHeap} {f : List Nat} {A : AHeap → List Nat → Prop} : Fit H f f A A := fun H' f' hi _ _ => ⟨f', hi, fun b hb => .inl hb⟩

end
end Go.Hem
/- Walks: what visit yields over a score that is owned. -/
set_option maxRecDepth 10000
set_option maxHeartbeats 4000000
set_option linter.unusedSimpArgs false
set_option linter.unusedVariables false
namespace Go.Hem
variable {pol : Pol}
structure SameShape (a s : Score) : Prop where
  parts : a.parts.l.length = s.parts.l.length
  staves : ∀ (i : Nat) p q, s.parts.l[i]? = some p → a.parts.l[i]? = some q → q.staves.l.length = p.staves.l.length
  measures : a.measures.l.length = s.measures.l.length
  cells : ∀ (m : Nat) y y', s.measures.l[m]? = some y → a.measures.l[m]? = some y' → y'.cells.l.length = y.cells.l.length
  voices : ∀ (m : Nat) y y' (c : Nat) q q', s.measures.l[m]? = some y → a.measures.l[m]? = some y' → y.cells.l[c]? = some q → y'.cells.l[c]? = some q' → q'.voices.l.length = q.voices.l.length
  events : ∀ (m : Nat) y y' (c : Nat) q q' (v : Nat) z z', s.measures.l[m]? = some y → a.measures.l[m]? = some y' → y.cells.l[c]? = some q → y'.cells.l[c]? = some q' → q.voices.l[v]? = some z → q'.voices.l[v]? = some z' → z'.events.l.length = z.events.l.length
  spanners : a.spanners.l.length = s.spanners.l.length
theorem same_at {α : Type} {l : List α} {x y : α} {i : Nat} (h : l[i]? = some x) (k : l[i]? = some y) : y = x := by rw [h] at k; cases k; rfl
theorem SameShape.refl (s : Score) : SameShape s s := by
  refine ⟨rfl, fun i p q h k => by rw [same_at h k], rfl, fun m y y' h k => by rw [same_at h k], fun m y y' c q q' h k h2 k2 => ?_, fun m y y' c q q' v z z' h k h2 k2 h3 k3 => ?_, rfl⟩
  · have := same_at h k; subst this; rw [same_at h2 k2]
  · have := same_at h k; subst this
    have := same_at h2 k2; subst this
    rw [same_at h3 k3]
section
variable {a s : Score} (h : SameShape a s)
include h
end
section
variable {H : AHeap} {bS : Nat} {R : List Nat} {a : Score}
end
end Go.Hem
/- Walks: IndexFunc and DeleteFunc over the spanners of a copy. -/
set_option maxRecDepth 10000
set_option maxHeartbeats 4000000
set_option linter.unusedSimpArgs false
set_option linter.unusedVariables false
namespace Go.Hem
variable {pol : Pol}
def idxAV : Option Nat → AV
  | some i => .sc (.int .i64 i)
  | none => .sc (.int .i64 (-1))
end Go.Hem
/- Walks: IndexFunc over owned ids; what slices.Insert does with owned slices. -/
set_option maxRecDepth 10000
set_option maxHeartbeats 4000000
set_option linter.unusedSimpArgs false
set_option linter.unusedVariables false
namespace Go.Hem
variable {pol : Pol}
/-! ### Insert into what is owned -/
theorem flat_take {α : Type} {f : α → AV} {n : Nat} (row : RowOf n f) {l : List α} {i : Nat} (h : i ≤ l.length) : (l.flatMap fun x => (f x).cells).take (i * n) = (l.take i).flatMap fun x => (f x).cells := by
  have e : l.flatMap (fun v => (f v).cells) = (l.take i).flatMap (fun v => (f v).cells) ++ (l.drop i).flatMap fun v => (f v).cells := by
    rw [← List.flatMap_append, List.take_append_drop]
  rw [e, List.take_left' (by rw [flat_len row, List.length_take]; congr 1; omega)]
theorem flat_drop {α : Type} {f : α → AV} {n : Nat} (row : RowOf n f) {l : List α} {i : Nat} (h : i ≤ l.length) : (l.flatMap fun x => (f x).cells).drop (i * n) = (l.drop i).flatMap fun x => (f x).cells := by
  have e : l.flatMap (fun v => (f v).cells) = (l.take i).flatMap (fun v => (f v).cells) ++ (l.drop i).flatMap fun v => (f v).cells := by
    rw [← List.flatMap_append, List.take_append_drop]
  rw [e, List.drop_left' (by rw [flat_len row, List.length_take]; congr 1; omega)]
/-- A list with further elements; nothing is done for none. -/
def Sl.ins {α : Type} (s : Sl α) (i : Nat) (el : List α) : Sl α := if el = [] then s else some (s.l.take i ++ el ++ s.l.drop i)
theorem own_two {d b off len cap n : Nat} {H : AHeap} {u : AV} {fp : List Nat} (h : OwnX false (d + 1) H (.slice b off len cap n) u fp) : 2 ≤ n := by
  simp only [OwnX] at h
  rcases h with ⟨h, _⟩ | ⟨_, _, _, _, _, h, _⟩
  · cases h
  · exact (h trivial).2
theorem ins_own {α : Type} {f : α → AV} {d n by' i bv m cp nv : Nat} {H : AHeap} {v : AV} {s : Sl α} {fp fx : List Nat} {el : List α} {cx ys : List AV} (row : RowOf n f) (hn1 : n ≠ 1) (h : OwnX false (d + 1) H v (slm f s) fp) (hN : RowN n v) (hi : i ≤ s.l.length)
    (hbv : H.cells bv = some cx) (hm : m = el.length) (hlx : m * n ≤ cx.length) (hx : cx.take (m * n) = ys) (ho : OwnL (OwnX false d) H ys (el.flatMap fun x => (f x).cells) fx) (ha : Apart fp fx) (hbf : bv ∉ fp) (hbig : (2 * (s.l.length + m) + 1000) * by' ≤ 2 ^ 47) (h40 : s.l.length + m < 2 ^ 40) :
    ∃ v' H' fp', insE n by' v (i : Int) bv 0 m cp nv H = some (v', H') ∧ OwnX false (d + 1) H' v' (slm f (s.ins i el)) fp' ∧ (∀ b ∈ fp', b ∈ fp ∨ b ∈ fx ∨ H.next ≤ b) ∧ (∀ b, b ∉ fp → b < H.next → H'.cells b = H.cells b) ∧ H.next ≤ H'.next := by
  have hn2 : 2 ≤ n := by have := row.1; omega
  have hsrc : asrc n H (.slice bv 0 m cp nv) m = some ys := by
    simp only [asrc, AHeap.rd, hbv, Option.some_or, Option.bind_some, Nat.zero_add, List.drop_zero]
    rw [if_pos ⟨Nat.le_refl _, hlx⟩, hx]
  have hyl : ys.length = m * n := by rw [← hx, List.length_take]; omega
  have hlen := (own_len h).1
  cases v with
  | sc x =>
    simp only [OwnX] at h
    obtain ⟨h1, rfl⟩ := h
    cases s with
    | some l => simp [slm] at h1
    | none =>
      simp only [slm, AV.sc.injEq] at h1
      subst h1
      have hi0 : i = 0 := by simpa [Sl.l] using hi
      subst hi0
      by_cases hm0 : m = 0
      · have hel : el = [] := List.length_eq_zero_iff.1 (by omega)
        refine ⟨.sc .nils, H, [], ?_, ?_, by simp, fun _ _ _ => rfl, Nat.le_refl _⟩
        · simp [insE, hm0]
        · rw [Sl.ins, if_pos hel]; exact ⟨rfl, rfl⟩
      · have hel : el ≠ [] := fun e => hm0 (by rw [hm, e]; rfl)
        refine ⟨.slice H.next 0 m m n, H.alloc (.cells ys), H.next :: fx, ?_, ?_, ?_, ?_, by simp⟩
        · simp only [insE, Int.natCast_zero, if_true, if_neg hm0, hsrc, Option.map_some]
          rw [if_pos (by simpa [Sl.l] using hbig)]
        · rw [Sl.ins, if_neg hel]
          have hfx := ho.lts
          refine .inr ⟨ys, el.flatMap fun x => (f x).cells, fx, by rw [h_alloc, if_pos rfl], ⟨row.1, Nat.le_refl _⟩, fun _ => ⟨rfl, hn2⟩, by omega, ?_, fun hc => by have := hfx _ hc; omega, fun e => absurd e hn1, ?_, rfl⟩
          · rw [List.drop_zero, List.take_of_length_le (by omega)]
            exact ho.fr fun b hb => by have := hfx b hb; rw [c_alloc_ne (by omega)]
          · rw [hm, rows_map row]; simp [slm, Sl.l]
        · intro b hb
          rcases List.mem_cons.1 hb with rfl | hb
          · exact .inr (.inr (Nat.le_refl _))
          · exact .inr (.inl hb)
        · intro b _ hb; rw [c_alloc_ne (by omega)]
  | slice b off len cap n' =>
    simp only [lenOf, Option.some.injEq, AV.sc.injEq, Sc.int.injEq, true_and] at hlen
    have hlen : len = s.l.length := by omega
    subst hlen
    have h' := h
    simp only [OwnX] at h
    rcases h with ⟨h0, _⟩ | ⟨cs, us, fp', h1, ⟨h2, h2'⟩, h3, h4, h5, h6, hq, h7, rfl⟩
    · cases h0
    have h3 := (h3 trivial).1
    subst h3
    obtain ⟨l, rfl⟩ : ∃ l, s = some l := by
      cases s with
      | none => simp [slm] at h7
      | some l => exact ⟨l, rfl⟩
    simp only [l_some] at *
    have hnn := hN _ _ _ _ _ rfl
    by_cases hm0 : m = 0
    · have hel : el = [] := List.length_eq_zero_iff.1 (by omega)
      refine ⟨.slice b 0 l.length cap n', H, b :: fp', ?_, ?_, fun c hc => .inl hc, fun _ _ _ => rfl, Nat.le_refl _⟩
      · simp only [insE, hm0, if_true]
        rw [if_pos ⟨by omega, by omega⟩]
      · rw [Sl.ins, if_pos hel]; exact h'
    have hel : el ≠ [] := fun e => hm0 (by rw [hm, e]; rfl)
    simp only [slm, AV.imm.injEq] at h7
    simp only [Nat.zero_add, List.drop_zero] at h4 h5
    have hul : us.length = l.length * n' := by
      have := h5.len
      simp only [List.length_take] at this
      omega
    -- the rows are of n cells where there are any
    obtain ⟨hln, hus⟩ : l.length * n' = l.length * n ∧ us = l.flatMap fun x => (f x).cells := by
      cases hl : l with
      | nil => rw [hl] at hul; exact ⟨by simp, by simpa using hul⟩
      | cons y r =>
        have hnq : n' = n := by
          rw [hl] at h7
          simp only [List.map_cons, List.length_cons, rows, List.cons.injEq] at h7
          have ry := row.2 y
          rw [if_neg hn1] at ry
          have e3 := h7.1
          rw [if_neg (by omega : ¬ n' = 1), ry.2] at e3
          simp only [AV.agg.injEq] at e3
          have e4 := congrArg List.length e3
          rw [ry.1, List.length_take, hul, hl, List.length_cons, Nat.succ_mul] at e4
          omega
        subst hnq
        refine ⟨rfl, ?_⟩
        rw [← hl]
        exact own_rows row hn1 l us hul h7
    subst hus
    rw [hln] at h4 h5
    have hbl := h_lt h1
    have hap : Apart fp' fx := fun c hc => ha c (by simp [hc])
    have hbx : b ∉ fx := ha b (by simp)
    have hfp := h5.lts
    have hfx := ho.lts
    obtain ⟨f1, g1, p1, p2, p3, p4⟩ := h5.split (i * n)
    rw [flat_take row hi] at p1
    rw [flat_drop row hi] at p2
    have s1 : ∀ c ∈ f1, c ∈ fp' := fun c hc => by rw [p4]; exact List.mem_append.2 (.inl hc)
    have s2 : ∀ c ∈ g1, c ∈ fp' := fun c hc => by rw [p4]; exact List.mem_append.2 (.inr hc)
    have hnew : OwnL (OwnX false d) H ((cs.take (l.length * n)).take (i * n) ++ ys ++ (cs.take (l.length * n)).drop (i * n)) ((l.take i ++ el ++ l.drop i).flatMap fun x => (f x).cells) (f1 ++ fx ++ g1) := by
      rw [List.flatMap_append, List.flatMap_append]
      exact (p1.append ho fun c hc => hap c (s1 c hc)).append p2 (Apart.app p3 fun c hc hc2 => hap c (s2 c hc2) hc)
    generalize hZ : (cs.take (l.length * n)).take (i * n) ++ ys ++ (cs.take (l.length * n)).drop (i * n) = Z at hnew
    have hk : ∀ c, c ≠ b → c < H.next → ((H.put b none).alloc (.cells Z)).cells c = H.cells c := fun c hc hc2 => by
      rw [c_alloc_ne (by rw [AHeap.next_put]; omega), c_put_ne hc]
    refine ⟨.slice H.next 0 (l.length + m) (l.length + m) n, (H.put b none).alloc (.cells Z), H.next :: (f1 ++ fx ++ g1), ?_, ?_, ?_, ?_, by simp⟩
    · simp only [insE]
      rw [if_pos ⟨by omega, by omega⟩, if_neg hm0, if_pos ⟨by trivial, hnn, fun e => hbf (by simp [e]), hbig, h40⟩, h1, Option.bind_some, hsrc, Option.bind_some, if_pos h4, Int.toNat_natCast, hZ]
    · rw [Sl.ins, if_neg hel]
      have hZl : Z.length = (l.length + m) * n := by
        rw [← hZ]
        simp only [List.length_append, List.length_take, List.length_drop, hyl]
        have e1 : i * n ≤ l.length * n := Nat.mul_le_mul_right _ hi
        rw [Nat.add_mul]; omega
      have hll : l.length + m = (l.take i ++ el ++ l.drop i).length := by
        simp only [List.length_append, List.length_take, List.length_drop]; omega
      have hin : ∀ c ∈ f1 ++ fx ++ g1, c ≠ b ∧ c < H.next := fun c hc => by
        rcases List.mem_append.1 hc with hc | hc
        · rcases List.mem_append.1 hc with hc | hc
          · exact ⟨fun e => h6 (e ▸ s1 c hc), hfp c (s1 c hc)⟩
          · exact ⟨fun e => hbx (e ▸ hc), hfx c hc⟩
        · exact ⟨fun e => h6 (e ▸ s2 c hc), hfp c (s2 c hc)⟩
      refine .inr ⟨Z, (l.take i ++ el ++ l.drop i).flatMap fun x => (f x).cells, f1 ++ fx ++ g1, ?_, ⟨row.1, Nat.le_refl _⟩, fun _ => ⟨rfl, hn2⟩, by omega, ?_, fun hc => by have := (hin _ hc).2; omega, fun e => absurd e hn1, ?_, rfl⟩
      · rw [show H.next = (H.put b none).next by rw [AHeap.next_put], h_alloc, if_pos rfl]
      · rw [List.drop_zero, List.take_of_length_le (by omega)]
        exact hnew.fr fun c hc => hk c (hin c hc).1 (hin c hc).2
      · rw [hll, rows_map row]; simp [slm, Sl.l]
    · intro c hc
      rcases List.mem_cons.1 hc with rfl | hc
      · exact .inr (.inr (Nat.le_refl _))
      rcases List.mem_append.1 hc with hc | hc
      · rcases List.mem_append.1 hc with hc | hc
        · exact .inl (by simp [s1 c hc])
        · exact .inr (.inl hc)
      · exact .inl (by simp [s2 c hc])
    · intro c hc hc2
      exact hk c (fun e => hc (by simp [e])) hc2
  | _ => simp [OwnX] at h; try (obtain ⟨_, e, _⟩ := h; cases s <;> simp [slm] at e)
end Go.Hem
/- Walks: DeleteFunc over the spanners of a copy. -/
set_option maxRecDepth 10000
set_option maxHeartbeats 4000000
set_option linter.unusedSimpArgs false
set_option linter.unusedVariables false
namespace Go.Hem
variable {pol : Pol}
end Go.Hem
/- What a copy lists; the ids of events. -/
set_option linter.unusedSimpArgs false
set_option linter.unusedVariables false
namespace Go.Hem
section
variable (a : Score)
end
end Go.Hem
/- Walks: what visit yields. -/
set_option maxRecDepth 10000
set_option maxHeartbeats 4000000
set_option linter.unusedSimpArgs false
set_option linter.unusedVariables false
namespace Go.Hem
variable {pol : Pol}
end Go.Hem
/- Walks: score.IDs. -/
set_option maxRecDepth 10000
set_option maxHeartbeats 4000000
set_option linter.unusedSimpArgs false
set_option linter.unusedVariables false
namespace Go.Hem
variable {pol : Pol}
end Go.Hem
/- Walks: score.Prune. -/
set_option maxRecDepth 10000
set_option maxHeartbeats 4000000
set_option linter.unusedSimpArgs false
set_option linter.unusedVariables false
namespace Go.Hem
variable {pol : Pol}
theorem splice_full {z cs : List AV} (h : z.length = cs.length) : splice z 0 cs = cs := by
  unfold splice
  rw [List.take_zero, List.nil_append, List.drop_of_length_le (by omega), List.append_nil]
end Go.Hem
/- Walks: with, and the closures of SetMeasure and SetCell. -/
set_option maxRecDepth 10000
set_option maxHeartbeats 4000000
set_option linter.unusedSimpArgs false
set_option linter.unusedVariables false
namespace Go.Hem
variable {pol : Pol}
section
variable {H : AHeap} {bS : Nat} {R : List Nat}
end
end Go.Hem
/- Walks: SetMeasure and SetCell. -/
set_option maxRecDepth 10000
set_option maxHeartbeats 4000000
set_option linter.unusedSimpArgs false
set_option linter.unusedVariables false
namespace Go.Hem
variable {pol : Pol}
def Score.none : Score := ⟨⟨#[]⟩, false, Option.none, Option.none, Option.none, Option.none⟩
def okAV (s : Score) : AV := .tup [s.enc, .sc (.int .i64 0)]
def erAV (e : Int) : AV := .tup [Score.none.enc, .sc (.int .i64 e)]
theorem plain_er (e : Int) : (erAV e).plain = true := rfl
end Go.Hem
/- Walks: score.Give. -/
set_option maxRecDepth 10000
set_option maxHeartbeats 4000000
set_option linter.unusedSimpArgs false
set_option linter.unusedVariables false
namespace Go.Hem
variable {pol : Pol}
/-- A value that is owned, and a number beside it. -/
theorem frz_tup {I : Bool} {d : Nat} {H : AHeap} {v u : AV} {fp : List Nat} {x : Sc} (h : OwnX I d H v u fp) (hd : d ≤ 19) : Frz (.tup [v, .sc x]) H (.tup [u, .sc x]) := by
  obtain ⟨H1, h1, h2, _⟩ := freezeV_own (h.mono hd)
  refine ⟨H1, ?_, ?_⟩
  · have e : ∀ k (l : List AV) H, freezeV (k + 1) (.tup l) H = (freezeL (freezeV k) l H).map fun r => (.tup r.1, r.2) := fun _ _ _ => rfl
    have e2 : ∀ k H, freezeV (k + 1) (.sc x) H = some (.sc x, H) := fun _ _ => rfl
    show freezeV (19 + 1) _ _ = _
    rw [e, freezeL, h1, Option.bind_some, freezeL, e2 18, Option.bind_some, freezeL]; rfl
  · simp only [AV.closedB, AV.closedBs, h2, Bool.and_self]
def Score.gv (s : Score) (st n : Int) : Score := { s.cl with last := some (giveL s.last.l st n) }
end Go.Hem
