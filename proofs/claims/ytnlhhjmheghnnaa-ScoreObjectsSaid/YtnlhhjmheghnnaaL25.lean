/- The law ScoreObjects, by the interpreter. -/
import Derived.Test.YtnlhhjmheghnnaaL24
import Derived.Test.YtnlhhjmheghnnaaL12
set_option maxRecDepth 10000
set_option maxHeartbeats 4000000
set_option linter.unusedSimpArgs false
set_option linter.unusedVariables false
namespace Go.Hem
theorem kind_objs (s : Score) : ∀ o ∈ objs s, 0 < o.place.kind := by
  have h1 : ∀ (l : List Staff) st, ∀ o ∈ objStaves st l, 0 < o.place.kind := by
    intro l; induction l with
    | nil => intro st o h; simp [objStaves] at h
    | cons x l ih => intro st o h; simp only [objStaves, List.mem_cons] at h; rcases h with rfl | h; · simp [oStaff, oPart, oEvent, oMeasure, oSpanner]
                     · exact ih _ o h
  have h2 : ∀ (l : List Part) i st, ∀ o ∈ objParts i st l, 0 < o.place.kind := by
    intro l; induction l with
    | nil => intro i st o h; simp [objParts] at h
    | cons x l ih => intro i st o h; simp only [objParts, List.mem_cons, List.mem_append] at h; rcases h with rfl | h | h; · simp [oStaff, oPart, oEvent, oMeasure, oSpanner]
                     · exact h1 _ _ o h
                     · exact ih _ _ o h
  have h3 : ∀ (l : List Event) m c v e, ∀ o ∈ objEvents m c v e l, 0 < o.place.kind := by
    intro l; induction l with
    | nil => intro m c v e o h; simp [objEvents] at h
    | cons x l ih => intro m c v e o h; simp only [objEvents, List.mem_cons] at h; rcases h with rfl | h; · simp [oStaff, oPart, oEvent, oMeasure, oSpanner]
                     · exact ih _ _ _ _ o h
  have h4 : ∀ (l : List Voice) m c v, ∀ o ∈ objVoices m c v l, 0 < o.place.kind := by
    intro l; induction l with
    | nil => intro m c v o h; simp [objVoices] at h
    | cons x l ih => intro m c v o h; simp only [objVoices, List.mem_append] at h; rcases h with h | h
                     · exact h3 _ _ _ _ _ o h
                     · exact ih _ _ _ o h
  have h5 : ∀ (l : List Cell) m c, ∀ o ∈ objCells m c l, 0 < o.place.kind := by
    intro l; induction l with
    | nil => intro m c o h; simp [objCells] at h
    | cons x l ih => intro m c o h; simp only [objCells, List.mem_append] at h; rcases h with h | h
                     · exact h4 _ _ _ _ o h
                     · exact ih _ _ o h
  have h6 : ∀ (l : List Measure) m, ∀ o ∈ objMeasures m l, 0 < o.place.kind := by
    intro l; induction l with
    | nil => intro m o h; simp [objMeasures] at h
    | cons x l ih => intro m o h; simp only [objMeasures, List.mem_cons, List.mem_append] at h; rcases h with rfl | h | h; · simp [oStaff, oPart, oEvent, oMeasure, oSpanner]
                     · exact h5 _ _ _ o h
                     · exact ih _ o h
  have h7 : ∀ (l : List Spanner) i, ∀ o ∈ objSpanners i l, 0 < o.place.kind := by
    intro l; induction l with
    | nil => intro i o h; simp [objSpanners] at h
    | cons x l ih => intro i o h; simp only [objSpanners, List.mem_cons] at h; rcases h with rfl | h; · simp [oStaff, oPart, oEvent, oMeasure, oSpanner]
                     · exact ih _ o h
  intro o h
  simp only [objs, List.mem_append] at h
  rcases h with h | h | h
  · exact h2 _ _ _ o h
  · exact h6 _ _ o h
  · exact h7 _ _ o h

theorem findO_self {l : List O} (hk : ∀ o ∈ l, 0 < o.place.kind) {o : O} (h : o ∈ l) (h0 : ¬ o.id = ID.zero) : ∃ p, findO l o.id = some p ∧ 0 < p.kind := by
  unfold findO
  rw [if_neg h0]
  cases hf : l.find? fun x => decide (x.id = o.id) with
  | none => have := List.find?_eq_none.1 hf o h; simp at this
  | some q => exact ⟨q.place, rfl, hk q (List.mem_of_find?_eq_some hf)⟩

/-- What is short is tame. -/
theorem tame_short (s : Score) : Tame s.short := by
  have e1 : s.short.parts.l = (s.parts.l.take 4).map Part.short := l_of
  have e2 : s.short.measures.l = (s.measures.l.take 5).map Measure.short := l_of
  have len_map : ∀ {α : Type} {x : Sl α} {n : Nat}, Sl.l (x.map (·.take n)) = x.l.take n := by intro α x n; cases x <;> simp [Sl.l]
  have e3 : s.short.spanners.l = s.spanners.l.take 6 := len_map
  have mm : ∀ (m : Nat) y, s.short.measures.l[m]? = some y → ∃ x : Measure, y = x.short := by
    intro m y h
    rw [e2, List.getElem?_map] at h
    cases hx : (s.measures.l.take 5)[m]? with
    | none => rw [hx] at h; cases h
    | some x => rw [hx] at h; cases h; exact ⟨x, rfl⟩
  have cc : ∀ (x : Measure) (c : Nat) q, x.short.cells.l[c]? = some q → ∃ y : Cell, q = y.short := by
    intro x c q h
    rw [show x.short.cells.l = (x.cells.l.take 6).map Cell.short from l_of, List.getElem?_map] at h
    cases hx : (x.cells.l.take 6)[c]? with
    | none => rw [hx] at h; cases h
    | some x => rw [hx] at h; cases h; exact ⟨x, rfl⟩
  have vv : ∀ (x : Cell) (c : Nat) q, x.short.voices.l[c]? = some q → ∃ y : Voice, q = y.short := by
    intro x c q h
    rw [show x.short.voices.l = (x.voices.l.take 3).map Voice.short from l_of, List.getElem?_map] at h
    cases hx : (x.voices.l.take 3)[c]? with
    | none => rw [hx] at h; cases h
    | some x => rw [hx] at h; cases h; exact ⟨x, rfl⟩
  have b1 : ∀ x : Measure, x.short.cells.l.length ≤ 6 := fun x => by rw [show x.short.cells.l = (x.cells.l.take 6).map Cell.short from l_of]; simp; omega
  have b2 : ∀ x : Cell, x.short.voices.l.length ≤ 3 := fun x => by rw [show x.short.voices.l = (x.voices.l.take 3).map Voice.short from l_of]; simp; omega
  have b3 : ∀ x : Voice, x.short.events.l.length ≤ 5 := fun x => by rw [show x.short.events.l = (x.events.l.take 5).map Event.short from l_of]; simp; omega
  have b4 : ∀ x : Part, x.short.staves.l.length ≤ 3 := fun x => by rw [show x.short.staves.l = x.staves.l.take 3 from len_map]; simp; omega
  have l1 : ∀ (l : List Staff) st, (objStaves st l).length = l.length := by intro l; induction l with
    | nil => intro _; rfl
    | cons x l ih => intro st; simp [objStaves, ih]
  have l2 : ∀ (l : List Part) i st, (objParts i st (l.map Part.short)).length ≤ 4 * l.length := by intro l; induction l with
    | nil => intro _ _; simp [objParts]
    | cons x l ih => intro i st; have := ih (i + 1) (st + x.short.staves.l.length); have := b4 x; simp [objParts, l1]; omega
  have l3 : ∀ (l : List Event) m c v e, (objEvents m c v e l).length = l.length := by intro l; induction l with
    | nil => intro _ _ _ _; rfl
    | cons x l ih => intro m c v e; simp [objEvents, ih]
  have l4 : ∀ (l : List Voice) m c v, (objVoices m c v (l.map Voice.short)).length ≤ 5 * l.length := by intro l; induction l with
    | nil => intro _ _ _; simp [objVoices]
    | cons x l ih => intro m c v; have := ih m c (v + 1); have := b3 x; simp [objVoices, l3]; omega
  have l5 : ∀ (l : List Cell) m c, (objCells m c (l.map Cell.short)).length ≤ 15 * l.length := by intro l; induction l with
    | nil => intro _ _; simp [objCells]
    | cons x l ih =>
      intro m c; have h1 := ih m (c + 1); have h2 := l4 (x.voices.l.take 3) m c 0
      rw [← show x.short.voices.l = (x.voices.l.take 3).map Voice.short from l_of] at h2
      simp only [List.length_take] at h2
      simp only [List.map_cons, objCells, List.length_append, List.length_cons]; omega
  have l6 : ∀ (l : List Measure) m, (objMeasures m (l.map Measure.short)).length ≤ 91 * l.length := by intro l; induction l with
    | nil => intro _; simp [objMeasures]
    | cons x l ih =>
      intro m; have h1 := ih (m + 1); have h2 := l5 (x.cells.l.take 6) m 0
      rw [← show x.short.cells.l = (x.cells.l.take 6).map Cell.short from l_of] at h2
      simp only [List.length_take] at h2
      simp only [List.map_cons, objMeasures, List.length_append, List.length_cons]; omega
  have l7 : ∀ (l : List Spanner) i, (objSpanners i l).length = l.length := by intro l; induction l with
    | nil => intro _; rfl
    | cons x l ih => intro i; simp [objSpanners, ih]
  have b5 : stavesOf s.short.parts.l ≤ 12 := by
    have : ∀ l : List Part, stavesOf (l.map Part.short) ≤ 3 * l.length := by
      intro l; induction l with
      | nil => simp [stavesOf]
      | cons p l ih =>
        have e : stavesOf ((p :: l).map Part.short) = p.short.staves.l.length + stavesOf (l.map Part.short) := by simp [stavesOf]
        have := b4 p; simp only [List.length_cons]; omega
    rw [e1]; have := this (s.parts.l.take 4); simp only [List.length_take] at this; omega
  refine ⟨?_, by omega, by rw [e1]; simp; omega, by rw [e2]; simp; omega, by rw [e3]; simp; omega, ?_, ?_, ?_⟩
  · unfold objs
    have h2 := l2 (s.parts.l.take 4) 0 0
    have h6 := l6 (s.measures.l.take 5) 0
    rw [← e1] at h2
    rw [← e2] at h6
    simp only [List.length_take] at h2 h6
    simp only [List.length_append, l7, e3, List.length_take]; omega
  · intro m y h; obtain ⟨x, rfl⟩ := mm m y h; have := b1 x; omega
  · intro m y c q h h'; obtain ⟨x, rfl⟩ := mm m y h; obtain ⟨z, rfl⟩ := cc _ _ _ h'; have := b2 z; omega
  · intro m y c q v z h h' h''; obtain ⟨x, rfl⟩ := mm m y h; obtain ⟨u, rfl⟩ := cc _ _ _ h'; obtain ⟨w, rfl⟩ := vv _ _ _ h''; have := b3 w; omega
end Go.Hem
