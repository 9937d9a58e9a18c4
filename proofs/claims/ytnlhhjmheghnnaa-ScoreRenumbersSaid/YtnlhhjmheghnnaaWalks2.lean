/- Walks. -/
import Derived.Test.YtnlhhjmheghnnaaWalks1
/- Renumber, in plain terms: shapes, objects, maps of ids. -/
set_option linter.unusedSimpArgs false
set_option linter.unusedVariables false
namespace Go.Hem
theorem len_mapIdx {α β : Type} {s : Sl α} {f : Nat → α → β} : (Sl.l (s.map fun l => l.mapIdx f)).length = s.l.length := by rw [sl_map_l (by rfl), List.length_mapIdx]
theorem gScore_shape (φ : Nat → ID → ID) (a : Score) : SameShape (gScore φ a) a := by
  refine ⟨len_mapIdx, fun i p q hp hq => ?_, len_mapIdx, fun m y y' hy hy' => ?_, fun m y y' c q q' hy hy' hq hq' => ?_, fun m y y' c q q' v z z' hy hy' hq hq' hz hz' => ?_, len_mapIdx⟩
  · obtain ⟨p0, hp0, rfl⟩ := at_mapIdx hq
    have := same_at hp hp0; subst this
    exact len_mapIdx
  · obtain ⟨y0, hy0, rfl⟩ := at_mapIdx hy'
    have := same_at hy hy0; subst this
    exact len_mapIdx
  · obtain ⟨y0, hy0, rfl⟩ := at_mapIdx hy'
    have := same_at hy hy0; subst this
    obtain ⟨q0, hq0, rfl⟩ := at_mapIdx (s := y0.cells) (f := fun c q => gCell φ (a.szP + upTo Measure.sz a.measures.l m + 1 + upTo Cell.sz y0.cells.l c) q) hq'
    have := same_at hq hq0; subst this
    exact len_mapIdx
  · obtain ⟨y0, hy0, rfl⟩ := at_mapIdx hy'
    have := same_at hy hy0; subst this
    obtain ⟨q0, hq0, rfl⟩ := at_mapIdx (s := y0.cells) (f := fun c q => gCell φ (a.szP + upTo Measure.sz a.measures.l m + 1 + upTo Cell.sz y0.cells.l c) q) hq'
    have := same_at hq hq0; subst this
    obtain ⟨z0, hz0, rfl⟩ := at_mapIdx (s := q0.voices) (f := fun v z => gVoice φ (a.szP + upTo Measure.sz a.measures.l m + 1 + upTo Cell.sz y0.cells.l c + upTo Voice.sz q0.voices.l v) z) hz'
    have := same_at hz hz0; subst this
    exact len_mapIdx
/-! ### The objects at the places -/
def Score.objAt (a : Score) (o : Pos) : O := ⟨a.idOf o, o.place⟩
section
variable (a : Score)
theorem ob_staves (i : Nat) {p : Part} (hp : a.parts.l[i]? = some p) : ∀ (l pre : List Staff) (st : Nat), p.staves.l = pre ++ l → objStaves st l = (posStaves i pre.length st l).map a.objAt
  | [], _, _, _ => rfl
  | x :: l, pre, st, h => by
    have ih := ob_staves i hp l (pre ++ [x]) (st + 1) (by rw [h]; simp)
    have e1 : (pre ++ [x]).length = pre.length + 1 := by simp
    rw [e1] at ih
    have hx : p.staves.l[pre.length]? = some x := by rw [h]; simp
    have e2 : a.idOf (.staff i pre.length st) = x.id := by
      show ((((a.parts.l[i]?).getD default).staves.l[pre.length]?).getD default).id = _
      rw [getD_some hp, getD_some hx]
    have e3 : a.objAt (.staff i pre.length st) = oStaff st x := by unfold Score.objAt; rw [e2]; rfl
    rw [objStaves, posStaves, List.map_cons, ih, e3]
theorem ob_parts : ∀ (l pre : List Part) (st : Nat), a.parts.l = pre ++ l → objParts pre.length st l = (posParts pre.length st l).map a.objAt
  | [], _, _, _ => rfl
  | x :: l, pre, st, h => by
    have ih := ob_parts l (pre ++ [x]) (st + x.staves.l.length) (by rw [h]; simp)
    have e1 : (pre ++ [x]).length = pre.length + 1 := by simp
    rw [e1] at ih
    have hx : a.parts.l[pre.length]? = some x := by rw [h]; simp
    have e2 : a.idOf (.part pre.length) = x.id := by show ((a.parts.l[pre.length]?).getD default).id = _; rw [getD_some hx]
    have e3 : a.objAt (.part pre.length) = oPart pre.length x := by unfold Score.objAt; rw [e2]; rfl
    have h0 := ob_staves a pre.length hx x.staves.l [] st rfl
    rw [objParts, posParts, List.map_cons, List.map_append, ih, e3, h0]; rfl
theorem ob_events (m c v : Nat) {z : Voice} (hz : ∀ e, a.idOf (.event m c v e) = ((z.events.l[e]?).getD default).id) : ∀ (l pre : List Event), z.events.l = pre ++ l → objEvents m c v pre.length l = (posEvents m c v pre.length l).map a.objAt
  | [], _, _ => rfl
  | x :: l, pre, h => by
    have ih := ob_events m c v hz l (pre ++ [x]) (by rw [h]; simp)
    have e1 : (pre ++ [x]).length = pre.length + 1 := by simp
    rw [e1] at ih
    have hx : z.events.l[pre.length]? = some x := by rw [h]; simp
    have e3 : a.objAt (.event m c v pre.length) = oEvent m c v pre.length x := by unfold Score.objAt; rw [hz, getD_some hx]; rfl
    rw [objEvents, posEvents, List.map_cons, ih, e3]
theorem ob_voices (m c : Nat) {q : Cell} (hq : ∀ v e, a.idOf (.event m c v e) = (((((q.voices.l[v]?).getD default).events.l)[e]?).getD default).id) : ∀ (l pre : List Voice), q.voices.l = pre ++ l → objVoices m c pre.length l = (posVoices m c pre.length l).map a.objAt
  | [], _, _ => rfl
  | x :: l, pre, h => by
    have ih := ob_voices m c hq l (pre ++ [x]) (by rw [h]; simp)
    have e1 : (pre ++ [x]).length = pre.length + 1 := by simp
    rw [e1] at ih
    have hx : q.voices.l[pre.length]? = some x := by rw [h]; simp
    have h0 := ob_events a m c pre.length (z := x) (fun e => by rw [hq, getD_some hx]) x.events.l [] rfl
    simp only [List.length_nil] at h0
    rw [objVoices, posVoices, List.map_append, ih, ← h0]
theorem ob_cells (m : Nat) {y : Measure} (hy : ∀ c v e, a.idOf (.event m c v e) = ((((((y.cells.l[c]?).getD default).voices.l[v]?).getD default).events.l[e]?).getD default).id) : ∀ (l pre : List Cell), y.cells.l = pre ++ l → objCells m pre.length l = (posCells m pre.length l).map a.objAt
  | [], _, _ => rfl
  | x :: l, pre, h => by
    have ih := ob_cells m hy l (pre ++ [x]) (by rw [h]; simp)
    have e1 : (pre ++ [x]).length = pre.length + 1 := by simp
    rw [e1] at ih
    have hx : y.cells.l[pre.length]? = some x := by rw [h]; simp
    have h0 := ob_voices a m pre.length (q := x) (fun v e => by rw [hy, getD_some hx]) x.voices.l [] rfl
    simp only [List.length_nil] at h0
    rw [objCells, posCells, List.map_append, ih, ← h0]
theorem ob_measures : ∀ (l pre : List Measure), a.measures.l = pre ++ l → objMeasures pre.length l = (posMeasures pre.length l).map a.objAt
  | [], _, _ => rfl
  | x :: l, pre, h => by
    have ih := ob_measures l (pre ++ [x]) (by rw [h]; simp)
    have e1 : (pre ++ [x]).length = pre.length + 1 := by simp
    rw [e1] at ih
    have hx : a.measures.l[pre.length]? = some x := by rw [h]; simp
    have e2 : a.idOf (.measure pre.length) = x.id := by show ((a.measures.l[pre.length]?).getD default).id = _; rw [getD_some hx]
    have e3 : a.objAt (.measure pre.length) = oMeasure pre.length x := by unfold Score.objAt; rw [e2]; rfl
    have h0 := ob_cells a pre.length (y := x) (fun c v e => by
      show ((((((((a.measures.l[pre.length]?).getD default).cells.l[c]?).getD default).voices.l[v]?).getD default).events.l[e]?).getD default).id = _
      rw [getD_some hx]) x.cells.l [] rfl
    simp only [List.length_nil] at h0
    rw [objMeasures, posMeasures, List.map_cons, List.map_append, ih, e3, ← h0]
theorem ob_spanners : ∀ (l pre : List Spanner), a.spanners.l = pre ++ l → objSpanners pre.length l = (posSpanners pre.length l).map a.objAt
  | [], _, _ => rfl
  | x :: l, pre, h => by
    have ih := ob_spanners l (pre ++ [x]) (by rw [h]; simp)
    have e1 : (pre ++ [x]).length = pre.length + 1 := by simp
    rw [e1] at ih
    have hx : a.spanners.l[pre.length]? = some x := by rw [h]; simp
    have e2 : a.idOf (.spanner pre.length) = x.id := by show ((a.spanners.l[pre.length]?).getD default).id = _; rw [getD_some hx]
    have e3 : a.objAt (.spanner pre.length) = oSpanner pre.length x := by unfold Score.objAt; rw [e2]; rfl
    rw [objSpanners, posSpanners, List.map_cons, ih, e3]
theorem objs_poss : objs a = (poss a).map a.objAt := by
  have h1 := ob_parts a a.parts.l [] 0 rfl
  have h2 := ob_measures a a.measures.l [] rfl
  have h3 := ob_spanners a a.spanners.l [] rfl
  simp only [List.length_nil] at h1 h2 h3
  unfold objs poss
  rw [List.map_append, List.map_append, ← h1, ← h2, ← h3]
theorem objs_len : (objs a).length = a.sz := by rw [objs_poss, List.length_map, poss_len]
end

/-! ### The new id of an old one -/
def freshO : List O → Nat → ID → Option ID
  | [], _, _ => none
  | o :: r, n, id => if o.place.kind = 4 ∧ o.id = id ∧ id ≠ ID.zero then some ⟨0, ((n + 1 : Nat) : Int)⟩ else freshO r (n + 1) id
theorem freshO_snoc {o : O} {id : ID} : ∀ {l : List O} {n : Nat}, freshO (l ++ [o]) n id = (freshO l n id).or (if o.place.kind = 4 ∧ o.id = id ∧ id ≠ ID.zero then some ⟨0, ((n + l.length + 1 : Nat) : Int)⟩ else none)
  | [], n => by simp [freshO]
  | x :: l, n => by
    simp only [List.cons_append, freshO]
    by_cases h : x.place.kind = 4 ∧ x.id = id ∧ id ≠ ID.zero
    · rw [if_pos h, if_pos h]; rfl
    · rw [if_neg h, if_neg h, freshO_snoc]
      have e : n + 1 + l.length + 1 = n + (x :: l).length + 1 := by simp only [List.length_cons]; omega
      rw [e]
def newId (l : List O) (id : ID) : ID := (freshO l 0 id).getD ID.zero
def numb : Nat → ID → ID := fun n _ => ⟨0, ((n + 1 : Nat) : Int)⟩
/-- What Renumber returns. -/
def Score.renP (s : Score) : Score := { gScore numb s.cl with
  spanners := (gScore numb s.cl).spanners.map fun l => l.map fun x => { x with from_ := newId (objs s) x.from_, to := newId (objs s) x.to }
  last := if 0 < s.sz then some [⟨0, (s.sz : Int)⟩] else Option.none }

/-! ### Maps of ids to ids -/
def ents (l : List (ID × ID)) : List (AV × AV) := l.map fun x => (x.1.enc, x.2.enc)
theorem afind_ents (a : ID) : ∀ (l : List (ID × ID)) (i : Nat), (l.lookup a = none → afind true [.int, .int] a.enc (ents l) i = some none) ∧ (∀ v, l.lookup a = some v → ∃ j, afind true [.int, .int] a.enc (ents l) i = some (some (j, v.enc)))
  | [], i => ⟨fun _ => rfl, fun v h => by simp at h⟩
  | b :: l, i => by
    have ih := afind_ents a l (i + 1)
    have e : afind true [.int, .int] a.enc (ents (b :: l)) i = if a = b.1 then some (some (i, b.2.enc)) else afind true [.int, .int] a.enc (ents l) (i + 1) := by
      simp only [ents, List.map_cons, afind, keyEq_id]
      by_cases h : a = b.1 <;> simp [h]
    have e2 : (b :: l).lookup a = if a = b.1 then some b.2 else l.lookup a := by
      obtain ⟨b1, b2⟩ := b
      simp only [List.lookup_cons]
      by_cases h : a = b1
      · subst h; simp
      · rw [if_neg h, beq_false_of_ne h]
    rw [e, e2]
    by_cases h : a = b.1
    · rw [if_pos h, if_pos h]
      refine ⟨fun h => (by cases h), fun v hv => ?_⟩
      simp only [Option.some.injEq] at hv
      subst hv
      exact ⟨i, rfl⟩
    · rw [if_neg h, if_neg h]; exact ih
theorem look_ents {H : AHeap} {b : Nat} {l : List (ID × ID)} (h : H.map b = some (ents l)) (a : ID) : lookIn H true [.int, .int] (.agg [.sc (.int .i64 0), .sc (.int .i64 0)]) false (.map b) a.enc = some ((l.lookup a).getD ID.zero).enc ∧
    lookIn H true [.int, .int] (.agg [.sc (.int .i64 0), .sc (.int .i64 0)]) true (.map b) a.enc = some (.tup [((l.lookup a).getD ID.zero).enc, .sc (.bool (l.lookup a).isSome)]) := by
  have k := afind_ents a l 0
  have e : keyEq true [.int, .int] a.enc a.enc = some true := by rw [keyEq_id]; simp
  simp only [lookIn, e, if_true, h, Option.bind_some]
  cases hl : l.lookup a with
  | none => rw [k.1 hl]; exact ⟨rfl, rfl⟩
  | some v =>
    obtain ⟨j, hj⟩ := k.2 v hl
    rw [hj]; exact ⟨rfl, rfl⟩
theorem put_ents {H : AHeap} {b : Nat} {l : List (ID × ID)} (h : H.map b = some (ents l)) (a v : ID) (hn : l.lookup a = none) : putIn H true [.int, .int] (.map b) a.enc v.enc = some (.memM (.sc .undef) b (ents (l ++ [(a, v)]))) := by
  have e : keyEq true [.int, .int] a.enc a.enc = some true := by rw [keyEq_id]; simp
  simp only [putIn, e, if_true, h, Option.bind_some, (afind_ents a l 0).1 hn, Option.map_some]
  simp [ents]
theorem lookup_snoc {l : List (ID × ID)} {a v x : ID} : (l ++ [(a, v)]).lookup x = (l.lookup x).or (if x = a then some v else none) := by
  induction l with
  | nil =>
    simp only [List.nil_append, List.lookup_cons, List.lookup_nil, Option.none_or]
    by_cases h : x = a
    · subst h; simp
    · rw [if_neg h, beq_false_of_ne h]
  | cons b l ih =>
    obtain ⟨b1, b2⟩ := b
    simp only [List.cons_append, List.lookup_cons]
    by_cases h : x = b1
    · subst h; simp
    · rw [beq_false_of_ne h]; exact ih
end Go.Hem
/- Walks: the reference's fresh and Renumber. -/
set_option maxRecDepth 10000
set_option maxHeartbeats 4000000
set_option linter.unusedSimpArgs false
set_option linter.unusedVariables false
namespace Go.Hem
variable {pol : Pol}
theorem newId_next {o : O} {l : List O} {n : Nat} {id : ID} (h : ¬ (o.place.kind = 4 ∧ o.id = id ∧ id ≠ ID.zero)) : freshO (o :: l) n id = freshO l (n + 1) id := by rw [freshO, if_neg h]
theorem fresh_pv (l : List O) (hl : l.length < 1000000) (id : ID) : Pv prog pol 100 [slm O.enc (Sl.of l), id.enc] (newId l id).enc := by
  refine Pv_of' ok100 (by simp only [AV.closedBs, closedB_slm O.enc_closed, ID.enc_closed, Bool.and_self]) ?_
  simp -implicitDefEqProofs (maxDischargeDepth := 12) only [wpF, cf100, WW,List.replicate,e_splice,if_true,if_false,ite_true,ite_false,true_or,ne_eq,seval,h_putc,beq_self_eq_true,eq_self,exists_eq_left,exists_eq_left', id.enc_eq]
  refine wp_loop (Inv := fun k t H => ∃ (i : Nat), i + k = l.length ∧ H.cells 0 = some id.enc.cells ∧ H.cells 1 = some ID.zero.enc.cells ∧ newId l id = (freshO (l.drop i) i id).getD ID.zero ∧
    ∃ x : Nat → AV, t = [slm O.enc (Sl.of l), id.enc, x 2, .ptr 0 0, .ptr 1 0, .sc (.int .i64 i), x 6, x 7, x 8, x 9, x 10, x 11, x 12, x 13, x 14, x 15, x 16, x 17, x 18, x 19, x 20, x 21, x 22, x 23, x 24, x 25, x 26, x 27, x 28, x 29, x 30, x 31, x 32, x 33, x 34, x 35, x 36]) (k := l.length) ?_
    ⟨0, by omega, ?_, ?_, rfl, ex_x rfl⟩
  rotate_left
  · simp -implicitDefEqProofs (maxDischargeDepth := 12) only [WW,List.replicate,e_splice,if_true,if_false,ite_true,ite_false,true_or,ne_eq,seval,h_putc,beq_self_eq_true,eq_self,exists_eq_left,exists_eq_left']; rfl
  · simp -implicitDefEqProofs (maxDischargeDepth := 12) only [WW,List.replicate,e_splice,if_true,if_false,ite_true,ite_false,true_or,ne_eq,seval,h_putc,beq_self_eq_true,eq_self,exists_eq_left,exists_eq_left']; rfl
  rintro k t H ⟨i, hk, hH0, hH1, hf, x, rfl⟩
  simp only [id.enc_eq, ID.zero, ID.enc_eq, c_agg] at hH0 hH1
  by_cases h1 : (i : Int) < (l.length : Int)
  · obtain ⟨o, ho⟩ : ∃ y, l[i]? = some y := ⟨_, List.getElem?_eq_getElem (by omega)⟩
    have e2 : IntKind.i64.wrap ((i : Int) + 1) = ((i + 1 : Nat) : Int) := by rw [w64 (by omega) (by omega)]; omega
    rw [drop_cons ho] at hf
    by_cases h2 : o.place.kind = 4
    · by_cases h3 : o.id = id
      · by_cases h4 : id = ID.zero
        · rw [newId_next (fun h => h.2.2 h4)] at hf
          simp -implicitDefEqProofs (maxDischargeDepth := 12) only [WW,List.replicate,e_splice,if_true,if_false,ite_true,ite_false,true_or,ne_eq,seval,h_putc,beq_self_eq_true,eq_self,exists_eq_left,exists_eq_left', hH0, hH1, l_of, h1, ho, o.enc_eq, id_eq, id_zero, h2, decide_eq_true h3, decide_eq_true h4, e2]
          exact ⟨k - 1, by omega, i + 1, by omega, rfl, rfl, hf, ex_x rfl⟩
        · have hn : newId l id = ⟨0, ((i + 1 : Nat) : Int)⟩ := by rw [hf]; unfold freshO; rw [if_pos ⟨h2, h3, h4⟩]; rfl
          rw [hn]
          simp -implicitDefEqProofs (maxDischargeDepth := 12) only [WW,List.replicate,e_splice,if_true,if_false,ite_true,ite_false,true_or,ne_eq,seval,h_putc,beq_self_eq_true,eq_self,exists_eq_left,exists_eq_left', hH0, hH1, l_of, h1, ho, o.enc_eq, id_eq, id_zero, h2, decide_eq_true h3, decide_eq_false h4, e2]
          exact frz_plain rfl rfl
      · rw [newId_next (fun h => h3 h.2.1)] at hf
        simp -implicitDefEqProofs (maxDischargeDepth := 12) only [WW,List.replicate,e_splice,if_true,if_false,ite_true,ite_false,true_or,ne_eq,seval,h_putc,beq_self_eq_true,eq_self,exists_eq_left,exists_eq_left', hH0, hH1, l_of, h1, ho, o.enc_eq, id_eq, id_zero, h2, decide_eq_false h3, e2]
        exact ⟨k - 1, by omega, i + 1, by omega, rfl, rfl, hf, ex_x rfl⟩
    · rw [newId_next (fun h => h2 h.1)] at hf
      simp -implicitDefEqProofs (maxDischargeDepth := 12) only [WW,List.replicate,e_splice,if_true,if_false,ite_true,ite_false,true_or,ne_eq,seval,h_putc,beq_self_eq_true,eq_self,exists_eq_left,exists_eq_left', hH0, hH1, l_of, h1, ho, o.enc_eq, id_eq, id_zero, h2, e2]
      exact ⟨k - 1, by omega, i + 1, by omega, rfl, rfl, hf, ex_x rfl⟩
  · rw [drop_end h1] at hf
    have hn : newId l id = ID.zero := hf
    rw [hn]
    simp -implicitDefEqProofs (maxDischargeDepth := 12) only [WW,List.replicate,e_splice,if_true,if_false,ite_true,ite_false,true_or,ne_eq,seval,h_putc,beq_self_eq_true,eq_self,exists_eq_left,exists_eq_left', hH0, hH1, l_of, h1]
    exact frz_plain rfl rfl
/-! ### What the reference makes -/
def nid (n : Nat) : ID := ⟨0, ((n + 1 : Nat) : Int)⟩
def rPart (n : Nat) (p : Part) : Part := { p with id := nid n, staves := Sl.of (p.staves.l.mapIdx fun k q => { q with id := nid (n + 1 + k) }) }
def rEvent (n : Nat) (w : Event) : Event := { w with id := nid n }
def rVoice (n : Nat) (z : Voice) : Voice := ⟨Sl.of (z.events.l.mapIdx fun e w => rEvent (n + e) w), z.tuplets⟩
def rCell (n : Nat) (q : Cell) : Cell := ⟨q.clefs, Sl.of (q.voices.l.mapIdx fun v z => rVoice (n + upTo Voice.sz q.voices.l v) z)⟩
def rMeas (n : Nat) (y : Measure) : Measure := { y with id := nid n, cells := Sl.of (y.cells.l.mapIdx fun c q => rCell (n + 1 + upTo Cell.sz y.cells.l c) q) }
def rSpan (old : List O) (n : Nat) (x : Spanner) : Spanner := ⟨nid n, x.kind, newId old x.from_, newId old x.to⟩
def Score.renR (s : Score) : Score := ⟨s.title, s.written, Sl.of (s.parts.l.mapIdx fun i p => rPart (upTo Part.sz s.parts.l i) p), Sl.of (s.measures.l.mapIdx fun m y => rMeas (s.szP + upTo Measure.sz s.measures.l m) y), Sl.of (s.spanners.l.mapIdx fun i x => rSpan (objs s) (s.szP + s.szM + i) x),
  if 0 < s.sz then some [⟨0, (s.sz : Int)⟩] else Option.none⟩
theorem mapIdx_take_succ {α β : Type} {l : List α} {f : Nat → α → β} {i : Nat} {x : α} (h : l[i]? = some x) : (l.mapIdx f).take (i + 1) = (l.mapIdx f).take i ++ [f i x] := by
  rw [List.take_add_one, List.getElem?_mapIdx, h]; rfl
theorem mapIdx_take_all {α β : Type} {l : List α} {f : Nat → α → β} : (l.mapIdx f).take l.length = l.mapIdx f := List.take_of_length_le (by rw [List.length_mapIdx]; exact Nat.le_refl _)
/-- One more element. -/
theorem of_step {α β : Type} {l : List α} {f : Nat → α → β} {i : Nat} {x : α} (h : l[i]? = some x) : (some (Sl.l (Sl.of ((l.mapIdx f).take i)) ++ [f i x]) : Sl β) = Sl.of ((l.mapIdx f).take (i + 1)) := by rw [of_snoc', mapIdx_take_succ h]
theorem own_last {H : AHeap} {b n : Nat} (h : H.cells b = some [.sc (.int .i64 0), .sc (.int .i64 (n : Int))]) : Own 5 H (.slice b 0 1 1 2) (slm ID.enc (some [⟨0, (n : Int)⟩])) [b] :=
  .inr ⟨_, [.sc (.int .i64 0), .sc (.int .i64 (n : Int))], [], h, ⟨by decide, Nat.le_refl _⟩, by decide, Nat.le_refl _, OwnL.plain (d := 3) (cs := [.sc (.int .i64 0), .sc (.int .i64 (n : Int))]) (by simp [pl_sc]), by simp, fun h => by omega, rfl, rfl⟩
theorem rrenum_pv (h16 : pol.pure 16 = true) (h100 : pol.pure 100 = true) (s : Score) (hs : s.small) : Pv prog pol 54 [s.enc] s.renR.enc := by
  refine Pv_of' ok54 (by simp only [AV.closedBs, Score.enc_closed, Bool.and_self]) ?_
  simp -implicitDefEqProofs (maxDischargeDepth := 12) only [wpF, cf54, WW,List.replicate,e_splice,if_true,if_false,ite_true,ite_false,true_or,ne_eq,seval,h_putc,beq_self_eq_true,eq_self,exists_eq_left,exists_eq_left', s.enc_eq]
  rw [← s.enc_eq]
  refine wA_pure h16 (robjects_pv s hs.Tame) ?_
  simp -implicitDefEqProofs (maxDischargeDepth := 12) only [WW,List.replicate,e_splice,if_true,if_false,ite_true,ite_false,true_or,ne_eq,seval,h_putc,beq_self_eq_true,eq_self,exists_eq_left,exists_eq_left', s.enc_eq]
  have hszT : s.sz < 1000000 := by rw [← objs_len]; exact hs.Tame.objs
  have hpl := hs.Tame.parts
  refine wp_loop (Inv := fun k t H => ∃ (i : Nat) (fp : List Nat) (a : AV), i + k = s.parts.l.length ∧ H.cells 0 = some [.sc (.str s.title), .sc (.bool s.written), slm Part.enc s.parts, slm Measure.enc s.measures, slm Spanner.enc s.spanners, slm ID.enc s.last] ∧ H.cells 1 = some [.sc (.str ⟨#[]⟩), .sc (.bool false), .sc .nils, .sc .nils, .sc .nils, .sc .nils] ∧
    H.cells 2 = some [.sc (.str s.title), .sc (.bool s.written), a, .sc .nils, .sc .nils, .sc .nils] ∧ Acc 3 6 Part.enc H a (Sl.of ((s.parts.l.mapIdx fun i p => rPart (upTo Part.sz s.parts.l i) p).take i)) fp ∧ (∀ b ∈ fp, 3 ≤ b) ∧
    ∃ x : Nat → AV, t = [x 0, .ptr 0 0, .ptr 1 0, slm O.enc (Sl.of (objs s)), .ptr 2 0, .sc (.int .i64 (upTo Part.sz s.parts.l i : Nat)), .sc (.int .i64 i), x 7, x 8, x 9, x 10, x 11, x 12, x 13, x 14, x 15, x 16, x 17, x 18, x 19, x 20, x 21, x 22, x 23, x 24, x 25, x 26, x 27, x 28, x 29, x 30, x 31, x 32, x 33, x 34, x 35, x 36, x 37, x 38, x 39, x 40, x 41, x 42, x 43, x 44, x 45, x 46, x 47, x 48, x 49, x 50, x 51, x 52, x 53, x 54, x 55, x 56, x 57, x 58, x 59, x 60, x 61, x 62, x 63, x 64, x 65, x 66, x 67, x 68, x 69, x 70, x 71, x 72, x 73, x 74, x 75, x 76, x 77, x 78, x 79, x 80, x 81, x 82, x 83, x 84, x 85, x 86, x 87, x 88, x 89, x 90, x 91, x 92, x 93, x 94, x 95, x 96, x 97, x 98, x 99, x 100, x 101, x 102, x 103, x 104, x 105, x 106, x 107, x 108, x 109, x 110, x 111, x 112, x 113, x 114, x 115, x 116, x 117, x 118, x 119, x 120, x 121, x 122, x 123, x 124, x 125, x 126, x 127, x 128, x 129, x 130, x 131, x 132, x 133, x 134, x 135, x 136, x 137, x 138, x 139, x 140, x 141, x 142, x 143, x 144, x 145, x 146, x 147, x 148, x 149, x 150, x 151, x 152, x 153, x 154, x 155, x 156, x 157, x 158, x 159, x 160, x 161, x 162, x 163, x 164, x 165, x 166, x 167, x 168, x 169, x 170, x 171, x 172, x 173, x 174, x 175, x 176, x 177, x 178, x 179, x 180, x 181, x 182, x 183, x 184, x 185, x 186, x 187, x 188, x 189, x 190, x 191, x 192, x 193, x 194, x 195, x 196, x 197, x 198, x 199, x 200, x 201, x 202, x 203, x 204, x 205, x 206, x 207, x 208, x 209, x 210, x 211, x 212, x 213, x 214, x 215, x 216, x 217, x 218, x 219, x 220, x 221, x 222, x 223, x 224, x 225, x 226, x 227, x 228]) (k := s.parts.l.length) ?_
    ⟨0, [], _, by omega, ?_, ?_, ?_, acc_none, by simp, ex_x rfl⟩
  rotate_left
  · simp -implicitDefEqProofs (maxDischargeDepth := 12) only [WW,List.replicate,e_splice,if_true,if_false,ite_true,ite_false,true_or,ne_eq,seval,h_putc,beq_self_eq_true,eq_self,exists_eq_left,exists_eq_left']
  · simp -implicitDefEqProofs (maxDischargeDepth := 12) only [WW,List.replicate,e_splice,if_true,if_false,ite_true,ite_false,true_or,ne_eq,seval,h_putc,beq_self_eq_true,eq_self,exists_eq_left,exists_eq_left']
  · simp -implicitDefEqProofs (maxDischargeDepth := 12) only [WW,List.replicate,e_splice,if_true,if_false,ite_true,ite_false,true_or,ne_eq,seval,h_putc,beq_self_eq_true,eq_self,exists_eq_left,exists_eq_left']
  rintro k t H ⟨i, fp, a, hk, hH0, hH1, hH2, hA, hfp, x, rfl⟩
  by_cases h1 : (i : Int) < (s.parts.l.length : Int)
  · obtain ⟨p, hp⟩ : ∃ y, s.parts.l[i]? = some y := ⟨_, List.getElem?_eq_getElem (by omega)⟩
    have e2 : IntKind.i64.wrap ((i : Int) + 1) = ((i + 1 : Nat) : Int) := by rw [w64 (by omega) (by omega)]; omega
    have hpsz := upTo_le (f := Part.sz) hp
    have hsP : (s.parts.l.map Part.sz).sum ≤ s.sz := by unfold Score.sz Score.szP; omega
    generalize hn : upTo Part.sz s.parts.l i = n
    have e3 : IntKind.i64.wrap ((n : Int) + 1) = ((n + 1 : Nat) : Int) := by rw [w64 (by omega) (by omega)]; omega
    simp -implicitDefEqProofs (maxDischargeDepth := 12) only [WW,List.replicate,e_splice,if_true,if_false,ite_true,ite_false,true_or,ne_eq,seval,h_putc,beq_self_eq_true,eq_self,exists_eq_left,exists_eq_left', hH0, hH1, hH2, h1, hp, p.enc_eq, e3]
    have q0 : ¬ (0 = H.next) := by have := h_lt hH0; omega
    have q1 : ¬ (1 = H.next) := by have := h_lt hH1; omega
    have q2 : ¬ (2 = H.next) := by have := h_lt hH2; omega
    generalize hB : H.next = B at q0 q1 q2 ⊢
    generalize hHb : AHeap.put _ B _ = Hb
    have b0 : ∀ c, c < B → Hb.cells c = H.cells c := fun c hc => by subst hHb; rw [c_put_ne (by omega), c_put_ne (by omega), c_alloc_ne (by omega)]
    have b1 : Hb.cells B = some [.sc (.int .i64 0), .sc (.int .i64 ((n + 1 : Nat) : Int)), .sc (.str p.name), .sc (.int .i64 p.transpose.steps), .sc (.int .i64 p.transpose.semitones), slm Staff.enc p.staves] := by
      subst hHb
      simp -implicitDefEqProofs (maxDischargeDepth := 12) only [WW,List.replicate,e_splice,if_true,if_false,ite_true,ite_false,true_or,ne_eq,seval,h_putc,beq_self_eq_true,eq_self,exists_eq_left,exists_eq_left', hB]
    have bn : Hb.next = B + 1 := by subst hHb; simp only [AHeap.next_put, AHeap.next_alloc, hB]
    clear hHb
    have hltA := hA.lts
    rw [hB] at hltA
    have hB3 : 3 ≤ B := by have := h_lt hH2; omega
    have hA1 : Acc 3 6 Part.enc Hb a _ fp := hA.fr fun c hc => b0 c (hltA c hc)
    have hb0 := (b0 0 (by omega)).trans hH0
    have hb1 := (b0 1 (by omega)).trans hH1
    have hb2 := (b0 2 (by omega)).trans hH2
    clear b0 hA hH0 hH1 hH2
    refine wp_loop (Inv := fun k' t H' => ∃ (j : Nat) (fq : List Nat) (e : AV), j + k' = p.staves.l.length ∧ Keep (B + 1) Hb H' ∧ B + 1 ≤ H'.next ∧ Acc 2 3 Staff.enc H' e (Sl.of ((p.staves.l.mapIdx fun k (q : Staff) => { q with id := nid (n + 1 + k) }).take j)) fq ∧ (∀ b ∈ fq, B + 1 ≤ b) ∧
      ∃ x : Nat → AV, t = [x 0, .ptr 0 0, .ptr 1 0, slm O.enc (Sl.of (objs s)), .ptr 2 0, .sc (.int .i64 ((n + 1 + j : Nat) : Int)), .sc (.int .i64 i), .ptr B 0, e, .sc (.int .i64 j), x 10, x 11, x 12, x 13, x 14, x 15, x 16, x 17, x 18, x 19, x 20, x 21, x 22, x 23, x 24, x 25, x 26, x 27, x 28, x 29, x 30, x 31, x 32, x 33, x 34, x 35, x 36, x 37, x 38, x 39, x 40, x 41, x 42, x 43, x 44, x 45, x 46, x 47, x 48, x 49, x 50, x 51, x 52, x 53, x 54, x 55, x 56, x 57, x 58, x 59, x 60, x 61, x 62, x 63, x 64, x 65, x 66, x 67, x 68, x 69, x 70, x 71, x 72, x 73, x 74, x 75, x 76, x 77, x 78, x 79, x 80, x 81, x 82, x 83, x 84, x 85, x 86, x 87, x 88, x 89, x 90, x 91, x 92, x 93, x 94, x 95, x 96, x 97, x 98, x 99, x 100, x 101, x 102, x 103, x 104, x 105, x 106, x 107, x 108, x 109, x 110, x 111, x 112, x 113, x 114, x 115, x 116, x 117, x 118, x 119, x 120, x 121, x 122, x 123, x 124, x 125, x 126, x 127, x 128, x 129, x 130, x 131, x 132, x 133, x 134, x 135, x 136, x 137, x 138, x 139, x 140, x 141, x 142, x 143, x 144, x 145, x 146, x 147, x 148, x 149, x 150, x 151, x 152, x 153, x 154, x 155, x 156, x 157, x 158, x 159, x 160, x 161, x 162, x 163, x 164, x 165, x 166, x 167, x 168, x 169, x 170, x 171, x 172, x 173, x 174, x 175, x 176, x 177, x 178, x 179, x 180, x 181, x 182, x 183, x 184, x 185, x 186, x 187, x 188, x 189, x 190, x 191, x 192, x 193, x 194, x 195, x 196, x 197, x 198, x 199, x 200, x 201, x 202, x 203, x 204, x 205, x 206, x 207, x 208, x 209, x 210, x 211, x 212, x 213, x 214, x 215, x 216, x 217, x 218, x 219, x 220, x 221, x 222, x 223, x 224, x 225, x 226, x 227, x 228]) (k := p.staves.l.length) ?_
      ⟨0, [], _, by omega, Keep.refl, by omega, acc_none, by simp, ex_x rfl⟩
    rintro k' t H' ⟨j, fq, e, hk', hK, hN, hE, hfq, x, rfl⟩
    have c1 := hK.cells b1 (by omega)
    have hps : p.sz = 1 + p.staves.l.length := rfl
    by_cases h3 : (j : Int) < (p.staves.l.length : Int)
    · obtain ⟨q, hq⟩ : ∃ y, p.staves.l[j]? = some y := ⟨_, List.getElem?_eq_getElem (by omega)⟩
      have e4 : IntKind.i64.wrap ((j : Int) + 1) = ((j + 1 : Nat) : Int) := by rw [w64 (by omega) (by omega)]; omega
      have e5 : IntKind.i64.wrap (((n + 1 + j : Nat) : Int) + 1) = ((n + 1 + (j + 1) : Nat) : Int) := by rw [w64 (by omega) (by omega)]; omega
      simp -implicitDefEqProofs (maxDischargeDepth := 12) only [WW,List.replicate,e_splice,if_true,if_false,ite_true,ite_false,true_or,ne_eq,seval,h_putc,beq_self_eq_true,eq_self,exists_eq_left,exists_eq_left', c1, h3, hq, q.enc_eq, e4, e5]
      refine wA_app2 row_Staff' hE (by repeat (first | exact Keep.refl | refine Keep.put (by (try simp only [AHeap.next_alloc, AHeap.next_put]); omega) ?_ | refine Keep.alloc (by (try simp only [AHeap.next_alloc, AHeap.next_put]); omega) ?_)) (by simp) (ys := [{ q with id := nid (n + 1 + j) }]) (by simp) rfl (asrc_new (by simp) rfl) (own_one (Staff.enc_plain _) rfl) Apart.nil_right ?_ ?_
      · rw [l_of]; simp only [List.length_take, List.length_mapIdx, List.length_cons, List.length_nil]; omega
      intro v' H2 fp' hE' hn2 hk2 hfp2 ho2 hc2
      rw [of_step hq] at hE'
      simp -implicitDefEqProofs (maxDischargeDepth := 12) only [WW,List.replicate,e_splice,if_true,if_false,ite_true,ite_false,true_or,ne_eq,seval,h_putc,beq_self_eq_true,eq_self,exists_eq_left,exists_eq_left', e4]
      refine ⟨k' - 1, by omega, j + 1, fp', v', by omega, fun b hb => ?_, by omega, hE', fun b hb => ?_, ex_x rfl⟩
      · rw [hk2 b (fun h => by have := hfq b h; omega) (by omega), hK b hb]
      · rcases hfp2 b hb with h | h | h
        · exact hfq b h
        · simp at h
        · omega
    · obtain rfl : j = p.staves.l.length := by omega
      rw [mapIdx_take_all] at hE
      obtain ⟨fq', hOE, hq'⟩ := hE.own row_Staff'
      have c0 := hK.cells hb0 (by omega)
      have c2 := hK.cells hb2 (by omega)
      have r0 : ¬ (0 = H'.next) := by omega
      have r2 : ¬ (2 = H'.next) := by omega
      have r3 : ¬ (B = H'.next) := by omega
      have r4 : ¬ (2 = B) := by omega
      have r5 : ¬ (0 = B) := by omega
      have hA2 : Acc 3 6 Part.enc H' a _ fp := hA1.fr fun c hc => hK c (by have := hltA c hc; omega)
      simp -implicitDefEqProofs (maxDischargeDepth := 12) only [WW,List.replicate,e_splice,if_true,if_false,ite_true,ite_false,true_or,ne_eq,seval,h_putc,beq_self_eq_true,eq_self,exists_eq_left,exists_eq_left', c0, c1, c2, h3, r0, r2, r3, r4, hE.one, hE.cells]
      generalize hHd : AHeap.put H' B _ = Hd
      have d0 : ∀ c, c ≠ B → Hd.cells c = H'.cells c := fun c hc => by subst hHd; exact c_put_ne hc
      have dn : Hd.next = H'.next := by subst hHd; exact AHeap.next_put _ _ _
      clear hHd
      refine wA_app2 row_Part (hA2.fr (H' := Hd) fun c hc => d0 c (by have := hltA c hc; omega)) (by repeat (first | exact Keep.refl | refine Keep.put (by (try simp only [AHeap.next_alloc, AHeap.next_put]); omega) ?_ | refine Keep.alloc (by (try simp only [AHeap.next_alloc, AHeap.next_put]); omega) ?_)) (by simp) (ys := [rPart n p]) (by simp) rfl (asrc_new dn.symm rfl) (fp1 := [] ++ fq') ?_ (fun b hb h => ?_) ?_ ?_
      · have := OwnL.append (fp := []) (OwnL.plain (H := Hd) (d := 2) (cs := [.sc (.int .i64 0), .sc (.int .i64 ((n + 1 : Nat) : Int)), .sc (.str p.name), .sc (.int .i64 p.transpose.steps), .sc (.int .i64 p.transpose.semitones)]) (by simp [pl_sc])) (OwnL.single ((hOE.frame fun b hb => d0 b (by have := hfq b (hq' b hb); omega)))) Apart.nil_left
        exact this.fr fun b hb => c_alloc_ne (by have := this.lts b hb; omega)
      · have := hltA b hb
        have := hfq b (hq' b (by simpa using h)); omega
      · rw [l_of]; simp only [List.length_take, List.length_mapIdx, List.length_cons, List.length_nil]; omega
      intro v' H2 fp' hA' hn2 hk2 hfp2 ho2 hc2
      rw [← hn, of_step (f := fun i p => rPart (upTo Part.sz s.parts.l i) p) hp] at hA'
      have g0 := (hk2 0 (fun h => by have := hfp 0 h; omega) (by omega)).trans ((d0 0 (by omega)).trans c0)
      have g1 := (hk2 1 (fun h => by have := hfp 1 h; omega) (by omega)).trans ((d0 1 (by omega)).trans (hK.cells hb1 (by omega)))
      have g2 := (hk2 2 (fun h => by have := hfp 2 h; omega) (by omega)).trans ((d0 2 (by omega)).trans c2)
      have hfp3 : ∀ b ∈ fp', 3 ≤ b := fun b hb => by
        rcases hfp2 b hb with h | h | h
        · exact hfp b h
        · have := hfq b (hq' b (by simpa using h)); omega
        · omega
      refine ⟨by simp only [k_nil], ?_⟩
      simp -implicitDefEqProofs (maxDischargeDepth := 12) only [WW,List.replicate,e_splice,if_true,if_false,ite_true,ite_false,true_or,ne_eq,seval,h_putc,beq_self_eq_true,eq_self,exists_eq_left,exists_eq_left', e2, g0, g1, g2, ho2, hc2]
      refine ⟨k - 1, by omega, i + 1, fp', v', by omega, rfl, hA'.fr fun b hb => h_put_ne (by have := hfp3 b hb; omega), hfp3, ?_⟩
      rw [upTo_succ hp, hn, hps, ← Nat.add_assoc]
      exact ex_x rfl
  · obtain rfl : i = s.parts.l.length := by omega
    rw [mapIdx_take_all] at hA
    have hszP : upTo Part.sz s.parts.l s.parts.l.length = s.szP := upTo_all.symm
    rw [hszP]
    have hltP := hA.lts
    generalize hr : H.next = r at hltP
    have hr3 : 3 ≤ r := by have := h_lt hH2; omega
    simp -implicitDefEqProofs (maxDischargeDepth := 12) only [WW,List.replicate,e_splice,if_true,if_false,ite_true,ite_false,true_or,ne_eq,seval,h_putc,beq_self_eq_true,eq_self,exists_eq_left,exists_eq_left', hH0, hH2, h1]
    have hml := hs.Tame.measures
    refine wp_loop (Inv := fun k t H => ∃ (m : Nat) (fm : List Nat) (am : AV), m + k = s.measures.l.length ∧ H.cells 0 = some [.sc (.str s.title), .sc (.bool s.written), slm Part.enc s.parts, slm Measure.enc s.measures, slm Spanner.enc s.spanners, slm ID.enc s.last] ∧ H.cells 1 = some [.sc (.str ⟨#[]⟩), .sc (.bool false), .sc .nils, .sc .nils, .sc .nils, .sc .nils] ∧
      H.cells 2 = some [.sc (.str s.title), .sc (.bool s.written), a, am, .sc .nils, .sc .nils] ∧ Acc 3 6 Part.enc H a (Sl.of (s.parts.l.mapIdx fun i p => rPart (upTo Part.sz s.parts.l i) p)) fp ∧ Acc 4 22 Measure.enc H am (Sl.of ((s.measures.l.mapIdx fun m y => rMeas (s.szP + upTo Measure.sz s.measures.l m) y).take m)) fm ∧ (∀ b ∈ fm, r ≤ b) ∧ r ≤ H.next ∧
      ∃ x : Nat → AV, t = [x 0, .ptr 0 0, .ptr 1 0, slm O.enc (Sl.of (objs s)), .ptr 2 0, .sc (.int .i64 (s.szP + upTo Measure.sz s.measures.l m : Nat)), x 6, x 7, x 8, x 9, .sc (.int .i64 m), x 11, x 12, x 13, x 14, x 15, x 16, x 17, x 18, x 19, x 20, x 21, x 22, x 23, x 24, x 25, x 26, x 27, x 28, x 29, x 30, x 31, x 32, x 33, x 34, x 35, x 36, x 37, x 38, x 39, x 40, x 41, x 42, x 43, x 44, x 45, x 46, x 47, x 48, x 49, x 50, x 51, x 52, x 53, x 54, x 55, x 56, x 57, x 58, x 59, x 60, x 61, x 62, x 63, x 64, x 65, x 66, x 67, x 68, x 69, x 70, x 71, x 72, x 73, x 74, x 75, x 76, x 77, x 78, x 79, x 80, x 81, x 82, x 83, x 84, x 85, x 86, x 87, x 88, x 89, x 90, x 91, x 92, x 93, x 94, x 95, x 96, x 97, x 98, x 99, x 100, x 101, x 102, x 103, x 104, x 105, x 106, x 107, x 108, x 109, x 110, x 111, x 112, x 113, x 114, x 115, x 116, x 117, x 118, x 119, x 120, x 121, x 122, x 123, x 124, x 125, x 126, x 127, x 128, x 129, x 130, x 131, x 132, x 133, x 134, x 135, x 136, x 137, x 138, x 139, x 140, x 141, x 142, x 143, x 144, x 145, x 146, x 147, x 148, x 149, x 150, x 151, x 152, x 153, x 154, x 155, x 156, x 157, x 158, x 159, x 160, x 161, x 162, x 163, x 164, x 165, x 166, x 167, x 168, x 169, x 170, x 171, x 172, x 173, x 174, x 175, x 176, x 177, x 178, x 179, x 180, x 181, x 182, x 183, x 184, x 185, x 186, x 187, x 188, x 189, x 190, x 191, x 192, x 193, x 194, x 195, x 196, x 197, x 198, x 199, x 200, x 201, x 202, x 203, x 204, x 205, x 206, x 207, x 208, x 209, x 210, x 211, x 212, x 213, x 214, x 215, x 216, x 217, x 218, x 219, x 220, x 221, x 222, x 223, x 224, x 225, x 226, x 227, x 228]) (k := s.measures.l.length) ?_
      ⟨0, [], _, by omega, hH0, hH1, hH2, hA, acc_none, by simp, by omega, ex_x rfl⟩
    clear hA hH0 hH1 hH2 hr h1 x H hk
    rintro k t H ⟨m, fm, am, hk, hH0, hH1, hH2, hA, hM, hfm, hrn, x, rfl⟩
    by_cases h1 : (m : Int) < (s.measures.l.length : Int)
    · obtain ⟨y, hy⟩ : ∃ y, s.measures.l[m]? = some y := ⟨_, List.getElem?_eq_getElem (by omega)⟩
      have ys := hs.meas y (List.mem_of_getElem? hy)
      have e2 : IntKind.i64.wrap ((m : Int) + 1) = ((m + 1 : Nat) : Int) := by rw [w64 (by omega) (by omega)]; omega
      have hysz := upTo_le (f := Measure.sz) hy
      have hsM : s.szP + (s.measures.l.map Measure.sz).sum ≤ s.sz := by unfold Score.sz Score.szM; omega
      generalize hn : s.szP + upTo Measure.sz s.measures.l m = n
      have hyz : y.sz = 1 + (y.cells.l.map Cell.sz).sum := rfl
      have hn1 : n + 1 + (y.cells.l.map Cell.sz).sum ≤ s.sz := by omega
      have e3 : IntKind.i64.wrap ((n : Int) + 1) = ((n + 1 : Nat) : Int) := by rw [w64 (by omega) (by omega)]; omega
      simp -implicitDefEqProofs (maxDischargeDepth := 12) only [WW,List.replicate,e_splice,if_true,if_false,ite_true,ite_false,true_or,ne_eq,seval,h_putc,beq_self_eq_true,eq_self,exists_eq_left,exists_eq_left', hH0, hH1, hH2, h1, hy, y.enc_eq, e3]
      generalize hB : H.next = B
      have hltM := hM.lts
      rw [hB] at hltM
      have hBr : r ≤ B := by omega
      generalize hHb : AHeap.put _ B _ = Hb
      have b0 : ∀ c, c < B → Hb.cells c = H.cells c := fun c hc => by subst hHb; rw [c_put_ne (by omega), c_put_ne (by omega), c_alloc_ne (by omega)]
      have b1 : Hb.cells B = some [.sc (.int .i64 0), .sc (.int .i64 ((n + 1 : Nat) : Int)), .sc (.int .i64 y.metre.count), .sc (.int .i64 y.metre.unit), .sc (.int .i64 y.metre.g0), .sc (.int .i64 y.metre.g1), .sc (.int .i64 y.metre.g2), .sc (.int .i64 y.metre.g3), .sc (.int .i64 y.metre.g4), .sc (.int .i64 y.metre.g5), .sc (.int .i64 y.length), .sc (.int .i64 y.fifths), .sc (.bool y.rstart), .sc (.int .i64 y.rend), .sc (.int .i64 y.endings), .sc (.int .i64 y.jump), .sc (.int .i64 y.labels), .sc (.int .i64 y.swing), .sc (.int .i64 y.brk), .sc (.str y.rehearsal), slm Tempo.enc y.tempi, slm Cell.enc y.cells] := by
        subst hHb
        simp -implicitDefEqProofs (maxDischargeDepth := 12) only [WW,List.replicate,e_splice,if_true,if_false,ite_true,ite_false,true_or,ne_eq,seval,h_putc,beq_self_eq_true,eq_self,exists_eq_left,exists_eq_left', hB]
      have bn : Hb.next = B + 1 := by subst hHb; simp only [AHeap.next_put, AHeap.next_alloc, hB]
      clear hHb
      have hA1 : Acc 3 6 Part.enc Hb a _ fp := hA.fr fun c hc => b0 c (by have := hltP c hc; omega)
      have hM1 : Acc 4 22 Measure.enc Hb am _ fm := hM.fr fun c hc => b0 c (hltM c hc)
      have hb0 := (b0 0 (by omega)).trans hH0
      have hb1 := (b0 1 (by omega)).trans hH1
      have hb2 := (b0 2 (by omega)).trans hH2
      clear b0 hA hM hH0 hH1 hH2
      refine wp_loop (Inv := fun k' t H' => ∃ (c : Nat) (fc : List Nat) (ec : AV), c + k' = y.cells.l.length ∧ Keep (B + 1) Hb H' ∧ B + 1 ≤ H'.next ∧ Acc 3 2 Cell.enc H' ec (Sl.of ((y.cells.l.mapIdx fun c q => rCell (n + 1 + upTo Cell.sz y.cells.l c) q).take c)) fc ∧ (∀ b ∈ fc, B + 1 ≤ b) ∧
        ∃ x : Nat → AV, t = [x 0, .ptr 0 0, .ptr 1 0, slm O.enc (Sl.of (objs s)), .ptr 2 0, .sc (.int .i64 ((n + 1 + upTo Cell.sz y.cells.l c : Nat) : Int)), x 6, x 7, x 8, x 9, .sc (.int .i64 m), .ptr B 0, ec, .sc (.int .i64 c), x 14, x 15, x 16, x 17, x 18, x 19, x 20, x 21, x 22, x 23, x 24, x 25, x 26, x 27, x 28, x 29, x 30, x 31, x 32, x 33, x 34, x 35, x 36, x 37, x 38, x 39, x 40, x 41, x 42, x 43, x 44, x 45, x 46, x 47, x 48, x 49, x 50, x 51, x 52, x 53, x 54, x 55, x 56, x 57, x 58, x 59, x 60, x 61, x 62, x 63, x 64, x 65, x 66, x 67, x 68, x 69, x 70, x 71, x 72, x 73, x 74, x 75, x 76, x 77, x 78, x 79, x 80, x 81, x 82, x 83, x 84, x 85, x 86, x 87, x 88, x 89, x 90, x 91, x 92, x 93, x 94, x 95, x 96, x 97, x 98, x 99, x 100, x 101, x 102, x 103, x 104, x 105, x 106, x 107, x 108, x 109, x 110, x 111, x 112, x 113, x 114, x 115, x 116, x 117, x 118, x 119, x 120, x 121, x 122, x 123, x 124, x 125, x 126, x 127, x 128, x 129, x 130, x 131, x 132, x 133, x 134, x 135, x 136, x 137, x 138, x 139, x 140, x 141, x 142, x 143, x 144, x 145, x 146, x 147, x 148, x 149, x 150, x 151, x 152, x 153, x 154, x 155, x 156, x 157, x 158, x 159, x 160, x 161, x 162, x 163, x 164, x 165, x 166, x 167, x 168, x 169, x 170, x 171, x 172, x 173, x 174, x 175, x 176, x 177, x 178, x 179, x 180, x 181, x 182, x 183, x 184, x 185, x 186, x 187, x 188, x 189, x 190, x 191, x 192, x 193, x 194, x 195, x 196, x 197, x 198, x 199, x 200, x 201, x 202, x 203, x 204, x 205, x 206, x 207, x 208, x 209, x 210, x 211, x 212, x 213, x 214, x 215, x 216, x 217, x 218, x 219, x 220, x 221, x 222, x 223, x 224, x 225, x 226, x 227, x 228]) (k := y.cells.l.length) ?_
        ⟨0, [], _, by omega, Keep.refl, by omega, acc_none, by simp, ex_x rfl⟩
      rintro k' t H' ⟨c, fc, ec, hk', hK, hN, hC, hfc, x, rfl⟩
      have c1 := hK.cells b1 (by omega)
      have hcl := ys.2.1
      by_cases h3 : (c : Int) < (y.cells.l.length : Int)
      · obtain ⟨q, hq⟩ : ∃ z, y.cells.l[c]? = some z := ⟨_, List.getElem?_eq_getElem (by omega)⟩
        have qs := ys.2.2 q (List.mem_of_getElem? hq)
        have e4 : IntKind.i64.wrap ((c : Int) + 1) = ((c + 1 : Nat) : Int) := by rw [w64 (by omega) (by omega)]; omega
        have hqsz := upTo_le (f := Cell.sz) hq
        generalize hn2 : n + 1 + upTo Cell.sz y.cells.l c = n2
        have hqz : q.sz = (q.voices.l.map Voice.sz).sum := rfl
        have hn3 : n2 + (q.voices.l.map Voice.sz).sum ≤ s.sz := by omega
        simp -implicitDefEqProofs (maxDischargeDepth := 12) only [WW,List.replicate,e_splice,if_true,if_false,ite_true,ite_false,true_or,ne_eq,seval,h_putc,beq_self_eq_true,eq_self,exists_eq_left,exists_eq_left', c1, h3, hq, q.enc_eq]
        generalize hC' : H'.next = C
        generalize hHc : AHeap.put _ C _ = Hc
        have k0 : ∀ b, b < C → Hc.cells b = H'.cells b := fun b hb => by subst hHc; rw [c_put_ne (by omega), c_alloc_ne (by omega)]
        have k1 : Hc.cells C = some [slm ClefChange.enc q.clefs, .sc .nils] := by
          subst hHc
          simp -implicitDefEqProofs (maxDischargeDepth := 12) only [WW,List.replicate,e_splice,if_true,if_false,ite_true,ite_false,true_or,ne_eq,seval,h_putc,beq_self_eq_true,eq_self,exists_eq_left,exists_eq_left', hC']
        have kn : Hc.next = C + 1 := by subst hHc; simp only [AHeap.next_put, AHeap.next_alloc, hC']
        clear hHc
        have hltC := hC.lts
        rw [hC'] at hltC
        have hBC : B + 1 ≤ C := by omega
        have hC1 : Acc 3 2 Cell.enc Hc ec _ fc := hC.fr fun b hb => k0 b (hltC b hb)
        have hKc : Keep (B + 1) Hb Hc := fun b hb => (k0 b (by omega)).trans (hK b hb)
        have c1c := hKc.cells b1 (by omega)
        clear hC c1 k0
        refine wp_loop (Inv := fun k2 t H2 => ∃ (v : Nat) (fv : List Nat) (av : AV), v + k2 = q.voices.l.length ∧ Keep C Hc H2 ∧ C + 1 ≤ H2.next ∧ H2.cells C = some [slm ClefChange.enc q.clefs, av] ∧ Acc 2 2 Voice.enc H2 av (Sl.of ((q.voices.l.mapIdx fun v z => rVoice (n2 + upTo Voice.sz q.voices.l v) z).take v)) fv ∧ (∀ b ∈ fv, C + 1 ≤ b) ∧
          ∃ x : Nat → AV, t = [x 0, .ptr 0 0, .ptr 1 0, slm O.enc (Sl.of (objs s)), .ptr 2 0, .sc (.int .i64 ((n2 + upTo Voice.sz q.voices.l v : Nat) : Int)), x 6, x 7, x 8, x 9, .sc (.int .i64 m), .ptr B 0, ec, .sc (.int .i64 c), .ptr C 0, .sc (.int .i64 v), x 16, x 17, x 18, x 19, x 20, x 21, x 22, x 23, x 24, x 25, x 26, x 27, x 28, x 29, x 30, x 31, x 32, x 33, x 34, x 35, x 36, x 37, x 38, x 39, x 40, x 41, x 42, x 43, x 44, x 45, x 46, x 47, x 48, x 49, x 50, x 51, x 52, x 53, x 54, x 55, x 56, x 57, x 58, x 59, x 60, x 61, x 62, x 63, x 64, x 65, x 66, x 67, x 68, x 69, x 70, x 71, x 72, x 73, x 74, x 75, x 76, x 77, x 78, x 79, x 80, x 81, x 82, x 83, x 84, x 85, x 86, x 87, x 88, x 89, x 90, x 91, x 92, x 93, x 94, x 95, x 96, x 97, x 98, x 99, x 100, x 101, x 102, x 103, x 104, x 105, x 106, x 107, x 108, x 109, x 110, x 111, x 112, x 113, x 114, x 115, x 116, x 117, x 118, x 119, x 120, x 121, x 122, x 123, x 124, x 125, x 126, x 127, x 128, x 129, x 130, x 131, x 132, x 133, x 134, x 135, x 136, x 137, x 138, x 139, x 140, x 141, x 142, x 143, x 144, x 145, x 146, x 147, x 148, x 149, x 150, x 151, x 152, x 153, x 154, x 155, x 156, x 157, x 158, x 159, x 160, x 161, x 162, x 163, x 164, x 165, x 166, x 167, x 168, x 169, x 170, x 171, x 172, x 173, x 174, x 175, x 176, x 177, x 178, x 179, x 180, x 181, x 182, x 183, x 184, x 185, x 186, x 187, x 188, x 189, x 190, x 191, x 192, x 193, x 194, x 195, x 196, x 197, x 198, x 199, x 200, x 201, x 202, x 203, x 204, x 205, x 206, x 207, x 208, x 209, x 210, x 211, x 212, x 213, x 214, x 215, x 216, x 217, x 218, x 219, x 220, x 221, x 222, x 223, x 224, x 225, x 226, x 227, x 228]) (k := q.voices.l.length) ?_
          ⟨0, [], _, by omega, Keep.refl, by omega, k1, acc_none, by simp, ex_x rfl⟩
        rintro k2 t H2 ⟨v, fv, av, hk2, hK2, hN2, hC2, hV, hfv, x, rfl⟩
        have c2 := hK2.cells c1c (by omega)
        have hvl := qs.2.1
        by_cases h4 : (v : Int) < (q.voices.l.length : Int)
        · obtain ⟨z, hz⟩ : ∃ z, q.voices.l[v]? = some z := ⟨_, List.getElem?_eq_getElem (by omega)⟩
          have zs := qs.2.2 z (List.mem_of_getElem? hz)
          have hzsz := upTo_le (f := Voice.sz) hz
          generalize hn4 : n2 + upTo Voice.sz q.voices.l v = n4
          have hzz : z.sz = z.events.l.length := rfl
          have hn5 : n4 + z.events.l.length ≤ s.sz := by omega
          simp -implicitDefEqProofs (maxDischargeDepth := 12) only [WW,List.replicate,e_splice,if_true,if_false,ite_true,ite_false,true_or,ne_eq,seval,h_putc,beq_self_eq_true,eq_self,exists_eq_left,exists_eq_left', c2, h3, hq, q.enc_eq, h4, hz, z.enc_eq]
          generalize hD' : H2.next = D
          generalize hHd : AHeap.put _ D _ = Hd
          have l0 : ∀ b, b < D → Hd.cells b = H2.cells b := fun b hb => by subst hHd; rw [c_put_ne (by omega), c_alloc_ne (by omega)]
          have l1 : Hd.cells D = some [.sc .nils, slm Tuplet.enc z.tuplets] := by
            subst hHd
            simp -implicitDefEqProofs (maxDischargeDepth := 12) only [WW,List.replicate,e_splice,if_true,if_false,ite_true,ite_false,true_or,ne_eq,seval,h_putc,beq_self_eq_true,eq_self,exists_eq_left,exists_eq_left', hD']
          have ln : Hd.next = D + 1 := by subst hHd; simp only [AHeap.next_put, AHeap.next_alloc, hD']
          clear hHd
          have hltV := hV.lts
          rw [hD'] at hltV
          have hCD : C + 1 ≤ D := by omega
          have hV1 : Acc 2 2 Voice.enc Hd av _ fv := hV.fr fun b hb => l0 b (hltV b hb)
          have hKd : Keep C Hc Hd := fun b hb => (l0 b (by omega)).trans (hK2 b hb)
          have hCd := (l0 C (by omega)).trans hC2
          have c2d := hKd.cells c1c (by omega)
          clear hV c2 l0 hC2
          refine wp_loop (Inv := fun k3 t H3 => ∃ (e : Nat) (fe : List Nat) (ae : AV), e + k3 = z.events.l.length ∧ Keep D Hd H3 ∧ D + 1 ≤ H3.next ∧ H3.cells D = some [ae, slm Tuplet.enc z.tuplets] ∧ Acc 1 13 Event.enc H3 ae (Sl.of ((z.events.l.mapIdx fun e w => rEvent (n4 + e) w).take e)) fe ∧ (∀ b ∈ fe, D + 1 ≤ b) ∧
            ∃ x : Nat → AV, t = [x 0, .ptr 0 0, .ptr 1 0, slm O.enc (Sl.of (objs s)), .ptr 2 0, .sc (.int .i64 ((n4 + e : Nat) : Int)), x 6, x 7, x 8, x 9, .sc (.int .i64 m), .ptr B 0, ec, .sc (.int .i64 c), .ptr C 0, .sc (.int .i64 v), .ptr D 0, .sc (.int .i64 e), x 18, x 19, x 20, x 21, x 22, x 23, x 24, x 25, x 26, x 27, x 28, x 29, x 30, x 31, x 32, x 33, x 34, x 35, x 36, x 37, x 38, x 39, x 40, x 41, x 42, x 43, x 44, x 45, x 46, x 47, x 48, x 49, x 50, x 51, x 52, x 53, x 54, x 55, x 56, x 57, x 58, x 59, x 60, x 61, x 62, x 63, x 64, x 65, x 66, x 67, x 68, x 69, x 70, x 71, x 72, x 73, x 74, x 75, x 76, x 77, x 78, x 79, x 80, x 81, x 82, x 83, x 84, x 85, x 86, x 87, x 88, x 89, x 90, x 91, x 92, x 93, x 94, x 95, x 96, x 97, x 98, x 99, x 100, x 101, x 102, x 103, x 104, x 105, x 106, x 107, x 108, x 109, x 110, x 111, x 112, x 113, x 114, x 115, x 116, x 117, x 118, x 119, x 120, x 121, x 122, x 123, x 124, x 125, x 126, x 127, x 128, x 129, x 130, x 131, x 132, x 133, x 134, x 135, x 136, x 137, x 138, x 139, x 140, x 141, x 142, x 143, x 144, x 145, x 146, x 147, x 148, x 149, x 150, x 151, x 152, x 153, x 154, x 155, x 156, x 157, x 158, x 159, x 160, x 161, x 162, x 163, x 164, x 165, x 166, x 167, x 168, x 169, x 170, x 171, x 172, x 173, x 174, x 175, x 176, x 177, x 178, x 179, x 180, x 181, x 182, x 183, x 184, x 185, x 186, x 187, x 188, x 189, x 190, x 191, x 192, x 193, x 194, x 195, x 196, x 197, x 198, x 199, x 200, x 201, x 202, x 203, x 204, x 205, x 206, x 207, x 208, x 209, x 210, x 211, x 212, x 213, x 214, x 215, x 216, x 217, x 218, x 219, x 220, x 221, x 222, x 223, x 224, x 225, x 226, x 227, x 228]) (k := z.events.l.length) ?_
            ⟨0, [], _, by omega, Keep.refl, by omega, l1, acc_none, by simp, ex_x rfl⟩
          rintro k3 t H3 ⟨e, fe, ae, hk3, hK3, hN3, hD3, hE, hfe, x, rfl⟩
          have c3 := hK3.cells c2d (by omega)
          have hel := zs.1
          have r1 : ¬ (D = H3.next) := by omega
          by_cases h5 : (e : Int) < (z.events.l.length : Int)
          · obtain ⟨w, hw⟩ : ∃ w, z.events.l[e]? = some w := ⟨_, List.getElem?_eq_getElem (by omega)⟩
            have e4 : IntKind.i64.wrap ((e : Int) + 1) = ((e + 1 : Nat) : Int) := by rw [w64 (by omega) (by omega)]; omega
            have e5 : IntKind.i64.wrap (((n4 + e : Nat) : Int) + 1) = ((n4 + (e + 1) : Nat) : Int) := by rw [w64 (by omega) (by omega)]; omega
            simp -implicitDefEqProofs (maxDischargeDepth := 12) only [WW,List.replicate,e_splice,if_true,if_false,ite_true,ite_false,true_or,ne_eq,seval,h_putc,beq_self_eq_true,eq_self,exists_eq_left,exists_eq_left', c3, hD3, h3, hq, q.enc_eq, h4, hz, z.enc_eq, h5, hw, w.enc_eq, e5, r1, hE.one, hE.cells]
            refine wA_app2 row_Event hE (by repeat (first | exact Keep.refl | refine Keep.put (by (try simp only [AHeap.next_alloc, AHeap.next_put]); omega) ?_ | refine Keep.alloc (by (try simp only [AHeap.next_alloc, AHeap.next_put]); omega) ?_)) (by simp only [AHeap.next_alloc, AHeap.next_put]; omega) (ys := [rEvent (n4 + e) w]) (by simp) rfl (asrc_new (by simp) rfl) (own_one (Event.enc_plain _) Event.enc_eq) Apart.nil_right ?_ ?_
            · rw [l_of]; simp only [List.length_take, List.length_mapIdx, List.length_cons, List.length_nil]; omega
            intro v' H4 fp' hE' hn2' hk2' hfp2 ho2 hc2
            rw [of_step (f := fun e w => rEvent (n4 + e) w) hw] at hE'
            have g3 := (hk2' D (fun h => by have := hfe D h; omega) (by omega)).trans hD3
            have hfp3 : ∀ b ∈ fp', D + 1 ≤ b := fun b hb => by
              rcases hfp2 b hb with h | h | h
              · exact hfe b h
              · simp at h
              · omega
            simp -implicitDefEqProofs (maxDischargeDepth := 12) only [WW,List.replicate,e_splice,if_true,if_false,ite_true,ite_false,true_or,ne_eq,seval,h_putc,beq_self_eq_true,eq_self,exists_eq_left,exists_eq_left', g3, ho2, hc2, e4]
            refine ⟨k3 - 1, by omega, e + 1, fp', v', by omega, fun b hb => ?_, by omega, rfl, hE'.fr fun b hb => c_put_ne (by have := hfp3 b hb; omega), hfp3, ex_x rfl⟩
            rw [c_put_ne (by omega), hk2' b (fun h => by have := hfe b h; omega) (by omega), hK3 b hb]
          · obtain rfl : e = z.events.l.length := by omega
            rw [mapIdx_take_all] at hE
            obtain ⟨fq', hOE, hq'⟩ := hE.own row_Event
            have g1 := (hK3 C (by omega)).trans hCd
            have r2 : ¬ (C = H3.next) := by omega
            have hV2 : Acc 2 2 Voice.enc H3 av _ fv := hV1.fr fun b hb => hK3 b (hltV b hb)
            have e4 : IntKind.i64.wrap ((v : Int) + 1) = ((v + 1 : Nat) : Int) := by rw [w64 (by omega) (by omega)]; omega
            simp -implicitDefEqProofs (maxDischargeDepth := 12) only [WW,List.replicate,e_splice,if_true,if_false,ite_true,ite_false,true_or,ne_eq,seval,h_putc,beq_self_eq_true,eq_self,exists_eq_left,exists_eq_left', c3, hD3, g1, h3, hq, q.enc_eq, h4, hz, z.enc_eq, h5, r1, r2, hE.one, hE.cells]
            refine wA_app2 row_Voice hV2 (by repeat (first | exact Keep.refl | refine Keep.put (by (try simp only [AHeap.next_alloc, AHeap.next_put]); omega) ?_ | refine Keep.alloc (by (try simp only [AHeap.next_alloc, AHeap.next_put]); omega) ?_)) (by simp) (ys := [rVoice n4 z]) (by simp) rfl (asrc_new rfl rfl) (fp1 := fq' ++ []) ?_ (fun b hb h => ?_) ?_ ?_
            · have := OwnL.append (OwnL.single hOE) (OwnL.plain (H := H3) (d := 1) (cs := [slm Tuplet.enc z.tuplets]) (by simp [plain1_slm Tuplet.enc_closed])) Apart.nil_right
              exact this.fr fun b hb => c_alloc_ne (by have := this.lts b hb; omega)
            · have := hltV b hb
              have := hfe b (hq' b (by simpa using h)); omega
            · rw [l_of]; simp only [List.length_take, List.length_mapIdx, List.length_cons, List.length_nil]; omega
            intro v' H4 fp' hV' hn2' hk2' hfp2 ho2 hc2
            rw [← hn4, of_step (f := fun v z => rVoice (n2 + upTo Voice.sz q.voices.l v) z) hz] at hV'
            have g4 := (hk2' C (fun h => by have := hfv C h; omega) (by omega)).trans g1
            have hfp3 : ∀ b ∈ fp', C + 1 ≤ b := fun b hb => by
              rcases hfp2 b hb with h | h | h
              · exact hfv b h
              · have := hfe b (hq' b (by simpa using h)); omega
              · omega
            refine ⟨by simp only [k_nil], ?_⟩
            simp -implicitDefEqProofs (maxDischargeDepth := 12) only [WW,List.replicate,e_splice,if_true,if_false,ite_true,ite_false,true_or,ne_eq,seval,h_putc,beq_self_eq_true,eq_self,exists_eq_left,exists_eq_left', g4, ho2, hc2, e4]
            refine ⟨k2 - 1, by omega, v + 1, fp', v', by omega, fun b hb => ?_, by omega, rfl, hV'.fr fun b hb => c_put_ne (by have := hfp3 b hb; omega), hfp3, ?_⟩
            · rw [c_put_ne (by omega), hk2' b (fun h => by have := hfv b h; omega) (by omega), hK3 b (by omega), hKd b hb]
            rw [upTo_succ hz, ← Nat.add_assoc, hn4, hzz]
            exact ex_x rfl
        · obtain rfl : v = q.voices.l.length := by omega
          rw [mapIdx_take_all] at hV
          obtain ⟨fq', hOV, hq'⟩ := hV.own row_Voice
          have hC3 : Acc 3 2 Cell.enc H2 ec _ fc := hC1.fr fun b hb => hK2 b (hltC b hb)
          have r1 : ¬ (C = H2.next) := by omega
          simp -implicitDefEqProofs (maxDischargeDepth := 12) only [WW,List.replicate,e_splice,if_true,if_false,ite_true,ite_false,true_or,ne_eq,seval,h_putc,beq_self_eq_true,eq_self,exists_eq_left,exists_eq_left', c2, hC2, h3, hq, q.enc_eq, h4, r1, hV.one, hV.cells]
          refine wA_app2 row_Cell hC3 (by repeat (first | exact Keep.refl | refine Keep.put (by (try simp only [AHeap.next_alloc, AHeap.next_put]); omega) ?_ | refine Keep.alloc (by (try simp only [AHeap.next_alloc, AHeap.next_put]); omega) ?_)) (by simp) (ys := [rCell n2 q]) (by simp) rfl (asrc_new rfl rfl) (fp1 := [] ++ fq') ?_ (fun b hb h => ?_) ?_ ?_
          · have := OwnL.append (fp := []) (OwnL.plain (H := H2) (d := 2) (cs := [slm ClefChange.enc q.clefs]) (by simp [plain1_slm ClefChange.enc_closed])) (OwnL.single hOV) Apart.nil_left
            exact this.fr fun b hb => c_alloc_ne (by have := this.lts b hb; omega)
          · have := hltC b hb
            have := hfv b (hq' b (by simpa using h)); omega
          · rw [l_of]; simp only [List.length_take, List.length_mapIdx, List.length_cons, List.length_nil]; omega
          intro v' H4 fp' hQ' hn2' hk2' hfp2 ho2 hc2
          rw [← hn2, of_step (f := fun c q => rCell (n + 1 + upTo Cell.sz y.cells.l c) q) hq] at hQ'
          have hfp3 : ∀ b ∈ fp', B + 1 ≤ b := fun b hb => by
            rcases hfp2 b hb with h | h | h
            · exact hfc b h
            · have := hfv b (hq' b (by simpa using h)); omega
            · omega
          refine ⟨by simp only [k_nil], ?_⟩
          simp -implicitDefEqProofs (maxDischargeDepth := 12) only [WW,List.replicate,e_splice,if_true,if_false,ite_true,ite_false,true_or,ne_eq,seval,h_putc,beq_self_eq_true,eq_self,exists_eq_left,exists_eq_left', e4]
          refine ⟨k' - 1, by omega, c + 1, fp', v', by omega, fun b hb => ?_, by omega, hQ', hfp3, ?_⟩
          · rw [hk2' b (fun h => by have := hfc b h; omega) (by omega), hK2 b (by omega), hKc b hb]
          rw [upTo_succ hq, ← Nat.add_assoc, hn2, hqz, ← upTo_all]
          exact ex_x rfl
      · obtain rfl : c = y.cells.l.length := by omega
        rw [mapIdx_take_all] at hC
        obtain ⟨fq', hOC, hq'⟩ := hC.own row_Cell
        have c0 := hK.cells hb0 (by omega)
        have c2 := hK.cells hb2 (by omega)
        have r0 : ¬ (0 = H'.next) := by omega
        have r2 : ¬ (2 = H'.next) := by omega
        have r3 : ¬ (B = H'.next) := by omega
        have r4 : ¬ (2 = B) := by omega
        have r5 : ¬ (0 = B) := by omega
        have hM2 : Acc 4 22 Measure.enc H' am _ fm := hM1.fr fun b hb => hK b (by have := hltM b hb; omega)
        have hP2 : Acc 3 6 Part.enc H' a _ fp := hA1.fr fun b hb => hK b (by have := hltP b hb; omega)
        simp -implicitDefEqProofs (maxDischargeDepth := 12) only [WW,List.replicate,e_splice,if_true,if_false,ite_true,ite_false,true_or,ne_eq,seval,h_putc,beq_self_eq_true,eq_self,exists_eq_left,exists_eq_left', c0, c1, c2, h3, r0, r2, r3, r4, hC.one, hC.cells]
        generalize hHd : AHeap.put H' B _ = Hd
        have d0 : ∀ b, b ≠ B → Hd.cells b = H'.cells b := fun b hb => by subst hHd; exact c_put_ne hb
        have dn : Hd.next = H'.next := by subst hHd; exact AHeap.next_put _ _ _
        clear hHd
        refine wA_app2 row_Measure (hM2.fr (H' := Hd) fun b hb => d0 b (by have := hltM b hb; omega)) (by repeat (first | exact Keep.refl | refine Keep.put (by (try simp only [AHeap.next_alloc, AHeap.next_put]); omega) ?_ | refine Keep.alloc (by (try simp only [AHeap.next_alloc, AHeap.next_put]); omega) ?_)) (by simp) (ys := [rMeas n y]) (by simp) rfl (asrc_new dn.symm rfl) (fp1 := [] ++ fq') ?_ (fun b hb h => ?_) ?_ ?_
        · have := OwnL.append (fp := []) (OwnL.plain (H := Hd) (d := 3) (cs := [.sc (.int .i64 0), .sc (.int .i64 ((n + 1 : Nat) : Int)), .sc (.int .i64 y.metre.count), .sc (.int .i64 y.metre.unit), .sc (.int .i64 y.metre.g0), .sc (.int .i64 y.metre.g1), .sc (.int .i64 y.metre.g2), .sc (.int .i64 y.metre.g3), .sc (.int .i64 y.metre.g4), .sc (.int .i64 y.metre.g5), .sc (.int .i64 y.length), .sc (.int .i64 y.fifths), .sc (.bool y.rstart), .sc (.int .i64 y.rend), .sc (.int .i64 y.endings), .sc (.int .i64 y.jump), .sc (.int .i64 y.labels), .sc (.int .i64 y.swing), .sc (.int .i64 y.brk), .sc (.str y.rehearsal), slm Tempo.enc y.tempi]) (by simp [pl_sc, plain1_slm Tempo.enc_closed])) (OwnL.single ((hOC.frame fun b hb => d0 b (by have := hfc b (hq' b hb); omega)))) Apart.nil_left
          exact this.fr fun b hb => c_alloc_ne (by have := this.lts b hb; omega)
        · have := hltM b hb
          have := hfc b (hq' b (by simpa using h)); omega
        · rw [l_of]; simp only [List.length_take, List.length_mapIdx, List.length_cons, List.length_nil]; omega
        intro v' H2 fp' hM' hn2 hk2 hfp2 ho2 hc2
        rw [← hn, of_step (f := fun m y => rMeas (s.szP + upTo Measure.sz s.measures.l m) y) hy] at hM'
        have g0 := (hk2 0 (fun h => by have := hfm 0 h; omega) (by omega)).trans ((d0 0 (by omega)).trans c0)
        have g1 := (hk2 1 (fun h => by have := hfm 1 h; omega) (by omega)).trans ((d0 1 (by omega)).trans (hK.cells hb1 (by omega)))
        have g2 := (hk2 2 (fun h => by have := hfm 2 h; omega) (by omega)).trans ((d0 2 (by omega)).trans c2)
        have hfp3 : ∀ b ∈ fp', r ≤ b := fun b hb => by
          rcases hfp2 b hb with h | h | h
          · exact hfm b h
          · have := hfc b (hq' b (by simpa using h)); omega
          · omega
        have hP3 : Acc 3 6 Part.enc H2 a _ fp := hP2.fr fun b hb => by
          have := hltP b hb
          rw [hk2 b (fun h => by have := hfm b h; omega) (by omega), d0 b (by omega)]
        refine ⟨by simp only [k_nil], ?_⟩
        simp -implicitDefEqProofs (maxDischargeDepth := 12) only [WW,List.replicate,e_splice,if_true,if_false,ite_true,ite_false,true_or,ne_eq,seval,h_putc,beq_self_eq_true,eq_self,exists_eq_left,exists_eq_left', e2, g0, g1, g2, ho2, hc2]
        refine ⟨k - 1, by omega, m + 1, fp', v', by omega, rfl, hP3.fr fun b hb => h_put_ne (by have := hfp b hb; omega), hM'.fr fun b hb => h_put_ne (by have := hfp3 b hb; omega), hfp3, by omega, ?_⟩
        rw [upTo_succ hy, ← Nat.add_assoc, hn, hyz, ← upTo_all, ← Nat.add_assoc]
        exact ex_x rfl
    · obtain rfl : m = s.measures.l.length := by omega
      rw [mapIdx_take_all] at hM
      have hszM : upTo Measure.sz s.measures.l s.measures.l.length = s.szM := upTo_all.symm
      rw [hszM]
      have hltM := hM.lts
      generalize hq : H.next = q at hltM
      have hq3 : 3 ≤ q := by omega
      have hrq : r ≤ q := by omega
      simp -implicitDefEqProofs (maxDischargeDepth := 12) only [WW,List.replicate,e_splice,if_true,if_false,ite_true,ite_false,true_or,ne_eq,seval,h_putc,beq_self_eq_true,eq_self,exists_eq_left,exists_eq_left', hH0, hH1, hH2, h1]
      have hsl := hs.spanners
      refine wp_loop (Inv := fun k t H => ∃ (i : Nat) (fs : List Nat) (sp : AV), i + k = s.spanners.l.length ∧ H.cells 0 = some [.sc (.str s.title), .sc (.bool s.written), slm Part.enc s.parts, slm Measure.enc s.measures, slm Spanner.enc s.spanners, slm ID.enc s.last] ∧ H.cells 1 = some [.sc (.str ⟨#[]⟩), .sc (.bool false), .sc .nils, .sc .nils, .sc .nils, .sc .nils] ∧
        H.cells 2 = some [.sc (.str s.title), .sc (.bool s.written), a, am, sp, .sc .nils] ∧ Acc 3 6 Part.enc H a (Sl.of (s.parts.l.mapIdx fun i p => rPart (upTo Part.sz s.parts.l i) p)) fp ∧ Acc 4 22 Measure.enc H am (Sl.of (s.measures.l.mapIdx fun m y => rMeas (s.szP + upTo Measure.sz s.measures.l m) y)) fm ∧
        Acc 1 7 Spanner.enc H sp (Sl.of ((s.spanners.l.mapIdx fun i x => rSpan (objs s) (s.szP + s.szM + i) x).take i)) fs ∧ (∀ b ∈ fs, q ≤ b) ∧ q ≤ H.next ∧
        ∃ x : Nat → AV, t = [x 0, .ptr 0 0, .ptr 1 0, slm O.enc (Sl.of (objs s)), .ptr 2 0, .sc (.int .i64 (s.szP + s.szM + i : Nat)), x 6, x 7, x 8, x 9, x 10, x 11, x 12, x 13, x 14, x 15, x 16, x 17, x 18, .sc (.int .i64 i), x 20, x 21, x 22, x 23, x 24, x 25, x 26, x 27, x 28, x 29, x 30, x 31, x 32, x 33, x 34, x 35, x 36, x 37, x 38, x 39, x 40, x 41, x 42, x 43, x 44, x 45, x 46, x 47, x 48, x 49, x 50, x 51, x 52, x 53, x 54, x 55, x 56, x 57, x 58, x 59, x 60, x 61, x 62, x 63, x 64, x 65, x 66, x 67, x 68, x 69, x 70, x 71, x 72, x 73, x 74, x 75, x 76, x 77, x 78, x 79, x 80, x 81, x 82, x 83, x 84, x 85, x 86, x 87, x 88, x 89, x 90, x 91, x 92, x 93, x 94, x 95, x 96, x 97, x 98, x 99, x 100, x 101, x 102, x 103, x 104, x 105, x 106, x 107, x 108, x 109, x 110, x 111, x 112, x 113, x 114, x 115, x 116, x 117, x 118, x 119, x 120, x 121, x 122, x 123, x 124, x 125, x 126, x 127, x 128, x 129, x 130, x 131, x 132, x 133, x 134, x 135, x 136, x 137, x 138, x 139, x 140, x 141, x 142, x 143, x 144, x 145, x 146, x 147, x 148, x 149, x 150, x 151, x 152, x 153, x 154, x 155, x 156, x 157, x 158, x 159, x 160, x 161, x 162, x 163, x 164, x 165, x 166, x 167, x 168, x 169, x 170, x 171, x 172, x 173, x 174, x 175, x 176, x 177, x 178, x 179, x 180, x 181, x 182, x 183, x 184, x 185, x 186, x 187, x 188, x 189, x 190, x 191, x 192, x 193, x 194, x 195, x 196, x 197, x 198, x 199, x 200, x 201, x 202, x 203, x 204, x 205, x 206, x 207, x 208, x 209, x 210, x 211, x 212, x 213, x 214, x 215, x 216, x 217, x 218, x 219, x 220, x 221, x 222, x 223, x 224, x 225, x 226, x 227, x 228]) (k := s.spanners.l.length) ?_
        ⟨0, [], _, by omega, hH0, hH1, hH2, hA, hM, acc_none, by simp, by omega, ex_x rfl⟩
      clear hA hM hH0 hH1 hH2 h1 x hq hrn H hk
      rintro k t H ⟨i, fs, sp, hk, hH0, hH1, hH2, hA, hM, hS, hfs, hqn, x, rfl⟩
      by_cases h1 : (i : Int) < (s.spanners.l.length : Int)
      · obtain ⟨w, hw⟩ : ∃ w, s.spanners.l[i]? = some w := ⟨_, List.getElem?_eq_getElem (by omega)⟩
        have e2 : IntKind.i64.wrap ((i : Int) + 1) = ((i + 1 : Nat) : Int) := by rw [w64 (by omega) (by omega)]; omega
        have hsS : s.szP + s.szM + s.spanners.l.length = s.sz := rfl
        have e3 : IntKind.i64.wrap (((s.szP + s.szM + i : Nat) : Int) + 1) = ((s.szP + s.szM + (i + 1) : Nat) : Int) := by rw [w64 (by omega) (by omega)]; omega
        have hSl := hS.lts
        simp -implicitDefEqProofs (maxDischargeDepth := 12) only [WW,List.replicate,e_splice,if_true,if_false,ite_true,ite_false,true_or,ne_eq,seval,h_putc,beq_self_eq_true,eq_self,exists_eq_left,exists_eq_left', hH0, hH2, h1, hw, w.enc_eq, e3]
        refine wA_pure h100 (fresh_pv (objs s) hs.Tame.objs w.from_) ?_
        simp -implicitDefEqProofs (maxDischargeDepth := 12) only [WW,List.replicate,e_splice,if_true,if_false,ite_true,ite_false,true_or,ne_eq,seval,h_putc,beq_self_eq_true,eq_self,exists_eq_left,exists_eq_left', hH0, hH2]
        refine wA_pure h100 (fresh_pv (objs s) hs.Tame.objs w.to) ?_
        simp -implicitDefEqProofs (maxDischargeDepth := 12) only [WW,List.replicate,e_splice,if_true,if_false,ite_true,ite_false,true_or,ne_eq,seval,h_putc,beq_self_eq_true,eq_self,exists_eq_left,exists_eq_left', hH0, hH2, (newId (objs s) w.from_).enc_eq, (newId (objs s) w.to).enc_eq, hS.one, hS.cells]
        refine wA_app2 row_Spanner' hS (by repeat (first | exact Keep.refl | refine Keep.put (by (try simp only [AHeap.next_alloc, AHeap.next_put]); omega) ?_ | refine Keep.alloc (by (try simp only [AHeap.next_alloc, AHeap.next_put]); omega) ?_)) (by simp only [AHeap.next_alloc, AHeap.next_put]; omega) (ys := [rSpan (objs s) (s.szP + s.szM + i) w]) (by simp) rfl (asrc_new (by simp) rfl) (own_one (Spanner.enc_plain _) Spanner.enc_eq) Apart.nil_right ?_ ?_
        · rw [l_of]; simp only [List.length_take, List.length_mapIdx, List.length_cons, List.length_nil]; omega
        intro v' H2 fp' hS' hn2 hk2 hfp2 ho2 hc2
        rw [of_step (f := fun i x => rSpan (objs s) (s.szP + s.szM + i) x) hw] at hS'
        have g0 := (hk2 0 (fun h => by have := hfs 0 h; omega) (by omega)).trans hH0
        have g1 := (hk2 1 (fun h => by have := hfs 1 h; omega) (by omega)).trans hH1
        have g2 := (hk2 2 (fun h => by have := hfs 2 h; omega) (by omega)).trans hH2
        have hfp3 : ∀ b ∈ fp', q ≤ b := fun b hb => by
          rcases hfp2 b hb with h | h | h
          · exact hfs b h
          · simp at h
          · omega
        have hA3 : Acc 3 6 Part.enc H2 a _ fp := hA.fr fun b hb => by
          have := hltP b hb
          exact hk2 b (fun h => by have := hfs b h; omega) (by omega)
        have hM3 : Acc 4 22 Measure.enc H2 am _ fm := hM.fr fun b hb => by
          have := hltM b hb
          exact hk2 b (fun h => by have := hfs b h; omega) (by omega)
        simp -implicitDefEqProofs (maxDischargeDepth := 12) only [WW,List.replicate,e_splice,if_true,if_false,ite_true,ite_false,true_or,ne_eq,seval,h_putc,beq_self_eq_true,eq_self,exists_eq_left,exists_eq_left', e2, g0, g1, g2, ho2, hc2]
        exact ⟨k - 1, by omega, i + 1, fp', v', by omega, rfl, hA3.fr fun b hb => h_put_ne (by have := hfp b hb; omega), hM3.fr fun b hb => h_put_ne (by have := hfm b hb; omega), hS'.fr fun b hb => h_put_ne (by have := hfp3 b hb; omega), hfp3, by omega, ex_x rfl⟩
      · obtain rfl : i = s.spanners.l.length := by omega
        rw [mapIdx_take_all] at hS
        have hsS : s.szP + s.szM + s.spanners.l.length = s.sz := rfl
        rw [hsS]
        have hSl := hS.lts
        obtain ⟨gp, op, kp⟩ := hA.own row_Part
        obtain ⟨gm, om, km⟩ := hM.own row_Measure
        obtain ⟨gs, os, ks⟩ := hS.own row_Spanner'
        by_cases h2 : 0 < s.sz
        · have h3 : (0 : Int) < (s.sz : Int) := by omega
          have r1 : ¬ (1 = H.next) := by omega
          have r2 : ¬ (2 = H.next) := by omega
          simp -implicitDefEqProofs (maxDischargeDepth := 12) only [WW,List.replicate,e_splice,if_true,if_false,ite_true,ite_false,true_or,ne_eq,seval,h_putc,beq_self_eq_true,eq_self,exists_eq_left,exists_eq_left', hH0, hH1, hH2, h1, h3, r1, r2, hA.one, hA.cells, hM.one, hM.cells, hS.one, hS.cells]
          unfold Score.renR
          rw [if_pos h2]
          refine OwnX.frz (d := 6) ⟨_, rfl, .cons OwnX.scal (.cons OwnX.scal (.cons ((op.mono (by decide)).frame fun b hb => ?_) (.cons ((om.mono (by decide)).frame fun b hb => ?_) (.cons ((os.mono (by decide)).frame fun b hb => ?_) (.cons (f := [H.next]) (own_last (n := s.sz) ?_) .nil Apart.nil_right) ?_) ?_) ?_) Apart.nil_left) Apart.nil_left⟩ (by decide)
          · have := kp b hb
            have := hfp b this
            have := hltP b (kp b hb)
            rw [c_put_ne (by omega), c_put_ne (by omega), c_alloc_ne (by omega)]
          · have := hfm b (km b hb)
            have := hltM b (km b hb)
            rw [c_put_ne (by omega), c_put_ne (by omega), c_alloc_ne (by omega)]
          · have := hfs b (ks b hb)
            have := hSl b (ks b hb)
            rw [c_put_ne (by omega), c_put_ne (by omega), c_alloc_ne (by omega)]
          · rw [c_put_ne (by omega), c_put_ne (by omega)]
            simp -implicitDefEqProofs (maxDischargeDepth := 12) only [WW,List.replicate,e_splice,if_true,if_false,ite_true,ite_false,true_or,ne_eq,seval,h_putc,beq_self_eq_true,eq_self,exists_eq_left,exists_eq_left']
          · intro b hb hb2
            simp only [List.append_nil, List.mem_singleton] at hb2
            have := hSl b (ks b hb)
            omega
          · intro b hb hb2
            simp only [List.append_nil, List.mem_append, List.mem_singleton] at hb2
            have := hltM b (km b hb)
            rcases hb2 with h | h
            · have := hfs b (ks b h); omega
            · omega
          · intro b hb hb2
            simp only [List.append_nil, List.mem_append, List.mem_singleton] at hb2
            have := hltP b (kp b hb)
            rcases hb2 with h | h | h
            · have := hfm b (km b h); omega
            · have := hfs b (ks b h); omega
            · omega
        · have h3 : ¬ (0 : Int) < (s.sz : Int) := by omega
          simp -implicitDefEqProofs (maxDischargeDepth := 12) only [WW,List.replicate,e_splice,if_true,if_false,ite_true,ite_false,true_or,ne_eq,seval,h_putc,beq_self_eq_true,eq_self,exists_eq_left,exists_eq_left', hH0, hH1, hH2, h1, h3, hA.one, hA.cells, hM.one, hM.cells, hS.one, hS.cells]
          unfold Score.renR
          rw [if_neg h2]
          refine OwnX.frz (d := 6) ⟨_, rfl, .cons OwnX.scal (.cons OwnX.scal (.cons ((op.mono (by decide)).frame fun b hb => ?_) (.cons ((om.mono (by decide)).frame fun b hb => ?_) (.cons ((os.mono (by decide)).frame fun b hb => ?_) (.cons OwnX.scal .nil Apart.nil_right) ?_) ?_) ?_) Apart.nil_left) Apart.nil_left⟩ (by decide)
          · have := kp b hb
            have := hfp b this
            rw [c_put_ne (by omega)]
          · have := hfm b (km b hb)
            rw [c_put_ne (by omega)]
          · have := hfs b (ks b hb)
            rw [c_put_ne (by omega)]
          · intro b hb hb2
            simp at hb2
          · intro b hb hb2
            simp only [List.append_nil] at hb2
            have := hltM b (km b hb)
            have := hfs b (ks b hb2); omega
          · intro b hb hb2
            simp only [List.append_nil, List.mem_append] at hb2
            have := hltP b (kp b hb)
            rcases hb2 with h | h
            · have := hfm b (km b h); omega
            · have := hfs b (ks b h); omega
end Go.Hem
/- A spanner put anew, cell by cell. -/
set_option linter.unusedSimpArgs false
set_option linter.unusedVariables false
namespace Go.Hem
theorem splice_mid2 {A B C ys : List AV} {j : Nat} (h : j + ys.length ≤ B.length) : splice (A ++ (B ++ C)) (A.length + j) ys = A ++ (splice B j ys ++ C) := by
  unfold splice
  rw [List.take_append, List.take_of_length_le (l := A) (by omega), Nat.add_sub_cancel_left, List.take_append_of_le_length (by omega), List.drop_append, List.drop_of_length_le (l := A) (by omega), List.nil_append, Nat.add_assoc, Nat.add_sub_cancel_left, List.drop_append_of_le_length (by omega)]
  simp only [List.append_assoc]
theorem splice_sp {ds : List AV} {p : Nat} {c0 c1 c2 c3 c4 c5 c6 a b c d : AV} (hp : p + 7 ≤ ds.length) (h : (ds.drop p).take 7 = [c0, c1, c2, c3, c4, c5, c6]) : splice (splice ds (p + 3) [a, b]) (p + 5) [c, d] = splice ds p [c0, c1, c2, a, b, c, d] := by
  have hA : (ds.take p).length = p := by rw [List.length_take]; omega
  have e : ds = ds.take p ++ ([c0, c1, c2, c3, c4, c5, c6] ++ (ds.drop p).drop 7) := by rw [← h, List.take_append_drop, List.take_append_drop]
  generalize (ds.drop p).drop 7 = C at e
  generalize hA' : ds.take p = A at e hA
  rw [e, ← hA, splice_mid2 (by simp)]
  have e2 : splice [c0, c1, c2, c3, c4, c5, c6] 3 [a, b] = [c0, c1, c2, a, b, c5, c6] := rfl
  rw [e2, splice_mid2 (by simp)]
  have e3 : splice [c0, c1, c2, a, b, c5, c6] 5 [c, d] = [c0, c1, c2, a, b, c, d] := rfl
  have e4 : splice [c0, c1, c2, c3, c4, c5, c6] 0 [c0, c1, c2, a, b, c, d] = [c0, c1, c2, a, b, c, d] := rfl
  have e5 := splice_mid2 (A := A) (B := [c0, c1, c2, c3, c4, c5, c6]) (C := C) (ys := [c0, c1, c2, a, b, c, d]) (j := 0) (by simp)
  rw [Nat.add_zero, e4] at e5
  rw [e3, e5]
theorem take_part {ds : List AV} {p n j m : Nat} {cs : List AV} (h : (ds.drop p).take n = cs) (hj : j + m ≤ n) : (ds.drop (p + j)).take m = (cs.drop j).take m := by
  rw [← h, List.drop_take, List.take_take, List.drop_drop, Nat.min_eq_left (by omega)]
theorem store_span {H : AHeap} {bS : Nat} {R : List Nat} {a : Score} {v : AV} {i : Nat} {y : Spanner} (h : Foc H bS R a v 4 (slm Spanner.enc a.spanners)) (hy : a.spanners.l[i]? = some y) (hRS : bS ∉ R) :
    ∃ b off cap ds, v = .slice b off a.spanners.l.length cap 7 ∧ H.cells b = some ds ∧ off + i * 7 + 7 ≤ ds.length ∧ b ∈ R ∧ (ds.drop (off + i * 7)).take 7 = y.enc.cells ∧ ∀ (x : Spanner) H1 ws g, (∀ c ∈ R, H1.cells c = H.cells c) → H1.cells bS = H.cells bS → ws.length = 7 → OwnL (OwnX false 6) H1 ws x.enc.cells g → (∀ c ∈ g, c ∉ R) →
      OwnScore (H1.put b (some (.cells (splice ds (off + i * 7) ws)))) bS (R ++ g) (a.setX i x) := by
  obtain ⟨f, h1, h2, h3⟩ := h
  obtain ⟨b, off, cap, ds, e1, e2, e3, e4, e5⟩ := store_fin (g1 := f) (v := v) row_Spanner (by decide) h1 hy (fun _ h => h) h2 hRS
  obtain ⟨b', off', cap', ds', d1, d2, d3, d4, d5⟩ := own_sp h1 hy
  rw [e1] at d1
  simp only [AV.slice.injEq, true_and, and_true] at d1
  obtain ⟨rfl, rfl, rfl⟩ := d1
  rw [e2] at d2; cases d2
  exact ⟨b, off, cap, ds, e1, e2, e3, e4, d5, fun x => e5 x _ _ Fit.refl (h3 (a.setX i x) _ rfl)⟩
end Go.Hem
/- Walks: score.Renumber. -/
set_option maxRecDepth 10000
set_option maxHeartbeats 4000000
set_option linter.unusedSimpArgs false
set_option linter.unusedVariables false
namespace Go.Hem
variable {pol : Pol}
theorem OwnScore.fr {H H2 : AHeap} {bS : Nat} {R : List Nat} {a : Score} (h : OwnScore H bS R a) (h1 : ∀ c ∈ R, H2.cells c = H.cells c) (h2 : H2.cells bS = H.cells bS) : OwnScore H2 bS R a := by
  obtain ⟨cs, fp, x1, x2, x3⟩ := h
  exact ⟨cs, fp, h2.trans x1, x2.fr fun c hc => h1 c (x3 c hc), x3⟩
/-! ### Congruence, identity -/
section
variable {φ ψ : Nat → ID → ID}
theorem gPart_congr {n : Nat} {p : Part} (h : ∀ k, n ≤ k → k < n + p.sz → φ k = ψ k) : gPart φ n p = gPart ψ n p := by
  unfold Part.sz at h
  unfold gPart
  have e2 : (p.staves.map fun l => l.mapIdx fun j q => { q with id := φ (n + 1 + j) q.id }) = p.staves.map fun l => l.mapIdx fun j (q : Staff) => { q with id := ψ (n + 1 + j) q.id } :=
    map_congr_sl (mapIdx_congr' fun j q hq => by have := (List.getElem?_eq_some_iff.1 hq).1; rw [h _ (by omega) (by omega)])
  rw [h n (by omega) (by omega), e2]
theorem gVoice_congr {n : Nat} {z : Voice} (h : ∀ k, n ≤ k → k < n + z.sz → φ k = ψ k) : gVoice φ n z = gVoice ψ n z := by
  unfold Voice.sz at h
  unfold gVoice
  have e2 : (z.events.map fun l => l.mapIdx fun j w => { w with id := φ (n + j) w.id }) = z.events.map fun l => l.mapIdx fun j (w : Event) => { w with id := ψ (n + j) w.id } :=
    map_congr_sl (mapIdx_congr' fun j q hq => by have := (List.getElem?_eq_some_iff.1 hq).1; rw [h _ (by omega) (by omega)])
  rw [e2]
theorem gCell_congr {n : Nat} {q : Cell} (h : ∀ k, n ≤ k → k < n + q.sz → φ k = ψ k) : gCell φ n q = gCell ψ n q := by
  unfold gCell
  have e2 : (q.voices.map fun l => l.mapIdx fun v z => gVoice φ (n + upTo Voice.sz q.voices.l v) z) = q.voices.map fun l => l.mapIdx fun v z => gVoice ψ (n + upTo Voice.sz q.voices.l v) z :=
    map_congr_sl (mapIdx_congr' fun j z hz => gVoice_congr fun k h1 h2 => h k (by omega) (by
      have := upTo_le (f := Voice.sz) hz
      unfold Cell.sz; omega))
  rw [e2]
theorem gMeas_congr {n : Nat} {y : Measure} (h : ∀ k, n ≤ k → k < n + y.sz → φ k = ψ k) : gMeas φ n y = gMeas ψ n y := by
  unfold Measure.sz at h
  unfold gMeas
  have e2 : (y.cells.map fun l => l.mapIdx fun c q => gCell φ (n + 1 + upTo Cell.sz y.cells.l c) q) = y.cells.map fun l => l.mapIdx fun c q => gCell ψ (n + 1 + upTo Cell.sz y.cells.l c) q :=
    map_congr_sl (mapIdx_congr' fun j z hz => gCell_congr fun k h1 h2 => h k (by omega) (by
      have := upTo_le (f := Cell.sz) hz
      omega))
  rw [h n (by omega) (by omega), e2]
theorem gScore_congr {a : Score} (h : ∀ k, k < a.sz → φ k = ψ k) : gScore φ a = gScore ψ a := by
  unfold Score.sz at h
  unfold gScore
  have e1 : (a.parts.map fun l => l.mapIdx fun i p => gPart φ (upTo Part.sz a.parts.l i) p) = a.parts.map fun l => l.mapIdx fun i p => gPart ψ (upTo Part.sz a.parts.l i) p :=
    map_congr_sl (mapIdx_congr' fun j z hz => gPart_congr fun k h1 h2 => h k (by have := upTo_le (f := Part.sz) hz; unfold Score.szP; omega))
  have e2 : (a.measures.map fun l => l.mapIdx fun m y => gMeas φ (a.szP + upTo Measure.sz a.measures.l m) y) = a.measures.map fun l => l.mapIdx fun m y => gMeas ψ (a.szP + upTo Measure.sz a.measures.l m) y :=
    map_congr_sl (mapIdx_congr' fun j z hz => gMeas_congr fun k h1 h2 => h k (by have := upTo_le (f := Measure.sz) hz; unfold Score.szM; omega))
  have e3 : (a.spanners.map fun l => l.mapIdx fun i x => { x with id := φ (a.szP + a.szM + i) x.id }) = a.spanners.map fun l => l.mapIdx fun i (x : Spanner) => { x with id := ψ (a.szP + a.szM + i) x.id } :=
    map_congr_sl (mapIdx_congr' fun j q hq => by have := (List.getElem?_eq_some_iff.1 hq).1; rw [h _ (by omega)])
  rw [e1, e2, e3]
end
theorem map_id_sl {α : Type} {s : Sl α} {f : Nat → α → α} (h : ∀ i x, f i x = x) : (s.map fun l => l.mapIdx f) = s := by
  cases s with
  | none => rfl
  | some l =>
    simp only [Option.map_some, Option.some.injEq]
    apply List.ext_getElem?
    intro i
    rw [List.getElem?_mapIdx]
    cases l[i]? with
    | none => rfl
    | some x => simp [h]
theorem gScore_id (a : Score) : gScore (fun _ id => id) a = a := by
  have h1 : ∀ n p, gPart (fun _ id => id) n p = p := fun n p => by unfold gPart; rw [map_id_sl fun _ _ => rfl]
  have h2 : ∀ n p, gVoice (fun _ id => id) n p = p := fun n p => by unfold gVoice; rw [map_id_sl fun _ _ => rfl]
  have h3 : ∀ n p, gCell (fun _ id => id) n p = p := fun n p => by unfold gCell; rw [map_id_sl fun _ _ => h2 _ _]
  have h4 : ∀ n p, gMeas (fun _ id => id) n p = p := fun n p => by unfold gMeas; rw [map_id_sl fun _ _ => h3 _ _]
  unfold gScore
  rw [map_id_sl fun _ _ => h1 _ _, map_id_sl fun _ _ => h4 _ _, map_id_sl fun _ _ => rfl]
/-- The first of the objects have new ids. -/
def firstK (k : Nat) : Nat → ID → ID := fun n id => if n < k then ⟨0, ((n + 1 : Nat) : Int)⟩ else id
theorem firstK_zero (a : Score) : gScore (firstK 0) a = a := by
  have : firstK 0 = fun _ id => id := by funext n id; unfold firstK; rw [if_neg (by omega)]
  rw [this, gScore_id]
theorem firstK_all (a : Score) : gScore (firstK a.sz) a = gScore numb a := gScore_congr fun k hk => by funext id; unfold firstK numb; rw [if_pos hk]
theorem firstK_succ (k : Nat) : upd (firstK k) k ⟨0, ((k + 1 : Nat) : Int)⟩ = firstK (k + 1) := by
  funext n id
  unfold upd firstK
  by_cases h : n = k
  · subst h; rw [if_pos rfl, if_pos (by omega)]
  · rw [if_neg h]
    by_cases h2 : n < k
    · rw [if_pos h2, if_pos (by omega)]
    · rw [if_neg h2, if_neg (by omega)]
theorem sz_cl (s : Score) : s.cl.sz = s.sz := by
  rw [← objs_len, objs_cl, objs_len]
/-- The score behind some of the spanners. -/
def renB (s : Score) (i : Nat) : Score := { gScore numb s.cl with spanners := (gScore numb s.cl).spanners.map fun l => l.mapIdx fun j x => if j < i then { x with from_ := newId (objs s) x.from_, to := newId (objs s) x.to } else x }
theorem renB_zero (s : Score) : renB s 0 = gScore numb s.cl := by
  unfold renB
  rw [map_id_sl fun i x => by rw [if_neg (by omega)]]
theorem renB_len (s : Score) (i : Nat) : (Sl.l (renB s i).spanners).length = s.spanners.l.length := by
  have h1 : (Sl.l (renB s i).spanners).length = (Sl.l (gScore numb s.cl).spanners).length := len_mapIdx
  have h2 : (Sl.l (gScore numb s.cl).spanners).length = s.spanners.l.length := len_mapIdx
  rw [h1, h2]
theorem renB_succ {s : Score} {i : Nat} {y : Spanner} (hy : (renB s i).spanners.l[i]? = some y) : (renB s i).setX i { y with from_ := newId (objs s) y.from_, to := newId (objs s) y.to } = renB s (i + 1) := by
  obtain ⟨y0, hy0, e⟩ := at_mapIdx hy
  rw [if_neg (by omega)] at e
  subst e
  have e := set_map (s := (gScore numb s.cl).spanners) (f := fun j x => if j < i then { x with from_ := newId (objs s) x.from_, to := newId (objs s) x.to } else x) (g := fun j x => if j < i + 1 then { x with from_ := newId (objs s) x.from_, to := newId (objs s) x.to } else x) hy0 (fun j x hj _ => by
    by_cases h : j < i
    · rw [if_pos h, if_pos (by omega)]
    · rw [if_neg h, if_neg (by omega)])
  simp only [if_pos (Nat.lt_succ_self i)] at e
  unfold renB Score.setX
  simp only [Score.mk.injEq, true_and, and_true]
  exact e
theorem renB_all (s : Score) : renB s s.spanners.l.length = { gScore numb s.cl with spanners := (gScore numb s.cl).spanners.map fun l => l.map fun x => { x with from_ := newId (objs s) x.from_, to := newId (objs s) x.to } } := by
  unfold renB
  simp only [Score.mk.injEq, true_and, and_true]
  refine map_congr_sl ?_
  apply List.ext_getElem?
  intro j
  rw [List.getElem?_mapIdx, List.getElem?_map]
  cases hx : (Sl.l (gScore numb s.cl).spanners)[j]? with
  | none => rfl
  | some x =>
    have h1 := (List.getElem?_eq_some_iff.1 hx).1
    have h2 : (Sl.l (gScore numb s.cl).spanners).length = s.spanners.l.length := len_mapIdx
    simp only [Option.map_some]
    rw [if_pos (by omega)]
/-- What is so between two yields. -/
def RenJ (a : Score) (q : Nat) (fp : List Nat) (LB : Blk) (r : List Pos) (H : AHeap) : Prop :=
  H.cells (q + 4) = some [.ptr q 0] ∧ OwnScore H q fp (gScore (firstK (a.sz - r.length)) a) ∧ H.get (q + 5) = some LB ∧ H.cells (q + 2) = some [.map (q + 1)] ∧ H.cells (q + 3) = some [.sc (.int .i64 ((a.sz - r.length : Nat) : Int))] ∧ (∃ pre, poss a = pre ++ r) ∧
    H.cells 1 = some [.sc (.str ⟨#[]⟩), .sc (.bool false), .sc .nils, .sc .nils, .sc .nils, .sc .nils] ∧ ∃ L, H.map (q + 1) = some (ents L) ∧ ∀ id, L.lookup id = freshO ((objs a).take (a.sz - r.length)) 0 id
theorem renum_pv (hc : ClPol pol) (hp63 : pol.pure 63 = false) (s : Score) (hx : s.tame) (hT : Tame s) : Pv prog pol 53 [s.enc] (s.renP.enc) := by
  refine Pv_of' ok53 (by simp only [AV.closedBs, Score.enc_closed, Bool.and_self]) ?_
  simp -implicitDefEqProofs (maxDischargeDepth := 12) only [wpF, cf53, WW,List.replicate,e_splice,if_true,if_false,ite_true,ite_false,true_or,ne_eq,seval,h_putc,beq_self_eq_true,eq_self,exists_eq_left,exists_eq_left', s.enc_eq]
  rw [← s.enc_eq]
  refine wA_call (hc _ (by decide)) ((sClone_ok hc s hx _).mono ?_)
  rintro o H1 ⟨cs, fp, rfl, ho, hl, hones, hF, hN, hK⟩
  refine ⟨_, rfl, by simp only [k_nil], ?_⟩
  simp -implicitDefEqProofs (maxDischargeDepth := 12) only [WW,List.replicate,e_splice,if_true,if_false,ite_true,ite_false,true_or,ne_eq,seval,h_putc,beq_self_eq_true,eq_self,exists_eq_left,exists_eq_left'] at hF hN
  have g1 : H1.cells 1 = some [.sc (.str ⟨#[]⟩), .sc (.bool false), .sc .nils, .sc .nils, .sc .nils, .sc .nils] := (hK 1 (show 1 < 2 by decide)).trans (by simp -implicitDefEqProofs (maxDischargeDepth := 12) only [WW,List.replicate,e_splice,if_true,if_false,ite_true,ite_false,true_or,ne_eq,seval,h_putc,beq_self_eq_true,eq_self,exists_eq_left,exists_eq_left'])
  generalize hq : H1.next = q
  have hq2 : 2 ≤ q := by rw [← hq]; exact hN
  have hlt := ho.lts
  have hsp : splice [.sc (.str ⟨#[]⟩), .sc (.bool false), .sc .nils, .sc .nils, .sc .nils, .sc .nils] 0 cs = cs := splice_full hl.symm
  simp -implicitDefEqProofs (maxDischargeDepth := 12) only [WW,List.replicate,if_true,if_false,ite_true,ite_false,true_or,ne_eq,seval,beq_self_eq_true,eq_self,exists_eq_left,exists_eq_left', hones, hl, s_mkmap, hq, hsp, o_map, c_map]
  generalize hH2 : AHeap.put _ (q + 1 + 1) _ = H2
  have n2 : H2.next = q + 3 := by subst hH2; simp only [AHeap.next_put, AHeap.next_alloc, hq]
  have a0 : ∀ b, b < q → H2.cells b = H1.cells b := fun b hb => by
    subst hH2
    rw [c_put_ne (by omega), c_alloc_ne (by simp only [AHeap.next_put, AHeap.next_alloc, hq]; omega), c_alloc_ne (by simp only [AHeap.next_put, AHeap.next_alloc, hq]; omega), c_put_ne (by omega), c_alloc_ne (by omega)]
  have aq : H2.cells q = some cs := by
    subst hH2
    rw [c_put_ne (by omega), c_alloc_ne (by simp only [AHeap.next_put, AHeap.next_alloc, hq]; omega), c_alloc_ne (by simp only [AHeap.next_put, AHeap.next_alloc, hq]; omega)]
    refine h_put_self (y := [.sc (.str ⟨#[]⟩), .sc (.bool false), .sc .nils, .sc .nils, .sc .nils, .sc .nils]) ?_
    rw [h_alloc, if_pos hq.symm]
  have am : H2.map (q + 1) = some [] := by
    subst hH2
    rw [AHeap.map, g_put_ne (by omega), g_alloc_ne (by simp only [AHeap.next_put, AHeap.next_alloc, hq]; omega)]
    have e : q + 1 = ((H1.alloc (Blk.cells [AV.sc (Sc.str { data := #[] }), AV.sc (Sc.bool false), AV.sc Sc.nils, AV.sc Sc.nils, AV.sc Sc.nils, AV.sc Sc.nils])).put q (some (Blk.cells cs))).next := by simp only [AHeap.next_put, AHeap.next_alloc, hq]
    rw [e, g_alloc]
  have ab : H2.cells (q + 2) = some [.map (q + 1)] := by
    subst hH2
    refine h_put_self (y := [.sc .nilm]) ?_
    rw [h_alloc, if_pos (by simp only [AHeap.next_put, AHeap.next_alloc, hq])]
  clear hH2
  have hsp2 : splice [AV.sc (Sc.int IntKind.i64 0)] 0 [AV.sc (Sc.int IntKind.i64 0)] = [AV.sc (Sc.int IntKind.i64 0)] := rfl
  rw [hsp2]
  generalize hH3 : AHeap.put _ (q + 1 + 1 + 1) _ = H3
  have n3 : H3.next = q + 4 := by subst hH3; simp only [AHeap.next_put, AHeap.next_alloc, n2]
  have b0 : ∀ b, b < q + 3 → H3.get b = H2.get b := fun b hb => by
    subst hH3
    rw [g_put_ne (by omega), g_alloc_ne (by omega)]
  have bn : H3.cells (q + 3) = some [.sc (.int .i64 0)] := by
    subst hH3
    refine h_put_self (y := [.sc (.int .i64 0)]) ?_
    rw [h_alloc, if_pos n2.symm]
  clear hH3
  refine wA_call hp63 (visit0_ok _ _ rfl rfl ⟨_, rfl, by simp only [k_nil], ?_⟩)
  simp -implicitDefEqProofs (maxDischargeDepth := 12) only [WW,List.replicate,e_splice,if_true,if_false,ite_true,ite_false,true_or,ne_eq,seval,h_putc,beq_self_eq_true,eq_self,exists_eq_left,exists_eq_left', n3]
  refine ev_range rfl (callee110 _) ?_
  intro A B hA hB
  simp -implicitDefEqProofs (maxDischargeDepth := 12) only [WW,List.replicate,e_splice,if_true,if_false,ite_true,ite_false,true_or,ne_eq,seval,h_putc,beq_self_eq_true,eq_self,exists_eq_left,exists_eq_left', n3]
  have hTc := Tame_cl hT
  have hR : ∀ b ∈ fp, b < q := fun b hb => by have := hlt b hb; omega
  have hR2 : ∀ b ∈ fp, 2 ≤ b := hF
  have hqR : q ∉ fp := fun h => by have := hR q h; omega
  have hsz : s.cl.sz < 1000000 := by rw [← objs_len]; exact hTc.objs
  generalize hLB : Blk.loop LoopState.ready none _ [16, 17] A B = LB
  refine Ev.mono (visit_own (pol := pol) s.cl hTc (q + 4 + 1) (q + 4) q fp (fun r => gScore (firstK (s.cl.sz - r.length)) s.cl) (RenJ s.cl q fp LB) (fun _ => False) ?_ ?_ ?_) ?_
  · rintro r H ⟨h1, h2, -⟩
    exact ⟨h1, h2, gScore_shape _ _⟩
  · rintro o r H p ⟨h1, h2, hl, hb, hn, ⟨pre, hpre⟩, hc1, L, hm, hL⟩ ⟨b, off, ds, id, g, rfl, hbR, hds, hl2, hs0, hs1, hI, hw⟩
    subst hLB
    have hln := hg_lt hl
    have hbq := hR b hbR
    have hb2 := hR2 b hbR
    obtain ⟨hid, hg⟩ := idAt_g hI
    have hlen : pre.length + (r.length + 1) = s.cl.sz := by rw [← poss_len, hpre]; simp
    have hix : s.cl.ix o = pre.length := ix_head hpre
    generalize hk : s.cl.sz - (o :: r).length = k at *
    have hkp : k = pre.length := by rw [← hk, List.length_cons]; omega
    rw [hix, ← hkp] at hid hg
    have hid' : id = s.cl.idOf o := by rw [hid]; unfold firstK; rw [if_neg (by omega)]
    have hkr : s.cl.sz - r.length = k + 1 := by omega
    have ew : IntKind.i64.wrap ((k : Int) + 1) = ((k + 1 : Nat) : Int) := by rw [w64 (by omega) (by omega)]; omega
    have hobj : (objs s.cl).take (k + 1) = (objs s.cl).take k ++ [s.cl.objAt o] := by
      rw [List.take_add_one, objs_poss, List.getElem?_map, hpre, List.getElem?_append_right (by omega), hkp, Nat.sub_self]; rfl
    generalize hpl : o.place = pl
    refine ev_round2 (t1 := ?t1) (H1 := ?H1) hl rfl hA hB ?_ ?_ ?_
    case t1 => exact ((([s.enc, .ptr 0 0, .ptr 1 0, .ptr q 0, .ptr (q + 1 + 1) 0, .ptr (q + 1 + 1 + 1) 0, .sc .undef, .sc .undef, .sc .undef, .sc .undef, .sc .undef, .sc .undef, s.enc, .agg cs, .map (q + 1), .func (.func 110) [] [.ptr (q + 4) 0], .sc .undef, .sc .undef, .sc .undef, .sc .undef, .sc .undef, .sc .undef, .sc .undef, .sc .undef, .sc .undef, .sc .undef, .sc .undef, .sc .undef, .sc .undef, .sc .undef, .sc .undef, .sc .undef, .sc .undef, .sc .undef, .sc .undef, .sc .undef, .sc .undef, .sc .undef, .sc .undef, .sc .undef, .sc .undef, .sc .undef, .sc .undef, .sc .undef, .sc .undef, .sc .undef, .sc .undef, .sc .undef, .sc .undef, .sc .undef, .sc .undef, .sc .undef, .sc .undef, .sc .undef, .sc .undef, .sc .undef, .sc .undef, .sc .undef, .sc .undef, .sc .undef, .sc .undef, .sc .undef, .sc .undef, .sc .undef, .sc .undef, .sc .undef, .sc .undef, .sc .undef, .sc .undef, .sc .undef, .sc .undef, .sc .undef, .sc .undef, .sc .undef, .sc .undef, .sc .undef, .sc .undef, .sc .undef, .sc .undef, .sc .undef, .sc .undef, .sc .undef, .sc .undef, .sc .undef, .sc .undef, .sc .undef, .sc .undef, .sc .undef, .sc .undef].set 16 pl.enc).set 17 (AV.ptr b off)).set 6 (.ptr H.next 0)) |>.set 7 (.ptr b off)
    case H1 => exact (H.alloc (.cells [.sc (.int .i64 0), .sc (.int .i64 0), .sc (.int .i64 0), .sc (.int .i64 0), .sc (.int .i64 0), .sc (.int .i64 0), .sc (.int .i64 0)])).put H.next (some (.cells pl.enc.cells))
    · simp -implicitDefEqProofs (maxDischargeDepth := 12) only [WW,List.replicate,e_splice,if_true,if_false,ite_true,ite_false,true_or,ne_eq,seval,h_putc,beq_self_eq_true,eq_self,exists_eq_left,exists_eq_left', pl.enc_eq]
    · rw [g_put_ne (by omega), g_alloc_ne (by omega)]; exact hl
    generalize hH3 : AHeap.put (AHeap.alloc H _) _ _ = H4
    have k0 : ∀ c, c ≠ H.next → H4.get c = H.get c := fun c hc => by subst hH3; rw [g_put_ne hc, g_alloc_ne hc]
    have k1 : H4.cells H.next = some [.sc (.int .i64 pl.kind), .sc (.int .i64 pl.part), .sc (.int .i64 pl.staff), .sc (.int .i64 pl.measure), .sc (.int .i64 pl.voice), .sc (.int .i64 pl.event), .sc (.int .i64 pl.spanner)] := by
      subst hH3
      exact h_put_self (by rw [h_alloc, if_pos rfl])
    have k9 : H4.next = H.next + 1 := by subst hH3; simp only [AHeap.next_put, AHeap.next_alloc]
    have k2 := (k0 (q + 4 + 1) (by omega)).trans hl
    clear hH3
    generalize hH5 : AHeap.put H4 _ _ = H5
    have m0 : ∀ c, c ≠ q + 4 + 1 → c ≠ H.next → H5.get c = H.get c := fun c hc hc2 => by subst hH5; rw [g_put_ne hc, k0 c hc2]
    have m1 : H5.get (q + 4 + 1) = some (.loop .busy none [s.enc, .ptr 0 0, .ptr 1 0, .ptr q 0, .ptr (q + 1 + 1) 0, .ptr (q + 1 + 1 + 1) 0, .sc .undef, .sc .undef, .sc .undef, .sc .undef, .sc .undef, .sc .undef, s.enc, .agg cs, .map (q + 1), .func (.func 110) [] [.ptr (q + 4) 0], .sc .undef, .sc .undef, .sc .undef, .sc .undef, .sc .undef, .sc .undef, .sc .undef, .sc .undef, .sc .undef, .sc .undef, .sc .undef, .sc .undef, .sc .undef, .sc .undef, .sc .undef, .sc .undef, .sc .undef, .sc .undef, .sc .undef, .sc .undef, .sc .undef, .sc .undef, .sc .undef, .sc .undef, .sc .undef, .sc .undef, .sc .undef, .sc .undef, .sc .undef, .sc .undef, .sc .undef, .sc .undef, .sc .undef, .sc .undef, .sc .undef, .sc .undef, .sc .undef, .sc .undef, .sc .undef, .sc .undef, .sc .undef, .sc .undef, .sc .undef, .sc .undef, .sc .undef, .sc .undef, .sc .undef, .sc .undef, .sc .undef, .sc .undef, .sc .undef, .sc .undef, .sc .undef, .sc .undef, .sc .undef, .sc .undef, .sc .undef, .sc .undef, .sc .undef, .sc .undef, .sc .undef, .sc .undef, .sc .undef, .sc .undef, .sc .undef, .sc .undef, .sc .undef, .sc .undef, .sc .undef, .sc .undef, .sc .undef, .sc .undef, .sc .undef] [16, 17] A B) := by subst hH5; exact g_put k2
    have m2 : H5.cells H.next = _ := (show H5.cells H.next = H4.cells H.next by subst hH5; exact c_put_ne (by omega)).trans k1
    have m9 : H5.next = H.next + 1 := by subst hH5; rw [AHeap.next_put, k9]
    clear hH5
    have m3 := (cells_of_get (m0 b (by omega) (by omega))).trans hds
    have m4 := (cells_of_get (m0 (q + 1 + 1) (by omega) (by omega))).trans hb
    have m5 := (map_of_get (m0 (q + 1) (by omega) (by omega))).trans hm
    have m6 := (cells_of_get (m0 (q + 1 + 1 + 1) (by omega) (by omega))).trans hn
    have hid2 : (ds.drop off).take 2 = [.sc (.int .i64 id.site), .sc (.int .i64 id.number)] := get_two hs0 hs1
    simp -implicitDefEqProofs (maxDischargeDepth := 12) only [WW,List.replicate,if_true,if_false,ite_true,ite_false,true_or,ne_eq,seval,beq_self_eq_true,eq_self,exists_eq_left,exists_eq_left', m2, m3, m4, m6, ew, hl2, hid2]
    generalize hH6 : AHeap.put H5 (q + 1 + 1 + 1) _ = H6
    have p0 : ∀ c, c ≠ q + 3 → H6.get c = H5.get c := fun c hc => by subst hH6; exact g_put_ne hc
    have p6 : H6.cells (q + 1 + 1 + 1) = some [.sc (.int .i64 ((k + 1 : Nat) : Int))] := by subst hH6; exact h_put_self m6
    have p9 : H6.next = H.next + 1 := by subst hH6; rw [AHeap.next_put, m9]
    clear hH6
    have p1 := (p0 (q + 4 + 1) (by omega)).trans m1
    have p2 := (cells_of_get (p0 H.next (by omega))).trans m2
    have p3 := (cells_of_get (p0 b (by omega))).trans m3
    have p4 := (cells_of_get (p0 (q + 1 + 1) (by omega))).trans m4
    have p5 := (map_of_get (p0 (q + 1) (by omega))).trans m5
    have p7 : ∀ c, c ≠ q + 3 → c ≠ q + 4 + 1 → c ≠ H.next → H6.get c = H.get c := fun c h1 h2 h3 => (p0 c h1).trans (m0 c h2 h3)
    have hLid := hL id
    have LK := (look_ents p5 id).2
    generalize hv : (L.lookup id).getD ID.zero = v at LK
    generalize hbs : (L.lookup id).isSome = bs at LK
    simp only [id.enc_eq, v.enc_eq] at LK
    have f1 : ¬ b = H.next + 1 := by omega
    have f2 : ¬ q + 1 + 1 = H.next + 1 := by omega
    have f3 : ¬ q + 1 + 1 + 1 = H.next + 1 := by omega
    have f4 : ¬ H.next = H.next + 1 := by omega
    have fin : ∀ (H8 : AHeap) (L' : List (ID × ID)) (LB : Blk), (∀ c, c ≠ q + 1 → c ≠ q + 3 → c ≠ q + 4 + 1 → c ≠ b → c ≠ H.next → c ≠ H.next + 1 → H8.get c = H.get c) → H8.cells b = some (splice ds off [.sc (.int .i64 0), .sc (.int .i64 ((k + 1 : Nat) : Int))]) → H8.get (q + 4 + 1) = some LB → H8.cells (q + 3) = some [.sc (.int .i64 ((k + 1 : Nat) : Int))] → H8.map (q + 1) = some (ents L') → (∀ id, L'.lookup id = freshO ((objs s.cl).take (k + 1)) 0 id) → RenJ s.cl q fp LB r H8 := by
      intro H8 L' LB e1 e2 e3 e4 e5 e6
      have hO := hw hqR ⟨0, ((k + 1 : Nat) : Int)⟩
      rw [hg, firstK_succ] at hO
      refine ⟨(cells_of_get (e1 _ (by omega) (by omega) (by omega) (by omega) (by omega) (by omega))).trans h1, ?_, e3, (cells_of_get (e1 _ (by omega) (by omega) (by omega) (by omega) (by omega) (by omega))).trans hb, by rw [hkr]; exact e4, ⟨pre ++ [o], by rw [hpre]; simp⟩, (cells_of_get (e1 1 (by omega) (by omega) (by omega) (by omega) (by omega) (by omega))).trans hc1, L', e5, by rw [hkr]; exact e6⟩
      rw [hkr]
      refine hO.fr (fun c hc => ?_) ?_
      · by_cases hcb : c = b
        · subst hcb; rw [e2, h_put_self hds]
        · have := hR c hc; have := hR2 c hc
          rw [c_put_ne hcb, cells_of_get (e1 c (by omega) (by omega) (by omega) hcb (by omega) (by omega))]
      · rw [c_put_ne (by omega), cells_of_get (e1 q (by omega) (by omega) (by omega) (by omega) (by omega) (by omega))]
    have hsn : ∀ x, freshO ((objs s.cl).take (k + 1)) 0 x = (freshO ((objs s.cl).take k) 0 x).or (if pl.kind = 4 ∧ id = x ∧ x ≠ ID.zero then some ⟨0, ((k + 1 : Nat) : Int)⟩ else none) := fun x => by
      rw [hobj, freshO_snoc]
      have e1 : (s.cl.objAt o).place = pl := hpl
      have e2 : (s.cl.objAt o).id = id := hid'.symm
      have e3 : ((objs s.cl).take k).length = k := by rw [List.length_take, objs_len]; omega
      rw [e1, e2, e3, Nat.zero_add]
    by_cases hk4 : pl.kind = 4
    · cases bs with
      | true =>
        simp -implicitDefEqProofs (maxDischargeDepth := 12) only [WW,List.replicate,e_splice,if_true,if_false,ite_true,ite_false,true_or,ne_eq,seval,h_putc,beq_self_eq_true,eq_self,exists_eq_left,exists_eq_left', p2, p3, p4, p6, p9, hl2, hid2, s_lkup, LK, hk4, f1, f2, f3, f4]
        -- $1: the map behind, $2: its fact at H8
        generalize hH8 : AHeap.put (AHeap.put (AHeap.alloc H6 _) (H.next + 1) _) b _ = H8
        have t0 : ∀ c, c ≠ b → c ≠ H.next + 1 → H8.get c = H6.get c := fun c h1 h2 => by subst hH8; rw [g_put_ne h1, g_put_ne h2, g_alloc_ne (by omega)]
        have t1 : H8.cells b = some (splice ds off [.sc (.int .i64 0), .sc (.int .i64 ((k + 1 : Nat) : Int))]) := by
          subst hH8
          refine h_put_self (y := ds) ?_
          rw [c_put_ne f1, c_alloc_ne (by omega)]; exact p3
        clear hH8
        refine ⟨(t0 _ (by omega) (by omega)).trans p1, rfl, fin _ L _ (fun c c1 c2 c3 c4 c5 c6 => by rw [g_put_ne c3, t0 c c4 c6, p7 c c2 c3 c5]) ((c_put_ne (by omega)).trans t1) (g_put ((t0 _ (by omega) (by omega)).trans p1)) ((c_put_ne (by omega)).trans ((cells_of_get (t0 _ (by omega) (by omega))).trans p6)) ((map_of_get ((g_put_ne (by omega)).trans (t0 _ (by omega) (by omega)))).trans p5) ?_⟩
        intro x
        rw [hsn x, ← hL x]
        by_cases hxi : id = x
        · subst hxi
          obtain ⟨w, hw'⟩ := Option.isSome_iff_exists.1 hbs
          rw [hw']; rfl
        · rw [if_neg (fun h => hxi h.2.1), Option.or_none]
      | false =>
        by_cases hz : id = ID.zero
        · simp -implicitDefEqProofs (maxDischargeDepth := 12) only [WW,List.replicate,e_splice,if_true,if_false,ite_true,ite_false,true_or,ne_eq,seval,h_putc,beq_self_eq_true,eq_self,exists_eq_left,exists_eq_left', p2, p3, p4, p6, p9, hl2, hid2, s_lkup, LK, hk4, f1, f2, f3, f4, id_zero, decide_eq_true hz]
          -- $1: the map behind, $2: its fact at H8
          generalize hH8 : AHeap.put (AHeap.put (AHeap.alloc H6 _) (H.next + 1) _) b _ = H8
          have t0 : ∀ c, c ≠ b → c ≠ H.next + 1 → H8.get c = H6.get c := fun c h1 h2 => by subst hH8; rw [g_put_ne h1, g_put_ne h2, g_alloc_ne (by omega)]
          have t1 : H8.cells b = some (splice ds off [.sc (.int .i64 0), .sc (.int .i64 ((k + 1 : Nat) : Int))]) := by
            subst hH8
            refine h_put_self (y := ds) ?_
            rw [c_put_ne f1, c_alloc_ne (by omega)]; exact p3
          clear hH8
          refine ⟨(t0 _ (by omega) (by omega)).trans p1, rfl, fin _ L _ (fun c c1 c2 c3 c4 c5 c6 => by rw [g_put_ne c3, t0 c c4 c6, p7 c c2 c3 c5]) ((c_put_ne (by omega)).trans t1) (g_put ((t0 _ (by omega) (by omega)).trans p1)) ((c_put_ne (by omega)).trans ((cells_of_get (t0 _ (by omega) (by omega))).trans p6)) ((map_of_get ((g_put_ne (by omega)).trans (t0 _ (by omega) (by omega)))).trans p5) ?_⟩
          intro x
          rw [hsn x, ← hL x]
          by_cases hxi : id = x
          · subst hxi
            rw [if_neg (fun h => h.2.2 hz), Option.or_none]
          · rw [if_neg (fun h => hxi h.2.1), Option.or_none]
        · have hnone : L.lookup id = none := by
            cases hlk : L.lookup id with
            | none => rfl
            | some w => rw [hlk] at hbs; cases hbs
          have PU := put_ents (H := (H6.alloc (.cells [.sc (.int .i64 0), .sc (.int .i64 0)])).put (H.next + 1) (some (.cells [.sc (.int .i64 v.site), .sc (.int .i64 v.number)]))) (b := q + 1) (l := L) (by
            rw [AHeap.map, g_put_ne (by omega), g_alloc_ne (by omega)]; exact p5) id ⟨0, ((k + 1 : Nat) : Int)⟩ hnone
          simp only [id.enc_eq, ID.enc_eq] at PU
          simp -implicitDefEqProofs (maxDischargeDepth := 12) only [WW,List.replicate,e_splice,if_true,if_false,ite_true,ite_false,true_or,ne_eq,seval,h_putc,beq_self_eq_true,eq_self,exists_eq_left,exists_eq_left', p2, p3, p4, p6, p9, hl2, hid2, s_lkup, LK, hk4, f1, f2, f3, f4, id_zero, decide_eq_false hz, s_mpup, wA_memM, PU]
          generalize hH7 : AHeap.put _ (q + 1) _ = H7
          have r0 : ∀ c, c ≠ q + 1 → c ≠ H.next + 1 → H7.get c = H6.get c := fun c h1 h2 => by subst hH7; rw [g_put_ne h1, g_put_ne h2, g_alloc_ne (by omega)]
          have r5 : H7.map (q + 1) = some (ents (L ++ [(id, ⟨0, ((k + 1 : Nat) : Int)⟩)])) := by
            subst hH7
            rw [AHeap.map, g_put (y := .map (ents L))]
            rw [g_put_ne (by omega), g_alloc_ne (by omega)]; exact get_of_map p5
          clear hH7 PU
          have r3 := (cells_of_get (r0 b (by omega) (by omega))).trans p3
          have r6 := (cells_of_get (r0 (q + 1 + 1 + 1) (by omega) (by omega))).trans p6
          simp -implicitDefEqProofs (maxDischargeDepth := 12) only [WW,List.replicate,e_splice,if_true,if_false,ite_true,ite_false,true_or,ne_eq,seval,h_putc,beq_self_eq_true,eq_self,exists_eq_left,exists_eq_left', r3, r6, hl2]
          generalize hH8 : AHeap.put H7 b _ = H8
          have t0 : ∀ c, c ≠ b → H8.get c = H7.get c := fun c h1 => by subst hH8; exact g_put_ne h1
          have t1 : H8.cells b = some (splice ds off [.sc (.int .i64 0), .sc (.int .i64 ((k + 1 : Nat) : Int))]) := by subst hH8; exact h_put_self r3
          clear hH8
          refine ⟨(t0 _ (by omega)).trans ((r0 _ (by omega) (by omega)).trans p1), rfl, fin _ (L ++ [(id, ⟨0, ((k + 1 : Nat) : Int)⟩)]) _ (fun c c1 c2 c3 c4 c5 c6 => by rw [g_put_ne c3, t0 c c4, r0 c c1 c6, p7 c c2 c3 c5]) ((c_put_ne (by omega)).trans t1) (g_put ((t0 _ (by omega)).trans ((r0 _ (by omega) (by omega)).trans p1))) ((c_put_ne (by omega)).trans ((cells_of_get (t0 _ (by omega))).trans r6)) ((map_of_get ((g_put_ne (by omega)).trans (t0 _ (by omega)))).trans r5) ?_⟩
          intro x
          rw [hsn x, ← hL x, lookup_snoc]
          by_cases hxi : x = id
          · subst hxi
            rw [if_pos rfl, if_pos ⟨hk4, rfl, hz⟩]
          · rw [if_neg hxi, if_neg (fun h => hxi h.2.1.symm)]
    · simp -implicitDefEqProofs (maxDischargeDepth := 12) only [WW,List.replicate,e_splice,if_true,if_false,ite_true,ite_false,true_or,ne_eq,seval,h_putc,beq_self_eq_true,eq_self,exists_eq_left,exists_eq_left', p2, p3, p4, p6, p9, hl2, hid2, s_lkup, LK, hk4, f1, f2, f3, f4]
      -- $1: the map behind, $2: its fact at H8
      generalize hH8 : AHeap.put (AHeap.put (AHeap.alloc H6 _) (H.next + 1) _) b _ = H8
      have t0 : ∀ c, c ≠ b → c ≠ H.next + 1 → H8.get c = H6.get c := fun c h1 h2 => by subst hH8; rw [g_put_ne h1, g_put_ne h2, g_alloc_ne (by omega)]
      have t1 : H8.cells b = some (splice ds off [.sc (.int .i64 0), .sc (.int .i64 ((k + 1 : Nat) : Int))]) := by
        subst hH8
        refine h_put_self (y := ds) ?_
        rw [c_put_ne f1, c_alloc_ne (by omega)]; exact p3
      clear hH8
      refine ⟨(t0 _ (by omega) (by omega)).trans p1, rfl, fin _ L _ (fun c c1 c2 c3 c4 c5 c6 => by rw [g_put_ne c3, t0 c c4 c6, p7 c c2 c3 c5]) ((c_put_ne (by omega)).trans t1) (g_put ((t0 _ (by omega) (by omega)).trans p1)) ((c_put_ne (by omega)).trans ((cells_of_get (t0 _ (by omega) (by omega))).trans p6)) ((map_of_get ((g_put_ne (by omega)).trans (t0 _ (by omega) (by omega)))).trans p5) ?_⟩
      intro x
      rw [hsn x, ← hL x, if_neg (fun h => hk4 h.1), Option.or_none]
  · have e0 : s.cl.sz - (poss s.cl).length = 0 := by rw [poss_len]; omega
    have n4 : (H3.alloc (.cells [.ptr q 0])).next = q + 4 + 1 := by rw [AHeap.next_alloc, n3]
    have z0 : ∀ c, c < q + 4 → ((H3.alloc (.cells [.ptr q 0])).alloc LB).get c = H3.get c := fun c hc => by rw [g_alloc_ne (by omega), g_alloc_ne (by omega)]
    refine ⟨?_, ?_, ?_, (cells_of_get ((z0 _ (by omega)).trans (b0 _ (by omega)))).trans ab, ?_, ⟨[], rfl⟩, (cells_of_get ((z0 1 (by omega)).trans (b0 1 (by omega)))).trans ((a0 1 (by omega)).trans g1), [], (map_of_get ((z0 _ (by omega)).trans (b0 _ (by omega)))).trans am, fun id => ?_⟩
    · rw [c_alloc_ne (by omega), h_alloc, if_pos n3.symm]
    · rw [e0, firstK_zero]
      refine ⟨cs, fp, (cells_of_get ((z0 q (by omega)).trans (b0 q (by omega)))).trans aq, ho.fr fun b hb => ?_, fun _ h => h⟩
      have := hR b hb
      rw [cells_of_get ((z0 b (by omega)).trans (b0 b (by omega))), a0 b this]
    · have : q + 5 = (H3.alloc (.cells [.ptr q 0])).next := by omega
      rw [this, g_alloc]
    · rw [e0]
      exact (cells_of_get (z0 _ (by omega))).trans bn
    · rw [e0]; rfl
  · rintro o H' ⟨v, rfl, ⟨-, hO, hl, hb, hn, -, hc1, L, hm, hL⟩ | h⟩
    rotate_left
    · exact h.elim
    subst hLB
    have hln := hg_lt hl
    refine ⟨v, rfl, _, _, _, _, _, _, _, hl, by simp, rfl, ?_⟩
    simp only [List.length_nil, Nat.sub_zero] at hO hn hL
    rw [firstK_all] at hO
    have eall : (objs s.cl).take s.cl.sz = objs s := by rw [List.take_of_length_le (by rw [objs_len]; exact Nat.le_refl _), objs_cl]
    rw [eall] at hL
    generalize hH4 : AHeap.put H' _ _ = H4
    have m0 : ∀ c, c ≠ q + 4 + 1 → H4.get c = H'.get c := fun c hc => by subst hH4; exact g_put_ne hc
    have mn : H4.next = H'.next := by subst hH4; rw [AHeap.next_put]
    clear hH4
    have oS : OwnScore H4 q fp (gScore numb s.cl) := hO.fr (fun c hc => cells_of_get (m0 c (by have := hR c hc; omega))) (cells_of_get (m0 q (by omega)))
    have q2 := (cells_of_get (m0 (q + 1 + 1) (by omega))).trans hb
    have q3 := (cells_of_get (m0 (q + 1 + 1 + 1) (by omega))).trans hn
    have q1 := (cells_of_get (m0 1 (by omega))).trans hc1
    have qm := (map_of_get (m0 (q + 1) (by omega))).trans hm
    have hq5 : q + 4 + 1 < H4.next := by omega
    clear m0 mn hl hln hO hb hn hc1 hm
    obtain ⟨v2, v3, v4, v5, hS, F2, F3, F4, F5⟩ := own_open oS
    simp -implicitDefEqProofs (maxDischargeDepth := 12) only [WW,List.replicate,if_true,if_false,ite_true,ite_false,true_or,ne_eq,seval,beq_self_eq_true,eq_self,exists_eq_left,exists_eq_left', hS, F4.len]
    refine wp_loop (Inv := fun k t H => ∃ (i : Nat), i + k = s.spanners.l.length ∧ OwnScore H q fp (renB s i) ∧ H.cells (q + 1 + 1) = some [.map (q + 1)] ∧ H.cells (q + 1 + 1 + 1) = some [.sc (.int .i64 (s.cl.sz : Int))] ∧ H.cells 1 = some [.sc (.str ⟨#[]⟩), .sc (.bool false), .sc .nils, .sc .nils, .sc .nils, .sc .nils] ∧ H.map (q + 1) = some (ents L) ∧ q + 4 + 1 < H.next ∧
      ∃ x : Nat → AV, t = [x 0, x 1, .ptr 1 0, .ptr q 0, .ptr (q + 1 + 1) 0, .ptr (q + 1 + 1 + 1) 0, x 6, x 7, x 8, x 9, x 10, x 11, x 12, x 13, x 14, x 15, x 16, x 17, x 18, x 19, x 20, x 21, x 22, x 23, x 24, x 25, x 26, x 27, x 28, x 29, x 30, x 31, x 32, x 33, x 34, x 35, x 36, x 37, x 38, x 39, x 40, x 41, x 42, x 43, x 44, x 45, x 46, x 47, x 48, x 49, x 50, x 51, x 52, x 53, .sc (.int .i64 s.spanners.l.length), .sc (.int .i64 i), x 56, x 57, x 58, x 59, x 60, x 61, x 62, x 63, x 64, x 65, x 66, x 67, x 68, x 69, x 70, x 71, x 72, x 73, x 74, x 75, x 76, x 77, x 78, x 79, x 80, x 81, x 82, x 83, x 84, x 85, x 86, x 87, x 88]) (k := s.spanners.l.length) ?_
      ⟨0, by omega, by rw [renB_zero]; exact oS, q2, q3, q1, qm, hq5, ?_⟩
    rotate_left
    · rw [show Sl.l (gScore numb s.cl).spanners = _ from rfl]
      have e : (Sl.l (gScore numb s.cl).spanners).length = s.spanners.l.length := len_mapIdx
      rw [e]
      exact ex_x rfl
    clear oS q1 q2 q3 qm hq5 hS F2 F3 F4 F5 v2 v3 v4 v5
    rintro k t H ⟨i, hk, oS, q2, q3, q1, qm, hq5, x, rfl⟩
    obtain ⟨v2, v3, v4, v5, hS, F2, F3, F4, F5⟩ := own_open oS
    have hlsp := hTc.spanners
    have hlsp : s.spanners.l.length < 1000000 := hlsp
    by_cases h1 : (i : Int) < (s.spanners.l.length : Int)
    · have h1n : i < s.spanners.l.length := by omega
      have e2 : IntKind.i64.wrap ((i : Int) + 1) = ((i + 1 : Nat) : Int) := by rw [w64 (by omega) (by omega)]; omega
      have hlB : (Sl.l (renB s i).spanners).length = s.spanners.l.length := renB_len s i
      obtain ⟨y, hy⟩ : ∃ y, (renB s i).spanners.l[i]? = some y := ⟨_, List.getElem?_eq_getElem (by omega)⟩
      obtain ⟨b, off, cap, ds, rfl, hd, hle, hbR, hds, hst⟩ := store_span F4 hy hqR
      rw [hlB] at hS
      have L1 := (look_ents qm y.from_).1
      have L2 := (look_ents qm y.to).1
      rw [hL, show (freshO (objs s) 0 y.from_).getD ID.zero = newId (objs s) y.from_ from rfl] at L1
      rw [hL, show (freshO (objs s) 0 y.to).getD ID.zero = newId (objs s) y.to from rfl] at L2
      generalize hv1 : newId (objs s) y.from_ = a1 at L1
      generalize hv2 : newId (objs s) y.to = a2 at L2
      simp only [ID.enc_eq] at L1 L2
      have t1 := take_part hds (show 3 + 2 ≤ 7 by decide)
      have t2 := take_part hds (show 5 + 2 ≤ 7 by decide)
      simp only [y.enc_eq, c_agg, List.drop_succ_cons, List.drop_zero, List.take_succ_cons, List.take_zero] at t1 t2
      have l1 : off + i * 7 + 3 + 2 ≤ ds.length := by omega
      have l2 : off + i * 7 + 5 + 2 ≤ ds.length := by omega
      simp -implicitDefEqProofs (maxDischargeDepth := 12) only [WW,List.replicate,if_true,if_false,ite_true,ite_false,true_or,ne_eq,seval,beq_self_eq_true,eq_self,exists_eq_left,exists_eq_left', h1, h1n, hS, hd, q2, l1, l2, t1, t2, s_lkup, L1, L2]
      generalize hHa : AHeap.put H b _ = Ha
      have u0 : ∀ c, c ≠ b → Ha.get c = H.get c := fun c hc => by subst hHa; exact g_put_ne hc
      have u1 : Ha.cells b = some (splice ds (off + i * 7 + 3) [.sc (.int .i64 a1.site), .sc (.int .i64 a1.number)]) := by subst hHa; exact h_put_self hd
      have un : Ha.next = H.next := by subst hHa; exact AHeap.next_put _ _ _
      clear hHa
      have u2 : off + i * 7 + 5 + 2 ≤ (splice ds (off + i * 7 + 3) [AV.sc (.int .i64 a1.site), .sc (.int .i64 a1.number)]).length := by rw [splice_len2 (by simp; omega)]; omega
      simp -implicitDefEqProofs (maxDischargeDepth := 12) only [WW,List.replicate,if_true,if_false,ite_true,ite_false,true_or,ne_eq,seval,beq_self_eq_true,eq_self,exists_eq_left,exists_eq_left', u1, u2, e2]
      have hO2 := hst { y with from_ := a1, to := a2 } H (Spanner.enc { y with from_ := a1, to := a2 }).cells [] (fun _ _ => rfl) rfl rfl (OwnL.scal rfl) (fun c hc => by simp at hc)
      rw [List.append_nil, ← hv1, ← hv2, renB_succ hy, hv1, hv2] at hO2
      have hb := hR b hbR
      have hb2 := hR2 b hbR
      have hsp := splice_sp (a := .sc (.int .i64 a1.site)) (b := .sc (.int .i64 a1.number)) (c := .sc (.int .i64 a2.site)) (d := .sc (.int .i64 a2.number)) hle hds
      have w0 : ∀ (X : Blk) c, c ≠ b → (Ha.put b (some X)).get c = H.get c := fun X c hc => by rw [g_put_ne hc, u0 c hc]
      refine ⟨k - 1, by omega, i + 1, by omega, hO2.fr (fun c hc => ?_) ?_, (cells_of_get (w0 _ _ (by omega))).trans q2, (cells_of_get (w0 _ _ (by omega))).trans q3, (cells_of_get (w0 _ _ (by omega))).trans q1, (map_of_get (w0 _ _ (by omega))).trans qm, by rw [un]; exact hq5, ex_x rfl⟩
      · by_cases hcb : c = b
        · subst hcb
          rw [h_put_self u1, h_put_self hd, hsp]; rfl
        · rw [c_put_ne hcb, c_put_ne hcb, cells_of_get (u0 c hcb)]
      · have hqb : q ≠ b := by omega
        rw [c_put_ne hqb, c_put_ne hqb, cells_of_get (u0 q hqb)]
    · obtain rfl : i = s.spanners.l.length := by omega
      rw [renB_all] at oS
      have hszs := sz_cl s
      rw [hszs] at q3
      obtain ⟨cs', fp', hS', ho', hfp'⟩ := oS
      obtain ⟨v2', v3', v4', v5', f2, f3, f4, f5, rfl, c2, c3, c4, c5, s2, s3, s4, s5⟩ := own6 ho'
      rw [hS] at hS'
      simp only [Option.some.injEq, List.cons.injEq, AV.sc.injEq, Sc.str.injEq, Sc.bool.injEq, and_true] at hS'
      obtain ⟨-, -, rfl, rfl, rfl, rfl⟩ := hS'
      obtain ⟨v5', f5', e5, w1, w2, w3⟩ := ho'.fit (j := 5) (u := slm ID.enc (gScore numb s.cl).last) rfl
      cases e5
      have hq0 : ¬ 1 = q := by omega
      have hq9 : ¬ q + 1 + 1 + 1 = q := by omega
      have hqn : ¬ q = H.next := by omega
      have h1n : ¬ 1 = H.next := by omega
      have hfin : ∀ (H9 : AHeap) (W : AV) (ll : Sl ID) (f9 : List Nat), (∀ c, c ≠ q → c ≠ 1 → c < H.next → H9.cells c = H.cells c) → OwnX false 7 H9 W (slm ID.enc ll) f9 → (∀ c ∈ f9, H.next ≤ c) → ll = (if 0 < s.sz then some [⟨0, (s.sz : Int)⟩] else none) →
          Frz (.agg [.sc (.str (renB s s.spanners.l.length).title), .sc (.bool (renB s s.spanners.l.length).written), v2, v3, v4, W]) H9 s.renP.enc := by
        intro H9 W ll f9 k1 k2 k3 k4
        have hfl : ∀ c ∈ fp', c ≠ q ∧ c ≠ 1 ∧ c < H.next := fun c hc => by
          have := hR c (hfp' c hc)
          have := hR2 c (hfp' c hc)
          omega
        obtain ⟨g9, r1, r2⟩ := w3 W (slm ID.enc ll) H9 f9 k2 (fun c hc _ => k1 c (hfl c hc).1 (hfl c hc).2.1 (hfl c hc).2.2) (fun c hc => .inr fun h => by have := hfl c h; have := k3 c hc; omega)
        refine OwnX.frz (I := false) (d := 8) (fp := g9) ⟨s.renP.enc.cells, rfl, ?_⟩ (by decide)
        have e : s.renP.enc.cells = (Score.enc { gScore numb s.cl with spanners := (gScore numb s.cl).spanners.map fun l => l.map fun x => { x with from_ := newId (objs s) x.from_, to := newId (objs s) x.to } }).cells.set 5 (slm ID.enc ll) := by rw [k4]; rfl
        rw [e]
        exact r1
      by_cases hsz0 : 0 < s.sz
      · have hi0 : (0 : Int) < (s.sz : Int) := by omega
        simp -implicitDefEqProofs (maxDischargeDepth := 12) only [WW,List.replicate,e_splice,if_true,if_false,ite_true,ite_false,true_or,ne_eq,seval,h_putc,beq_self_eq_true,eq_self,exists_eq_left,exists_eq_left', h1, hS, q3, q1, hi0, hq0, hq9, hqn, h1n, (own_len c2).2.1, (own_len c3).2.1, (own_len c4).2.1]
        refine hfin _ _ (some [⟨0, (s.sz : Int)⟩]) [H.next] (fun c c1 c2 c3 => ?_) ?_ (fun c hc => by simp only [List.mem_singleton] at hc; omega) (by rw [if_pos hsz0])
        · rw [c_put_ne c2, c_put_ne c1, c_alloc_ne (by rw [AHeap.next_put]; omega), c_put_ne c1]
        · unfold OwnX
          refine .inr ⟨[.sc (.int .i64 0), .sc (.int .i64 (s.sz : Int))], [.sc (.int .i64 0), .sc (.int .i64 (s.sz : Int))], [], ?_, by decide, by decide, by simp, OwnL.scal rfl, by simp, fun h => by omega, rfl, rfl⟩
          rw [c_put_ne (fun e => h1n e.symm), c_put_ne (fun e => hqn e.symm), h_alloc, if_pos (by rw [AHeap.next_put])]
      · have hi0 : ¬ (0 : Int) < (s.sz : Int) := by omega
        simp -implicitDefEqProofs (maxDischargeDepth := 12) only [WW,List.replicate,e_splice,if_true,if_false,ite_true,ite_false,true_or,ne_eq,seval,h_putc,beq_self_eq_true,eq_self,exists_eq_left,exists_eq_left', h1, hS, q3, q1, hi0, hq0, hq9, (own_len c2).2.1, (own_len c3).2.1, (own_len c4).2.1]
        refine hfin _ _ none [] (fun c c1 c2 c3 => ?_) OwnX.scal (fun c hc => by simp at hc) (by rw [if_neg hsz0])
        rw [c_put_ne c2, c_put_ne c1]
end Go.Hem
/- Renumber, in plain terms: the two programs agree, and a second time changes nothing. -/
set_option linter.unusedSimpArgs false
set_option linter.unusedVariables false
namespace Go.Hem
section
variable {α β γ δ : Type}
theorem mapIdx_map' {l : List α} {g : α → β} {f : Nat → β → γ} : (l.map g).mapIdx f = l.mapIdx fun i x => f i (g x) := by
  apply List.ext_getElem?
  intro i
  simp only [List.getElem?_mapIdx, List.getElem?_map, Option.map_map]
  rfl
theorem mapIdx_mapIdx' {l : List α} {g : Nat → α → β} {f : Nat → β → γ} : (l.mapIdx g).mapIdx f = l.mapIdx fun i x => f i (g i x) := by
  apply List.ext_getElem?
  intro i
  simp only [List.getElem?_mapIdx, Option.map_map]
  rfl
theorem map_mapIdx' {l : List α} {f : Nat → α → β} {c : β → γ} : (l.mapIdx f).map c = l.mapIdx fun i x => c (f i x) := by
  apply List.ext_getElem?
  intro i
  simp only [List.getElem?_mapIdx, List.getElem?_map, Option.map_map]
  rfl
theorem mapIdx_const {l : List α} {f : α → β} : (l.mapIdx fun _ x => f x) = l.map f := by
  apply List.ext_getElem?
  intro i
  simp only [List.getElem?_mapIdx, List.getElem?_map]
theorem upTo_take {l : List α} {f : α → Nat} {i : Nat} : upTo f l i = ((l.map f).take i).sum := by unfold upTo; rw [List.map_take]
theorem upTo_mapIdx {l : List α} {g : Nat → α → β} {f : β → Nat} {f' : α → Nat} {i : Nat} (h : ∀ i x, f (g i x) = f' x) : upTo f (l.mapIdx g) i = upTo f' l i := by
  rw [upTo_take, upTo_take, map_mapIdx']
  simp only [h, mapIdx_const]
theorem sum_mapIdx {l : List α} {g : Nat → α → β} {f : β → Nat} {f' : α → Nat} (h : ∀ i x, f (g i x) = f' x) : ((l.mapIdx g).map f).sum = (l.map f').sum := by
  rw [map_mapIdx']
  simp only [h, mapIdx_const]
end
variable {φ : Nat → ID → ID}
/-! ### Sizes -/
theorem gVoice_l (n : Nat) (z : Voice) : (gVoice φ n z.cl).events.l = z.events.l.mapIdx fun e w => { w with id := φ (n + e) w.id } := by
  show Sl.l ((Sl.of z.events.l).map _) = _
  rw [sl_map_l (by rfl), l_of]
theorem gVoice_sz (n : Nat) (z : Voice) : (gVoice φ n z.cl).sz = z.sz := by
  unfold Voice.sz; rw [gVoice_l, List.length_mapIdx]
theorem Voice.cl_sz (z : Voice) : z.cl.sz = z.sz := by
  show (Sl.l (Sl.of z.events.l)).length = _
  rw [l_of]; rfl
theorem gCell_l (n : Nat) (q : Cell) : (gCell φ n q.cl).voices.l = q.voices.l.mapIdx fun v z => gVoice φ (n + upTo Voice.sz q.voices.l v) z.cl := by
  show Sl.l ((Sl.of (q.voices.l.map Voice.cl)).map _) = _
  rw [sl_map_l (by rfl), l_of, mapIdx_map']
  refine mapIdx_congr' fun i x _ => ?_
  show gVoice φ (n + upTo Voice.sz (Sl.l (Sl.of (q.voices.l.map Voice.cl))) i) x.cl = _
  rw [l_of, ← mapIdx_const, upTo_mapIdx (f' := Voice.sz) fun _ x => x.cl_sz]
theorem gCell_sz (n : Nat) (q : Cell) : (gCell φ n q.cl).sz = q.sz := by
  unfold Cell.sz; rw [gCell_l, sum_mapIdx (f' := Voice.sz) fun _ x => gVoice_sz _ x]
theorem Cell.cl_sz (q : Cell) : q.cl.sz = q.sz := by
  show ((Sl.l (Sl.of (q.voices.l.map Voice.cl))).map Voice.sz).sum = _
  rw [l_of, List.map_map]
  simp only [Function.comp_def, Voice.cl_sz]; rfl
theorem gMeas_l (n : Nat) (y : Measure) : (gMeas φ n y.cl).cells.l = y.cells.l.mapIdx fun c q => gCell φ (n + 1 + upTo Cell.sz y.cells.l c) q.cl := by
  show Sl.l ((Sl.of (y.cells.l.map Cell.cl)).map _) = _
  rw [sl_map_l (by rfl), l_of, mapIdx_map']
  refine mapIdx_congr' fun i x _ => ?_
  show gCell φ (n + 1 + upTo Cell.sz (Sl.l (Sl.of (y.cells.l.map Cell.cl))) i) x.cl = _
  rw [l_of, ← mapIdx_const, upTo_mapIdx (f' := Cell.sz) fun _ x => x.cl_sz]
theorem gMeas_sz (n : Nat) (y : Measure) : (gMeas φ n y.cl).sz = y.sz := by
  unfold Measure.sz; rw [gMeas_l, sum_mapIdx (f' := Cell.sz) fun _ x => gCell_sz _ x]
theorem Measure.cl_sz (y : Measure) : y.cl.sz = y.sz := by
  show 1 + ((Sl.l (Sl.of (y.cells.l.map Cell.cl))).map Cell.sz).sum = _
  rw [l_of, List.map_map]
  simp only [Function.comp_def, Cell.cl_sz]; rfl
theorem gPart_l (n : Nat) (p : Part) : (gPart φ n p).staves.l = p.staves.l.mapIdx fun k q => { q with id := φ (n + 1 + k) q.id } := sl_map_l (by rfl)
theorem gPart_sz (n : Nat) (p : Part) : (gPart φ n p).sz = p.sz := by
  unfold Part.sz; rw [gPart_l, List.length_mapIdx]
/-! ### The two agree -/
theorem gPart_cn (n : Nat) (p : Part) : (gPart numb n p).cn = (rPart n p).cn := by
  show ({ gPart numb n p with staves := Sl.of (gPart numb n p).staves.l } : Part) = { rPart n p with staves := Sl.of (rPart n p).staves.l }
  rw [gPart_l]
  show _ = ({ rPart n p with staves := Sl.of (Sl.l (Sl.of _)) } : Part)
  rw [l_of]; rfl
theorem gVoice_cn (n : Nat) (z : Voice) : (gVoice numb n z.cl).cn = (rVoice n z).cn := by
  refine Voice.cn_eq ?_ ?_
  · rw [gVoice_l]
    show _ = (Sl.l (Sl.of _)).map Event.cn
    rw [l_of]; rfl
  · show Sl.l (Sl.of z.tuplets.l) = _
    rw [l_of]; rfl
theorem Cell.cn_eq' {a b : Cell} (h1 : a.voices.l.map Voice.cn = b.voices.l.map Voice.cn) (h2 : a.clefs.l = b.clefs.l) : a.cn = b.cn := by unfold Cell.cn; rw [h1, h2]
theorem gCell_cn (n : Nat) (q : Cell) : (gCell numb n q.cl).cn = (rCell n q).cn := by
  refine Cell.cn_eq' ?_ rfl
  rw [gCell_l]
  show _ = (Sl.l (Sl.of _)).map Voice.cn
  rw [l_of, map_mapIdx', map_mapIdx']
  exact mapIdx_congr' fun i x _ => gVoice_cn _ x
theorem gMeas_cn (n : Nat) (y : Measure) : (gMeas numb n y.cl).cn = (rMeas n y).cn := by
  have h : (gMeas numb n y.cl).cells.l.map Cell.cn = (rMeas n y).cells.l.map Cell.cn := by
    rw [gMeas_l]
    show _ = (Sl.l (Sl.of _)).map Cell.cn
    rw [l_of, map_mapIdx', map_mapIdx']
    exact mapIdx_congr' fun i x _ => gCell_cn _ x
  unfold Measure.cn
  rw [h]; rfl
theorem Score.cn_eq' {a b : Score} (h0 : a.title = b.title) (h1 : a.written = b.written) (h2 : a.parts.l.map Part.cn = b.parts.l.map Part.cn) (h3 : a.measures.l.map Measure.cn = b.measures.l.map Measure.cn) (h4 : a.spanners.l = b.spanners.l) (h5 : a.last.l = b.last.l) : a.cn = b.cn := by
  unfold Score.cn; rw [h0, h1, h2, h3, h4, h5]
theorem cl_szM (s : Score) : s.cl.szM = s.szM := by
  show ((s.measures.l.map Measure.cl).map Measure.sz).sum = _
  rw [List.map_map]
  simp only [Function.comp_def, Measure.cl_sz]; rfl
theorem renP_parts (s : Score) : s.renP.parts.l = s.parts.l.mapIdx fun i p => gPart numb (upTo Part.sz s.parts.l i) p := rfl
theorem renP_meas (s : Score) : s.renP.measures.l = s.measures.l.mapIdx fun m y => gMeas numb (s.szP + upTo Measure.sz s.measures.l m) y.cl := by
  show (s.measures.l.map Measure.cl).mapIdx _ = _
  rw [mapIdx_map']
  refine mapIdx_congr' fun i x _ => ?_
  show gMeas numb (s.szP + upTo Measure.sz (s.measures.l.map Measure.cl) i) x.cl = _
  rw [← mapIdx_const, upTo_mapIdx (f' := Measure.sz) fun _ x => x.cl_sz]
theorem renP_span (s : Score) : s.renP.spanners.l = s.spanners.l.mapIdx fun i x => rSpan (objs s) (s.szP + s.szM + i) x := by
  show Sl.l (((s.spanners.map _).map _)) = _
  rw [sl_map_l (by rfl), sl_map_l (by rfl), map_mapIdx']
  refine mapIdx_congr' fun i x _ => ?_
  show (⟨numb (s.cl.szP + s.cl.szM + i) x.id, x.kind, newId (objs s) x.from_, newId (objs s) x.to⟩ : Spanner) = _
  rw [cl_szM]; rfl
theorem ren_agree (s : Score) : s.renP.cn = s.renR.cn := by
  refine Score.cn_eq' rfl rfl ?_ ?_ ?_ rfl
  · rw [renP_parts]
    show _ = (Sl.l (Sl.of _)).map Part.cn
    rw [l_of, map_mapIdx', map_mapIdx']
    exact mapIdx_congr' fun i x _ => gPart_cn _ x
  · rw [renP_meas]
    show _ = (Sl.l (Sl.of _)).map Measure.cn
    rw [l_of, map_mapIdx', map_mapIdx']
    exact mapIdx_congr' fun i x _ => gMeas_cn _ x
  · rw [renP_span]
    show _ = Sl.l (Sl.of _)
    rw [l_of]
/-! ### A second time -/
theorem rVoice_twice (n m : Nat) (z : Voice) : (rVoice n (gVoice φ m z.cl)).cn = (rVoice n z).cn := by
  refine Voice.cn_eq ?_ ?_
  · show (Sl.l (Sl.of ((gVoice φ m z.cl).events.l.mapIdx _))).map Event.cn = (Sl.l (Sl.of _)).map Event.cn
    rw [l_of, l_of, gVoice_l, mapIdx_mapIdx']; rfl
  · show Sl.l (Sl.of z.tuplets.l) = _
    rw [l_of]; rfl
theorem rCell_twice (n m : Nat) (q : Cell) : (rCell n (gCell φ m q.cl)).cn = (rCell n q).cn := by
  refine Cell.cn_eq' ?_ rfl
  show (Sl.l (Sl.of ((gCell φ m q.cl).voices.l.mapIdx fun v z => rVoice (n + upTo Voice.sz (gCell φ m q.cl).voices.l v) z))).map Voice.cn = (Sl.l (Sl.of _)).map Voice.cn
  rw [l_of, l_of, gCell_l, mapIdx_mapIdx', map_mapIdx', map_mapIdx']
  refine mapIdx_congr' fun i x _ => ?_
  rw [upTo_mapIdx (f' := Voice.sz) fun _ x => gVoice_sz _ x]
  exact rVoice_twice _ _ x
theorem rMeas_twice (n m : Nat) (y : Measure) : (rMeas n (gMeas φ m y.cl)).cn = (rMeas n y).cn := by
  have h : (rMeas n (gMeas φ m y.cl)).cells.l.map Cell.cn = (rMeas n y).cells.l.map Cell.cn := by
    show (Sl.l (Sl.of ((gMeas φ m y.cl).cells.l.mapIdx fun c q => rCell (n + 1 + upTo Cell.sz (gMeas φ m y.cl).cells.l c) q))).map Cell.cn = (Sl.l (Sl.of _)).map Cell.cn
    rw [l_of, l_of, gMeas_l, mapIdx_mapIdx', map_mapIdx', map_mapIdx']
    refine mapIdx_congr' fun i x _ => ?_
    rw [upTo_mapIdx (f' := Cell.sz) fun _ x => gCell_sz _ x]
    exact rCell_twice _ _ x
  unfold Measure.cn
  rw [h]; rfl
theorem rPart_twice (n m : Nat) (p : Part) : (rPart n (gPart φ m p)).cn = (rPart n p).cn := by
  have h : (rPart n (gPart φ m p)).staves.l = (rPart n p).staves.l := by
    show Sl.l (Sl.of ((gPart φ m p).staves.l.mapIdx fun k q => { q with id := nid (n + 1 + k) })) = Sl.l (Sl.of _)
    rw [l_of, l_of, gPart_l, mapIdx_mapIdx']
  unfold Part.cn
  rw [h]; rfl
theorem renP_szP (s : Score) : s.renP.szP = s.szP := by
  unfold Score.szP; rw [renP_parts, sum_mapIdx (f' := Part.sz) fun _ x => gPart_sz _ x]
theorem renP_szM (s : Score) : s.renP.szM = s.szM := by
  unfold Score.szM; rw [renP_meas, sum_mapIdx (f' := Measure.sz) fun _ x => gMeas_sz _ x]
theorem renP_sz (s : Score) : s.renP.sz = s.sz := by
  unfold Score.sz; rw [renP_szP, renP_szM, renP_span, List.length_mapIdx]
/-! ### The objects of a renumbered score -/
def N (k : Nat) (l : List O) : List O := l.mapIdx fun i o => ⟨nid (k + i), o.place⟩
theorem N_cons (k : Nat) (o : O) (l : List O) : N k (o :: l) = ⟨nid k, o.place⟩ :: N (k + 1) l := by
  unfold N
  rw [List.mapIdx_cons]
  congr 1
  refine mapIdx_congr' fun i x _ => ?_
  rw [show k + (i + 1) = k + 1 + i by omega]
theorem N_append (k : Nat) (l m : List O) : N k (l ++ m) = N k l ++ N (k + l.length) m := by
  induction l generalizing k with
  | nil => rfl
  | cons o l ih =>
    rw [List.cons_append, N_cons, N_cons, ih, List.cons_append, List.length_cons, show k + 1 + l.length = k + (l.length + 1) by omega]
theorem ob_r_staves : ∀ (l : List Staff) (k st : Nat), objStaves st (l.mapIdx fun j q => { q with id := nid (k + j) }) = N k (objStaves st l)
  | [], _, _ => rfl
  | q :: l, k, st => by
    have h : (l.mapIdx fun j q => ({ q with id := nid (k + (j + 1)) } : Staff)) = l.mapIdx fun j q => { q with id := nid (k + 1 + j) } := mapIdx_congr' fun i x _ => by rw [show k + (i + 1) = k + 1 + i by omega]
    rw [List.mapIdx_cons, h]
    simp only [objStaves]
    rw [N_cons, ob_r_staves l]; rfl
theorem ob_r_events (m c v : Nat) : ∀ (l : List Event) (k e : Nat), objEvents m c v e (l.mapIdx fun j w => rEvent (k + j) w) = N k (objEvents m c v e l)
  | [], _, _ => rfl
  | q :: l, k, e => by
    have h : (l.mapIdx fun j w => rEvent (k + (j + 1)) w) = l.mapIdx fun j w => rEvent (k + 1 + j) w := mapIdx_congr' fun i x _ => by rw [show k + (i + 1) = k + 1 + i by omega]
    rw [List.mapIdx_cons, h]
    simp only [objEvents]
    rw [N_cons, ob_r_events m c v l]; rfl
theorem len_stavesR : ∀ (l : List Staff) (st : Nat), (objStaves st l).length = l.length
  | [], _ => rfl
  | q :: l, st => by simp only [objStaves, List.length_cons, len_stavesR l]
theorem len_eventsR (m c v : Nat) : ∀ (l : List Event) (e : Nat), (objEvents m c v e l).length = l.length
  | [], _ => rfl
  | q :: l, e => by simp only [objEvents, List.length_cons, len_eventsR m c v l]
theorem len_voices' (m c : Nat) : ∀ (l : List Voice) (v : Nat), (objVoices m c v l).length = (l.map Voice.sz).sum
  | [], _ => rfl
  | q :: l, v => by simp only [objVoices, List.length_append, len_eventsR, len_voices' m c l, List.map_cons, List.sum_cons, Voice.sz]
theorem len_cells' (m : Nat) : ∀ (l : List Cell) (c : Nat), (objCells m c l).length = (l.map Cell.sz).sum
  | [], _ => rfl
  | q :: l, c => by simp only [objCells, List.length_append, len_voices', len_cells' m l, List.map_cons, List.sum_cons, Cell.sz]
theorem len_meas' : ∀ (l : List Measure) (m : Nat), (objMeasures m l).length = (l.map Measure.sz).sum
  | [], _ => rfl
  | q :: l, m => by simp only [objMeasures, List.length_cons, List.length_append, len_cells', len_meas' l, List.map_cons, List.sum_cons, Measure.sz]; omega
theorem len_parts' : ∀ (l : List Part) (i st : Nat), (objParts i st l).length = (l.map Part.sz).sum
  | [], _, _ => rfl
  | q :: l, i, st => by simp only [objParts, List.length_cons, List.length_append, len_stavesR, len_parts' l, List.map_cons, List.sum_cons, Part.sz]; omega
theorem upTo_cons {α : Type} {f : α → Nat} {x : α} {l : List α} {i : Nat} : upTo f (x :: l) (i + 1) = f x + upTo f l i := by
  unfold upTo; rw [List.take_succ_cons, List.map_cons, List.sum_cons]
theorem ob_r_voices (m c : Nat) : ∀ (l : List Voice) (k v : Nat), objVoices m c v (l.mapIdx fun j z => rVoice (k + upTo Voice.sz l j) z) = N k (objVoices m c v l)
  | [], _, _ => rfl
  | q :: l, k, v => by
    have h : (l.mapIdx fun j z => rVoice (k + upTo Voice.sz (q :: l) (j + 1)) z) = l.mapIdx fun j z => rVoice (k + q.sz + upTo Voice.sz l j) z := mapIdx_congr' fun i x _ => by rw [upTo_cons, Nat.add_assoc]
    rw [List.mapIdx_cons, h]
    simp only [objVoices]
    rw [N_append, ob_r_voices m c l, len_eventsR]
    show objEvents m c v 0 (Sl.l (Sl.of (q.events.l.mapIdx fun e w => rEvent (k + e) w))) ++ _ = _
    rw [l_of, ob_r_events]; rfl
theorem ob_r_cells (m : Nat) : ∀ (l : List Cell) (k c : Nat), objCells m c (l.mapIdx fun j z => rCell (k + upTo Cell.sz l j) z) = N k (objCells m c l)
  | [], _, _ => rfl
  | q :: l, k, c => by
    have h : (l.mapIdx fun j z => rCell (k + upTo Cell.sz (q :: l) (j + 1)) z) = l.mapIdx fun j z => rCell (k + q.sz + upTo Cell.sz l j) z := mapIdx_congr' fun i x _ => by rw [upTo_cons, Nat.add_assoc]
    rw [List.mapIdx_cons, h]
    simp only [objCells]
    rw [N_append, ob_r_cells m l, len_voices']
    show objVoices m c 0 (Sl.l (Sl.of (q.voices.l.mapIdx fun v z => rVoice (k + upTo Voice.sz q.voices.l v) z))) ++ _ = _
    rw [l_of, ob_r_voices]; rfl
theorem ob_r_meas : ∀ (l : List Measure) (k m : Nat), objMeasures m (l.mapIdx fun j z => rMeas (k + upTo Measure.sz l j) z) = N k (objMeasures m l)
  | [], _, _ => rfl
  | q :: l, k, m => by
    have h : (l.mapIdx fun j z => rMeas (k + upTo Measure.sz (q :: l) (j + 1)) z) = l.mapIdx fun j z => rMeas (k + q.sz + upTo Measure.sz l j) z := mapIdx_congr' fun i x _ => by rw [upTo_cons, Nat.add_assoc]
    rw [List.mapIdx_cons, h]
    simp only [objMeasures]
    rw [N_cons, N_append, ob_r_meas l, len_cells']
    have e : k + 1 + (q.cells.l.map Cell.sz).sum = k + q.sz := by unfold Measure.sz; omega
    rw [e]
    show _ :: (objCells m 0 (Sl.l (Sl.of (q.cells.l.mapIdx fun v z => rCell (k + 1 + upTo Cell.sz q.cells.l v) z))) ++ _) = _
    rw [l_of, ob_r_cells]; rfl
theorem ob_r_parts : ∀ (l : List Part) (k i st : Nat), objParts i st (l.mapIdx fun j z => rPart (k + upTo Part.sz l j) z) = N k (objParts i st l)
  | [], _, _, _ => rfl
  | q :: l, k, i, st => by
    have h : (l.mapIdx fun j z => rPart (k + upTo Part.sz (q :: l) (j + 1)) z) = l.mapIdx fun j z => rPart (k + q.sz + upTo Part.sz l j) z := mapIdx_congr' fun i x _ => by rw [upTo_cons, Nat.add_assoc]
    rw [List.mapIdx_cons, h]
    have e : k + 1 + q.staves.l.length = k + q.sz := by unfold Part.sz; omega
    simp only [objParts]
    rw [N_cons, N_append, len_stavesR, e]
    show _ :: (objStaves st (Sl.l (Sl.of (q.staves.l.mapIdx fun j z => { z with id := nid (k + 1 + j) }))) ++ objParts (i + 1) (st + (Sl.l (Sl.of (q.staves.l.mapIdx fun j z => ({ z with id := nid (k + 1 + j) } : Staff)))).length) _) = _
    rw [l_of, ob_r_staves, List.length_mapIdx, ob_r_parts l]; rfl
theorem ob_r_span (old : List O) : ∀ (l : List Spanner) (k i : Nat), objSpanners i (l.mapIdx fun j x => rSpan old (k + j) x) = N k (objSpanners i l)
  | [], _, _ => rfl
  | q :: l, k, i => by
    have h : (l.mapIdx fun j w => rSpan old (k + (j + 1)) w) = l.mapIdx fun j w => rSpan old (k + 1 + j) w := mapIdx_congr' fun i x _ => by rw [show k + (i + 1) = k + 1 + i by omega]
    rw [List.mapIdx_cons, h]
    simp only [objSpanners]
    rw [N_cons, ob_r_span old l]; rfl
theorem objs_renR (s : Score) : objs s.renR = N 0 (objs s) := by
  show objParts 0 0 (Sl.l (Sl.of _)) ++ (objMeasures 0 (Sl.l (Sl.of _)) ++ objSpanners 0 (Sl.l (Sl.of _))) = _
  rw [l_of, l_of, l_of]
  have h : (s.parts.l.mapIdx fun i p => rPart (upTo Part.sz s.parts.l i) p) = s.parts.l.mapIdx fun i p => rPart (0 + upTo Part.sz s.parts.l i) p := mapIdx_congr' fun i x _ => by rw [Nat.zero_add]
  rw [h, ob_r_parts, ob_r_meas, ob_r_span]
  unfold objs
  rw [N_append, N_append, len_parts', len_meas', Nat.zero_add]; rfl
theorem objs_renP (s : Score) : objs s.renP = N 0 (objs s) := by
  rw [← objs_cn, ren_agree, objs_cn, objs_renR]
/-! ### New ids of new ids -/
theorem freshO_some {id v : ID} : ∀ {l : List O} {n : Nat}, freshO l n id = some v → ∃ i o, l[i]? = some o ∧ o.place.kind = 4 ∧ v = nid (n + i)
  | [], n, h => by simp [freshO] at h
  | o :: l, n, h => by
    unfold freshO at h
    by_cases c : o.place.kind = 4 ∧ o.id = id ∧ id ≠ ID.zero
    · rw [if_pos c] at h
      cases h
      exact ⟨0, o, rfl, c.1, rfl⟩
    · rw [if_neg c] at h
      obtain ⟨i, o', h1, h2, h3⟩ := freshO_some h
      exact ⟨i + 1, o', h1, h2, by rw [h3, show n + 1 + i = n + (i + 1) by omega]⟩
theorem nid_inj {a b : Nat} (h : nid a = nid b) : a = b := by
  have := congrArg ID.number h
  simp only [nid] at this
  omega
theorem nid_zero {a : Nat} : nid a ≠ ID.zero := fun h => by
  have := congrArg ID.number h
  simp only [nid, ID.zero] at this
  omega
theorem freshO_N : ∀ {l : List O} {n i : Nat} {o : O}, l[i]? = some o → o.place.kind = 4 → freshO (N n l) n (nid (n + i)) = some (nid (n + i))
  | [], n, i, o, h, _ => by simp at h
  | x :: l, n, 0, o, h, k => by
    cases h
    rw [N_cons]
    unfold freshO
    rw [if_pos ⟨k, rfl, nid_zero⟩]; rfl
  | x :: l, n, i + 1, o, h, k => by
    rw [N_cons]
    unfold freshO
    rw [if_neg (fun c => by have := nid_inj c.2.1; omega), show n + (i + 1) = n + 1 + i by omega]
    exact freshO_N h k
theorem freshO_zero : ∀ {l : List O} {n : Nat}, freshO l n ID.zero = none
  | [], n => rfl
  | x :: l, n => by
    unfold freshO
    rw [if_neg (fun c => c.2.2 rfl), freshO_zero]
theorem newId_twice (l : List O) (id : ID) : newId (N 0 l) (newId l id) = newId l id := by
  unfold newId
  cases h : freshO l 0 id with
  | none => show (freshO (N 0 l) 0 ID.zero).getD ID.zero = ID.zero; rw [freshO_zero]; rfl
  | some v =>
    obtain ⟨i, o, h1, h2, h3⟩ := freshO_some h
    show (freshO (N 0 l) 0 v).getD ID.zero = v
    rw [h3, freshO_N h1 h2]; rfl
theorem ren_twice (s : Score) : s.renP.renP.cn = s.renP.cn := by
  rw [ren_agree, ren_agree]
  have hsz := renP_sz s
  refine Score.cn_eq' rfl rfl ?_ ?_ ?_ ?_
  · show (Sl.l (Sl.of (s.renP.parts.l.mapIdx fun i p => rPart (upTo Part.sz s.renP.parts.l i) p))).map Part.cn = (Sl.l (Sl.of _)).map Part.cn
    rw [l_of, l_of, renP_parts, mapIdx_mapIdx', map_mapIdx', map_mapIdx']
    refine mapIdx_congr' fun i x _ => ?_
    rw [upTo_mapIdx (f' := Part.sz) fun _ x => gPart_sz _ x]
    exact rPart_twice _ _ x
  · show (Sl.l (Sl.of (s.renP.measures.l.mapIdx fun m y => rMeas (s.renP.szP + upTo Measure.sz s.renP.measures.l m) y))).map Measure.cn = (Sl.l (Sl.of _)).map Measure.cn
    rw [l_of, l_of, renP_szP, renP_meas, mapIdx_mapIdx', map_mapIdx', map_mapIdx']
    refine mapIdx_congr' fun i x _ => ?_
    rw [upTo_mapIdx (f' := Measure.sz) fun _ x => gMeas_sz _ x]
    exact rMeas_twice _ _ x
  · show Sl.l (Sl.of (s.renP.spanners.l.mapIdx fun i x => rSpan (objs s.renP) (s.renP.szP + s.renP.szM + i) x)) = Sl.l (Sl.of _)
    rw [l_of, l_of, renP_szP, renP_szM, renP_span, objs_renP, mapIdx_mapIdx']
    refine mapIdx_congr' fun i x _ => ?_
    unfold rSpan
    rw [newId_twice, newId_twice]
  · show Sl.l (if 0 < s.renP.sz then some [(⟨0, (s.renP.sz : Int)⟩ : ID)] else Option.none) = Sl.l (if 0 < s.sz then some [(⟨0, (s.sz : Int)⟩ : ID)] else Option.none)
    rw [hsz]
/-! ### Small -/
theorem mem_mapIdx {α β : Type} {l : List α} {f : Nat → α → β} {y : β} (h : y ∈ l.mapIdx f) : ∃ i x, l[i]? = some x ∧ y = f i x := by
  obtain ⟨i, hi⟩ := List.getElem?_of_mem h
  rw [List.getElem?_mapIdx] at hi
  cases hx : l[i]? with
  | none => rw [hx] at hi; cases hi
  | some x => rw [hx] at hi; cases hi; exact ⟨i, x, hx, rfl⟩
theorem small_gVoice {n : Nat} {z : Voice} (h : z.small) : (gVoice φ n z.cl).small := by
  refine ⟨by rw [gVoice_l, List.length_mapIdx]; exact h.1, (Voice.small_cl h).2.1, fun e he => ?_⟩
  rw [gVoice_l] at he
  obtain ⟨i, x, hx, rfl⟩ := mem_mapIdx he
  exact h.2.2 x (List.mem_of_getElem? hx)
theorem small_gCell {n : Nat} {z : Cell} (h : z.small) : (gCell φ n z.cl).small := by
  refine ⟨h.1, by rw [gCell_l, List.length_mapIdx]; exact h.2.1, fun e he => ?_⟩
  rw [gCell_l] at he
  obtain ⟨i, x, hx, rfl⟩ := mem_mapIdx he
  exact small_gVoice (h.2.2 x (List.mem_of_getElem? hx))
theorem small_gMeas {n : Nat} {z : Measure} (h : z.small) : (gMeas φ n z.cl).small := by
  refine ⟨h.1, by rw [gMeas_l, List.length_mapIdx]; exact h.2.1, fun e he => ?_⟩
  rw [gMeas_l] at he
  obtain ⟨i, x, hx, rfl⟩ := mem_mapIdx he
  exact small_gCell (h.2.2 x (List.mem_of_getElem? hx))
theorem small_renP {s : Score} (h : s.small) : s.renP.small := by
  refine ⟨by rw [renP_parts, List.length_mapIdx]; exact h.parts, fun p hp => ?_, by rw [renP_meas, List.length_mapIdx]; exact h.measures, fun p hp => ?_, by rw [renP_span, List.length_mapIdx]; exact h.spanners, ?_⟩
  · rw [renP_parts] at hp
    obtain ⟨i, x, hx, rfl⟩ := mem_mapIdx hp
    rw [gPart_l, List.length_mapIdx]
    exact h.staves x (List.mem_of_getElem? hx)
  · rw [renP_meas] at hp
    obtain ⟨i, x, hx, rfl⟩ := mem_mapIdx hp
    exact small_gMeas (h.meas x (List.mem_of_getElem? hx))
  · show (Sl.l (if 0 < s.sz then some [(⟨0, (s.sz : Int)⟩ : ID)] else Option.none)).length ≤ 10
    by_cases c : 0 < s.sz
    · rw [if_pos c]; exact (by decide : (1 : Nat) ≤ 10)
    · rw [if_neg c]; decide
end Go.Hem
/- The law ScoreSets, by the interpreter. -/
set_option maxRecDepth 10000
set_option maxHeartbeats 4000000
set_option linter.unusedSimpArgs false
set_option linter.unusedVariables false
namespace Go.Hem
variable {pol : Pol}
def Cell.none : Cell := ⟨Option.none, Option.none⟩
def Measure.first (m : Measure) : Cell := (m.cells.l[0]?).getD Cell.none
end Go.Hem
/- The law ScoreRenumbers, by the interpreter. -/
set_option maxRecDepth 10000
set_option maxHeartbeats 4000000
set_option linter.unusedSimpArgs false
set_option linter.unusedVariables false
namespace Go.Hem
def pures11 : List Nat := [53, 54, 55] ++ pures8
def polR : Pol := ⟨fun f => pures11.contains f⟩
theorem polR_cl : ClPol polR := by unfold ClPol; decide
theorem polR_eq : EqPol polR := by unfold EqPol; decide
theorem known_run11 : okTrue (xPure (X prog polR memo0 1000) 19 []) = true := by decide +kernel
theorem known11_pv : Pv prog polR 19 [] (.sc (.bool true)) := pv_of_x memo0_ok rfl (okTrue_spec known_run11)
theorem ren_pv {s : Score} (h : s.small) : Pv prog polR 53 [s.enc] s.renP.enc := renum_pv polR_cl rfl s h.tame h.Tame
theorem sames_pv {s t : Score} (h : s.small) (k : t.small) : Pv prog polR 55 [s.enc, t.enc] (.sc (.bool (decide (s.renP.cn = t.renP.cn)))) := by
  refine Pv_of' ok55 (by simp only [AV.closedBs, Score.enc_closed, Bool.and_self]) ?_
  simp -implicitDefEqProofs (maxDischargeDepth := 12) only [wpF, cf55, WW,List.replicate,e_splice,if_true,if_false,ite_true,ite_false,true_or,ne_eq,seval,h_putc,beq_self_eq_true,eq_self,exists_eq_left,exists_eq_left', s.enc_eq, t.enc_eq]
  rw [← s.enc_eq]
  refine wA_pure rfl (ren_pv h) ?_
  simp -implicitDefEqProofs (maxDischargeDepth := 12) only [WW,List.replicate,e_splice,if_true,if_false,ite_true,ite_false,true_or,ne_eq,seval,h_putc,beq_self_eq_true,eq_self,exists_eq_left,exists_eq_left']
  rw [← t.enc_eq]
  refine wA_pure rfl (ren_pv k) ?_
  simp -implicitDefEqProofs (maxDischargeDepth := 12) only [WW,List.replicate,e_splice,if_true,if_false,ite_true,ite_false,true_or,ne_eq,seval,h_putc,beq_self_eq_true,eq_self,exists_eq_left,exists_eq_left']
  refine wA_pure rfl (equal_pv polR_eq s.renP t.renP (small_renP h).tame) ?_
  simp -implicitDefEqProofs (maxDischargeDepth := 12) only [WW,List.replicate,e_splice,if_true,if_false,ite_true,ite_false,true_or,ne_eq,seval,h_putc,beq_self_eq_true,eq_self,exists_eq_left,exists_eq_left']
  exact frz_sc
theorem small_rVoice {n : Nat} {z : Voice} (h : z.small) : (rVoice n z).small := by
  refine ⟨?_, h.2.1, fun e he => ?_⟩
  · show (Sl.l (Sl.of (z.events.l.mapIdx _))).length ≤ 5
    rw [l_of, List.length_mapIdx]; exact h.1
  · have he' : e ∈ Sl.l (Sl.of (z.events.l.mapIdx fun e w => rEvent (n + e) w)) := he
    rw [l_of] at he'
    obtain ⟨i, x, hx, rfl⟩ := mem_mapIdx he'
    exact h.2.2 x (List.mem_of_getElem? hx)
theorem small_rCell {n : Nat} {z : Cell} (h : z.small) : (rCell n z).small := by
  refine ⟨h.1, ?_, fun e he => ?_⟩
  · show (Sl.l (Sl.of (z.voices.l.mapIdx _))).length ≤ 3
    rw [l_of, List.length_mapIdx]; exact h.2.1
  · have he' : e ∈ Sl.l (Sl.of (z.voices.l.mapIdx fun v w => rVoice (n + upTo Voice.sz z.voices.l v) w)) := he
    rw [l_of] at he'
    obtain ⟨i, x, hx, rfl⟩ := mem_mapIdx he'
    exact small_rVoice (h.2.2 x (List.mem_of_getElem? hx))
theorem small_rMeas {n : Nat} {z : Measure} (h : z.small) : (rMeas n z).small := by
  refine ⟨h.1, ?_, fun e he => ?_⟩
  · show (Sl.l (Sl.of (z.cells.l.mapIdx _))).length ≤ 50
    rw [l_of, List.length_mapIdx]; exact h.2.1
  · have he' : e ∈ Sl.l (Sl.of (z.cells.l.mapIdx fun c q => rCell (n + 1 + upTo Cell.sz z.cells.l c) q)) := he
    rw [l_of] at he'
    obtain ⟨i, x, hx, rfl⟩ := mem_mapIdx he'
    exact small_rCell (h.2.2 x (List.mem_of_getElem? hx))
theorem small_renR {s : Score} (h : s.small) : s.renR.small := by
  refine ⟨?_, fun p hp => ?_, ?_, fun p hp => ?_, ?_, ?_⟩
  · show (Sl.l (Sl.of (s.parts.l.mapIdx _))).length ≤ 40
    rw [l_of, List.length_mapIdx]; exact h.parts
  · have hp' : p ∈ Sl.l (Sl.of (s.parts.l.mapIdx fun i p => rPart (upTo Part.sz s.parts.l i) p)) := hp
    rw [l_of] at hp'
    obtain ⟨i, x, hx, rfl⟩ := mem_mapIdx hp'
    show (Sl.l (Sl.of (x.staves.l.mapIdx _))).length ≤ 10
    rw [l_of, List.length_mapIdx]; exact h.staves x (List.mem_of_getElem? hx)
  · show (Sl.l (Sl.of (s.measures.l.mapIdx _))).length ≤ 20
    rw [l_of, List.length_mapIdx]; exact h.measures
  · have hp' : p ∈ Sl.l (Sl.of (s.measures.l.mapIdx fun m y => rMeas (s.szP + upTo Measure.sz s.measures.l m) y)) := hp
    rw [l_of] at hp'
    obtain ⟨i, x, hx, rfl⟩ := mem_mapIdx hp'
    exact small_rMeas (h.meas x (List.mem_of_getElem? hx))
  · show (Sl.l (Sl.of (s.spanners.l.mapIdx _))).length ≤ 10
    rw [l_of, List.length_mapIdx]; exact h.spanners
  · exact (small_renP h).last
theorem law11_pv (s t : Score) : Pv prog polR 11 [s.enc, t.enc] (.sc (.bool true)) := by
  refine Pv_of' ok11 (by simp only [AV.closedBs, Score.enc_closed, Bool.and_self]) ?_
  have hs := s.small_short
  have ht := t.small_short
  simp -implicitDefEqProofs (maxDischargeDepth := 12) only [wpF, cf11, WW,List.replicate,e_splice,if_true,if_false,ite_true,ite_false,true_or,ne_eq,seval,h_putc,beq_self_eq_true,eq_self,exists_eq_left,exists_eq_left', s.enc_eq, t.enc_eq]
  rw [← s.enc_eq]
  refine wA_pure rfl (short_pv rfl rfl rfl rfl rfl s) ?_
  simp -implicitDefEqProofs (maxDischargeDepth := 12) only [WW,List.replicate,e_splice,if_true,if_false,ite_true,ite_false,true_or,ne_eq,seval,h_putc,beq_self_eq_true,eq_self,exists_eq_left,exists_eq_left', s.short.enc_eq]
  rw [← t.enc_eq]
  refine wA_pure rfl (short_pv rfl rfl rfl rfl rfl t) ?_
  simp -implicitDefEqProofs (maxDischargeDepth := 12) only [WW,List.replicate,e_splice,if_true,if_false,ite_true,ite_false,true_or,ne_eq,seval,h_putc,beq_self_eq_true,eq_self,exists_eq_left,exists_eq_left', t.short.enc_eq]
  rw [← s.short.enc_eq]
  refine wA_pure rfl (ren_pv hs) ?_
  generalize hs' : s.short = x at *
  generalize ht' : t.short = y at *
  have hr := small_renP hs
  have hr2 := small_renP hr
  have e1 := ren_agree x
  have hR := (small_renR hs).tame
  have e2 := ren_agree y
  have e3 := ren_twice x
  generalize hz : x.renP = z at *
  simp -implicitDefEqProofs (maxDischargeDepth := 12) only [WW,List.replicate,e_splice,if_true,if_false,ite_true,ite_false,true_or,ne_eq,seval,h_putc,beq_self_eq_true,eq_self,exists_eq_left,exists_eq_left', z.enc_eq]
  refine wA_pure rfl known11_pv ?_
  simp -implicitDefEqProofs (maxDischargeDepth := 12) only [WW,List.replicate,e_splice,if_true,if_false,ite_true,ite_false,true_or,ne_eq,seval,h_putc,beq_self_eq_true,eq_self,exists_eq_left,exists_eq_left', x.enc_eq]
  refine wA_pure rfl (rrenum_pv rfl rfl x hs) ?_
  simp -implicitDefEqProofs (maxDischargeDepth := 12) only [WW,List.replicate,e_splice,if_true,if_false,ite_true,ite_false,true_or,ne_eq,seval,h_putc,beq_self_eq_true,eq_self,exists_eq_left,exists_eq_left', z.enc_eq]
  refine wA_pure rfl (same_pv rfl rfl rfl rfl z x.renR hr.tame) ?_
  rw [decide_eq_true e1]
  simp -implicitDefEqProofs (maxDischargeDepth := 12) only [WW,List.replicate,e_splice,if_true,if_false,ite_true,ite_false,true_or,ne_eq,seval,h_putc,beq_self_eq_true,eq_self,exists_eq_left,exists_eq_left', z.enc_eq]
  refine wA_pure rfl (ren_pv hr) ?_
  simp -implicitDefEqProofs (maxDischargeDepth := 12) only [WW,List.replicate,e_splice,if_true,if_false,ite_true,ite_false,true_or,ne_eq,seval,h_putc,beq_self_eq_true,eq_self,exists_eq_left,exists_eq_left', z.enc_eq]
  refine wA_pure rfl (same_pv rfl rfl rfl rfl z.renP z hr2.tame) ?_
  rw [decide_eq_true e3]
  simp -implicitDefEqProofs (maxDischargeDepth := 12) only [WW,List.replicate,e_splice,if_true,if_false,ite_true,ite_false,true_or,ne_eq,seval,h_putc,beq_self_eq_true,eq_self,exists_eq_left,exists_eq_left', x.enc_eq, z.enc_eq]
  refine wA_pure rfl (sames_pv hs hr) ?_
  rw [hz, decide_eq_true e3.symm]
  simp -implicitDefEqProofs (maxDischargeDepth := 12) only [WW,List.replicate,e_splice,if_true,if_false,ite_true,ite_false,true_or,ne_eq,seval,h_putc,beq_self_eq_true,eq_self,exists_eq_left,exists_eq_left', x.enc_eq, y.enc_eq, z.enc_eq]
  refine wA_pure rfl (sames_pv hs ht) ?_
  simp -implicitDefEqProofs (maxDischargeDepth := 12) only [WW,List.replicate,e_splice,if_true,if_false,ite_true,ite_false,true_or,ne_eq,seval,h_putc,beq_self_eq_true,eq_self,exists_eq_left,exists_eq_left', x.enc_eq, y.enc_eq, z.enc_eq]
  refine wA_pure rfl (rrenum_pv rfl rfl x hs) ?_
  simp -implicitDefEqProofs (maxDischargeDepth := 12) only [WW,List.replicate,e_splice,if_true,if_false,ite_true,ite_false,true_or,ne_eq,seval,h_putc,beq_self_eq_true,eq_self,exists_eq_left,exists_eq_left', x.enc_eq, y.enc_eq, z.enc_eq]
  refine wA_pure rfl (rrenum_pv rfl rfl y ht) ?_
  simp -implicitDefEqProofs (maxDischargeDepth := 12) only [WW,List.replicate,e_splice,if_true,if_false,ite_true,ite_false,true_or,ne_eq,seval,h_putc,beq_self_eq_true,eq_self,exists_eq_left,exists_eq_left', x.enc_eq, y.enc_eq, z.enc_eq]
  refine wA_pure rfl (same_pv rfl rfl rfl rfl x.renR y.renR hR) ?_
  rw [hz, ← e1, ← e2]
  generalize decide (z.cn = y.renP.cn) = b
  cases b
  · simp -implicitDefEqProofs (maxDischargeDepth := 12) only [WW,List.replicate,e_splice,if_true,if_false,ite_true,ite_false,true_or,ne_eq,seval,h_putc,beq_self_eq_true,eq_self,exists_eq_left,exists_eq_left']
    exact frz_sc
  · simp -implicitDefEqProofs (maxDischargeDepth := 12) only [WW,List.replicate,e_splice,if_true,if_false,ite_true,ite_false,true_or,ne_eq,seval,h_putc,beq_self_eq_true,eq_self,exists_eq_left,exists_eq_left']
    exact frz_sc
end Go.Hem
