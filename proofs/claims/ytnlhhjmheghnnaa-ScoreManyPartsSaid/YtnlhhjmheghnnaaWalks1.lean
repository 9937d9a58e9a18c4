/- Walks. -/
import Derived.Test.YtnlhhjmheghnnaaWalks0
/- Walks: whether every measure has as many cells as there are staves. -/
set_option maxRecDepth 10000
set_option maxHeartbeats 4000000
set_option linter.unusedSimpArgs false
set_option linter.unusedVariables false
namespace Go.Hem
variable {pol : Pol}
def badM (n : Int) (m : Measure) : Bool := !decide ((m.cells.l.length : Int) = n)
theorem cne115 {H : AHeap} {b : Nat} {n : Int} (hb : H.cells b = some [.sc (.int .i64 n)]) (x : Measure) :
    Ev prog pol (.call 115 [x.enc, .ptr b 0]) H fun o H' => o = .val (.sc (.bool (badM n x))) ∧ Keep H.next H H' ∧ H.next ≤ H'.next := by
  refine (wpF_ok ok115 (Q := fun v H' => v = .sc (.bool (badM n x)) ∧ Keep H.next H H' ∧ H.next ≤ H'.next) ?_).mono ?_
  rotate_left
  · rintro o H' ⟨v, rfl, rfl, h⟩
    exact ⟨rfl, h⟩
  have hbl := h_lt hb
  have q : ¬ (b = H.next) := by omega
  by_cases h1 : (x.cells.l.length : Int) = n
  · have hbm : badM n x = false := by simp [badM, h1]
    rw [hbm]
    simp -implicitDefEqProofs (maxDischargeDepth := 12) only [wpF, cf115, WW,List.replicate,e_splice,if_true,if_false,ite_true,ite_false,true_or,ne_eq,seval,h_putc,beq_self_eq_true,eq_self,exists_eq_left,exists_eq_left', x.enc_eq, hb, q, h1]
    exact ⟨(by repeat (first | exact Keep.refl | refine Keep.put (by (try simp only [AHeap.next_alloc, AHeap.next_put]); omega) ?_ | refine Keep.alloc (by (try simp only [AHeap.next_alloc, AHeap.next_put]); omega) ?_)), by omega⟩
  · have hbm : badM n x = true := by simp [badM, h1]
    rw [hbm]
    simp -implicitDefEqProofs (maxDischargeDepth := 12) only [wpF, cf115, WW,List.replicate,e_splice,if_true,if_false,ite_true,ite_false,true_or,ne_eq,seval,h_putc,beq_self_eq_true,eq_self,exists_eq_left,exists_eq_left', x.enc_eq, hb, q, h1]
    exact ⟨(by repeat (first | exact Keep.refl | refine Keep.put (by (try simp only [AHeap.next_alloc, AHeap.next_put]); omega) ?_ | refine Keep.alloc (by (try simp only [AHeap.next_alloc, AHeap.next_put]); omega) ?_)), by omega⟩
theorem index_meas {H0 : AHeap} {bq f : Nat} {n : Int} {s : Sl Measure} (p : Measure → Bool) (hp : pol.pure f = false) (hcl : ∀ (H : AHeap) x, H.cells bq = some [.sc (.int .i64 n)] → Ev prog pol (.call f [x.enc, .ptr bq 0]) H fun o H' => o = .val (.sc (.bool (p x))) ∧ Keep H.next H H' ∧ H.next ≤ H'.next)
    (hcv : ∀ x : Measure, callvOf prog (.func (.func f) [] [.ptr bq 0]) [AV.agg x.enc.cells] = some (.call f [x.enc, .ptr bq 0])) (hq : H0.cells bq = some [.sc (.int .i64 n)]) (hl : s.l.length < 1000000) :
    Ev prog pol (.call 132 [slm Measure.enc s, .func (.func f) [] [.ptr bq 0]]) H0 fun o H' => o = .val (idxAV (s.l.findIdx? p)) ∧ Keep H0.next H0 H' ∧ H0.next ≤ H'.next := by
  refine (wpF_ok ok132 (Q := fun v H' => v = idxAV (s.l.findIdx? p) ∧ Keep H0.next H0 H' ∧ H0.next ≤ H'.next) ?_).mono ?_
  rotate_left
  · rintro o H' ⟨v, rfl, rfl, h⟩
    exact ⟨rfl, h⟩
  have b2 := h_lt hq
  simp -implicitDefEqProofs (maxDischargeDepth := 12) only [wpF, cf132, WW,List.replicate,e_splice,if_true,if_false,ite_true,ite_false,true_or,ne_eq,seval,h_putc,beq_self_eq_true,eq_self,exists_eq_left,exists_eq_left']
  refine wp_loop (Inv := fun k t H => ∃ (i : Nat), i + k = s.l.length ∧ Keep H0.next H0 H ∧ H0.next ≤ H.next ∧ (∀ j x, j < i → s.l[j]? = some x → p x = false) ∧
    ∃ x : Nat → AV, t = [slm Measure.enc s, .func (.func f) [] [.ptr bq 0], x 2, x 3, .sc (.int .i64 0), x 5, slm Measure.enc s, .sc (.int .i64 s.l.length), .sc (.int .i64 i), x 9, x 10, x 11, x 12, x 13, x 14, x 15, x 16, x 17, x 18]) (k := s.l.length) ?_
    ⟨0, by omega, Keep.refl, Nat.le_refl _, by simp, ex_x rfl⟩
  rintro k t H ⟨i, hk, hK, hn, hbad, x, rfl⟩
  have c2 := hK.cells hq b2
  by_cases h1 : (i : Int) < (s.l.length : Int)
  · obtain ⟨y, hy⟩ : ∃ y, s.l[i]? = some y := ⟨_, List.getElem?_eq_getElem (by omega)⟩
    have e2 : IntKind.i64.wrap ((i : Int) + 1) = ((i + 1 : Nat) : Int) := by rw [w64 (by omega) (by omega)]; omega
    have h1n : i < s.l.length := by omega
    have hcv' := hcv y
    simp only [y.enc_eq, c_agg] at hcv'
    simp -implicitDefEqProofs (maxDischargeDepth := 12) only [WW,List.replicate,e_splice,if_true,if_false,ite_true,ite_false,true_or,ne_eq,seval,h_putc,beq_self_eq_true,eq_self,exists_eq_left,exists_eq_left', h1, h1n, hy, y.enc_eq]
    rw [hcv', ← y.enc_eq]
    refine wA_call hp ((hcl H y c2).mono fun o H' h => ?_)
    obtain ⟨rfl, hK2, hn2⟩ := h
    refine ⟨_, rfl, by simp only [k_nil], ?_⟩
    have hK3 : Keep H0.next H0 H' := hK.trans (hK2.le hn)
    cases hbb : p y with
    | true =>
      have hyes : s.l.findIdx? p = some i := by
        rw [List.findIdx?_eq_some_iff_getElem]
        refine ⟨h1n, by rw [(List.getElem?_eq_some_iff.1 hy).2]; exact hbb, fun j hj => ?_⟩
        have := hbad j (s.l[j]'(by omega)) hj (List.getElem?_eq_getElem (by omega))
        simp [this]
      simp -implicitDefEqProofs (maxDischargeDepth := 12) only [WW,List.replicate,e_splice,if_true,if_false,ite_true,ite_false,true_or,ne_eq,seval,h_putc,beq_self_eq_true,eq_self,exists_eq_left,exists_eq_left', e2]
      exact ⟨by rw [hyes]; rfl, hK3, by omega⟩
    | false =>
      simp -implicitDefEqProofs (maxDischargeDepth := 12) only [WW,List.replicate,e_splice,if_true,if_false,ite_true,ite_false,true_or,ne_eq,seval,h_putc,beq_self_eq_true,eq_self,exists_eq_left,exists_eq_left', e2]
      refine ⟨k - 1, by omega, i + 1, by omega, hK3, by omega, fun j z hj hz => ?_, ex_x rfl⟩
      by_cases hji : j = i
      · subst hji; rw [hy] at hz; cases hz; exact hbb
      · exact hbad j z (by omega) hz
  · simp -implicitDefEqProofs (maxDischargeDepth := 12) only [WW,List.replicate,e_splice,if_true,if_false,ite_true,ite_false,true_or,ne_eq,seval,h_putc,beq_self_eq_true,eq_self,exists_eq_left,exists_eq_left', h1]
    have hno : s.l.findIdx? p = none := by
      rw [List.findIdx?_eq_none_iff]
      intro z hz
      obtain ⟨j, hj⟩ := List.getElem?_of_mem hz
      have := (List.getElem?_eq_some_iff.1 hj).1
      exact hbad j z (by omega) hj
    exact ⟨by rw [hno]; rfl, hK, hn⟩
theorem idx_any {α : Type} {l : List α} {p : α → Bool} : (∃ i : Nat, l.findIdx? p = some i ∧ l.any p = true) ∨ (l.findIdx? p = none ∧ l.any p = false) := by
  cases h : l.findIdx? p with
  | some i =>
    rw [List.findIdx?_eq_some_iff_getElem] at h
    obtain ⟨hi, h1, _⟩ := h
    exact .inl ⟨i, rfl, by rw [List.any_eq_true]; exact ⟨_, List.getElem_mem hi, h1⟩⟩
  | none =>
    rw [List.findIdx?_eq_none_iff] at h
    refine .inr ⟨rfl, ?_⟩
    rw [List.any_eq_false]
    intro x hx; rw [h x hx]; simp
theorem cont_meas {H0 : AHeap} {bq f : Nat} {n : Int} {s : Sl Measure} (p : Measure → Bool) (h132 : pol.pure 132 = false) (hp : pol.pure f = false) (hcl : ∀ (H : AHeap) x, H.cells bq = some [.sc (.int .i64 n)] → Ev prog pol (.call f [x.enc, .ptr bq 0]) H fun o H' => o = .val (.sc (.bool (p x))) ∧ Keep H.next H H' ∧ H.next ≤ H'.next)
    (hcv : ∀ x : Measure, callvOf prog (.func (.func f) [] [.ptr bq 0]) [AV.agg x.enc.cells] = some (.call f [x.enc, .ptr bq 0])) (hq : H0.cells bq = some [.sc (.int .i64 n)]) (hl : s.l.length < 1000000) :
    Ev prog pol (.call 101 [slm Measure.enc s, .func (.func f) [] [.ptr bq 0]]) H0 fun o H' => o = .val (.sc (.bool (s.l.any p))) ∧ Keep H0.next H0 H' ∧ H0.next ≤ H'.next := by
  refine (wpF_ok ok101 (Q := fun v H' => v = .sc (.bool (s.l.any p)) ∧ Keep H0.next H0 H' ∧ H0.next ≤ H'.next) ?_).mono ?_
  rotate_left
  · rintro o H' ⟨v, rfl, rfl, h⟩
    exact ⟨rfl, h⟩
  simp -implicitDefEqProofs (maxDischargeDepth := 12) only [wpF, cf101, WW,List.replicate,e_splice,if_true,if_false,ite_true,ite_false,true_or,ne_eq,seval,h_putc,beq_self_eq_true,eq_self,exists_eq_left,exists_eq_left']
  refine wA_call h132 ((index_meas p hp hcl hcv hq hl).mono fun o H' h => ?_)
  obtain ⟨rfl, hK, hn⟩ := h
  refine ⟨_, rfl, by simp only [k_nil], ?_⟩
  rcases idx_any (l := s.l) (p := p) with ⟨i, h1, h2⟩ | ⟨h1, h2⟩
  · have h0 : (0 : Int) ≤ (i : Int) := by omega
    rw [h1, h2]
    simp -implicitDefEqProofs (maxDischargeDepth := 12) only [idxAV, WW,List.replicate,e_splice,if_true,if_false,ite_true,ite_false,true_or,ne_eq,seval,h_putc,beq_self_eq_true,eq_self,exists_eq_left,exists_eq_left', h0]
    exact ⟨hK, hn⟩
  · rw [h1, h2]
    simp -implicitDefEqProofs (maxDischargeDepth := 12) only [idxAV, WW,List.replicate,e_splice,if_true,if_false,ite_true,ite_false,true_or,ne_eq,seval,h_putc,beq_self_eq_true,eq_self,exists_eq_left,exists_eq_left']
    exact ⟨hK, hn⟩
def wholeB (s : Score) : Bool := s.measures.l.all fun m => decide (m.cells.l.length = stavesOf s.parts.l)
theorem wholeB_any (s : Score) : wholeB s = !(s.measures.l.any (badM (stavesOf s.parts.l))) := by
  unfold wholeB
  induction s.measures.l with
  | nil => rfl
  | cons y l ih =>
    simp only [List.all_cons, List.any_cons, ih, Bool.not_or]
    congr 1
    by_cases h : y.cells.l.length = stavesOf s.parts.l
    · simp [badM, h]
    · have : ¬ ((y.cells.l.length : Int) = (stavesOf s.parts.l : Int)) := by omega
      simp [badM, h, this]
def WhPol (pol : Pol) : Prop := pol.pure 23 = true ∧ pol.pure 101 = false ∧ pol.pure 132 = false ∧ pol.pure 115 = false
theorem whole_pv (hp : WhPol pol) (s : Score) (hT : Tame s) : Pv prog pol 72 [s.enc] (.sc (.bool (wholeB s))) := by
  obtain ⟨h23, h101, h132, h115⟩ := hp
  refine Pv_of' ok72 (by simp only [AV.closedBs, Score.enc_closed, Bool.and_self]) ?_
  simp -implicitDefEqProofs (maxDischargeDepth := 12) only [wpF, cf72, WW,List.replicate,e_splice,if_true,if_false,ite_true,ite_false,true_or,ne_eq,seval,h_putc,beq_self_eq_true,eq_self,exists_eq_left,exists_eq_left', s.enc_eq]
  rw [← s.enc_eq]
  refine wA_pure h23 (staves_pv s hT.staves hT.parts) ?_
  simp -implicitDefEqProofs (maxDischargeDepth := 12) only [WW,List.replicate,e_splice,if_true,if_false,ite_true,ite_false,true_or,ne_eq,seval,h_putc,beq_self_eq_true,eq_self,exists_eq_left,exists_eq_left', s.enc_eq]
  refine wA_call h101 ((cont_meas (badM (stavesOf s.parts.l)) h132 h115 (fun H x h => cne115 h x) (fun x => rfl) ?_ hT.measures).mono fun o H' h => ?_)
  · simp -implicitDefEqProofs (maxDischargeDepth := 12) only [WW,List.replicate,e_splice,if_true,if_false,ite_true,ite_false,true_or,ne_eq,seval,h_putc,beq_self_eq_true,eq_self,exists_eq_left,exists_eq_left']
  obtain ⟨rfl, hK, hn⟩ := h
  refine ⟨_, rfl, by simp only [k_nil], ?_⟩
  rw [wholeB_any]
  cases s.measures.l.any (badM (stavesOf s.parts.l)) with
  | true => simp -implicitDefEqProofs (maxDischargeDepth := 12) only [WW,List.replicate,e_splice,if_true,if_false,ite_true,ite_false,true_or,ne_eq,seval,h_putc,beq_self_eq_true,eq_self,exists_eq_left,exists_eq_left']; exact frz_sc
  | false => simp -implicitDefEqProofs (maxDischargeDepth := 12) only [WW,List.replicate,e_splice,if_true,if_false,ite_true,ite_false,true_or,ne_eq,seval,h_putc,beq_self_eq_true,eq_self,exists_eq_left,exists_eq_left']; exact frz_sc
end Go.Hem
/- Walks: InsertMeasures. -/
set_option maxRecDepth 10000
set_option maxHeartbeats 4000000
set_option linter.unusedSimpArgs false
set_option linter.unusedVariables false
namespace Go.Hem
variable {pol : Pol}
end Go.Hem
/- A cell of an element of an owned list is put anew. -/
set_option maxRecDepth 10000
set_option linter.unusedSimpArgs false
set_option linter.unusedVariables false
namespace Go.Hem
theorem splice_in {ds : List AV} {o n j : Nat} {w : AV} (h : o + n ≤ ds.length) (hj : j < n) : splice ds (o + j) [w] = splice ds o (((ds.drop o).take n).set j w) := by
  have hl : (((ds.drop o).take n).set j w).length = n := by simp; omega
  apply List.ext_getElem?
  intro k
  have e1 : (splice ds (o + j) [w]).length = ds.length := splice_len2 (by simp; omega)
  have e2 : (splice ds o (((ds.drop o).take n).set j w)).length = ds.length := splice_len2 (by omega)
  by_cases hk : k < ds.length
  · have g : ∀ (xs : List AV) (p : Nat), p + xs.length ≤ ds.length → (splice ds p xs)[k]? = if k < p then ds[k]? else if k < p + xs.length then xs[k - p]? else ds[k]? := by
      intro xs p hp
      unfold splice
      by_cases c1 : k < p
      · rw [if_pos c1, List.append_assoc, List.getElem?_append_left (by simp; omega), List.getElem?_take_of_lt c1]
      · rw [if_neg c1]
        by_cases c2 : k < p + xs.length
        · rw [if_pos c2, List.getElem?_append_left (by simp; omega), List.getElem?_append_right (by simp; omega)]
          congr 1; simp; omega
        · rw [if_neg c2, List.getElem?_append_right (by simp; omega), List.getElem?_drop]
          congr 1; simp; omega
    have hT : ((ds.drop o).take n).length = n := by simp; omega
    rw [g [w] (o + j) (by simp; omega), g _ o (by omega), hl]
    simp only [List.length_cons, List.length_nil, Nat.zero_add]
    by_cases c1 : k < o
    · rw [if_pos (show k < o + j by omega), if_pos c1]
    rw [if_neg c1]
    by_cases c2 : k < o + n
    · rw [if_pos c2, List.getElem?_set]
      by_cases c3 : k = o + j
      · subst c3
        rw [if_neg (show ¬ o + j < o + j by omega), if_pos (show o + j < o + j + 1 by omega), if_pos (show j = o + j - o by omega), if_pos (by rw [hT]; exact hj)]
        simp
      · rw [if_neg (show ¬ j = k - o by omega), List.getElem?_take_of_lt (by omega), List.getElem?_drop, show o + (k - o) = k by omega]
        by_cases c4 : k < o + j
        · rw [if_pos c4]
        · rw [if_neg c4, if_neg (show ¬ k < o + j + 1 by omega)]
    · rw [if_neg c2, if_neg (show ¬ k < o + j by omega), if_neg (show ¬ k < o + j + 1 by omega)]
  · rw [List.getElem?_eq_none (by omega), List.getElem?_eq_none (by omega)]
theorem slot_put {α : Type} {f : α → AV} {d n i j : Nat} {H : AHeap} {v u : AV} {s : Sl α} {fp : List Nat} {x : α} (row : RowOf n f) (hn1 : n ≠ 1) (h : OwnX false (d + 2) H v (slm f s) fp) (hi : s.l[i]? = some x) (hj : (f x).cells[j]? = some u) :
    ∃ b off cap ds w fw, v = .slice b off s.l.length cap n ∧ H.cells b = some ds ∧ off + i * n + j + 1 ≤ ds.length ∧ b ∈ fp ∧ ds[off + i * n + j]? = some w ∧ OwnX false (d + 1) H w u fw ∧ (∀ c ∈ fw, c ∈ fp ∧ c ≠ b) ∧
      ∀ (x' : α) u', (f x').cells = (f x).cells.set j u' → ∀ H' w' f', OwnX false (d + 1) H' w' u' f' → H'.cells b = some (splice ds (off + i * n + j) [w']) → (∀ c ∈ fp, c ≠ b → c ∉ fw → H'.cells c = H.cells c) → (∀ c ∈ f', c ∈ fw ∨ c ∉ fp) → b ∉ f' →
        ∃ fp', OwnX false (d + 2) H' v (slm f (some (s.l.set i x'))) fp' ∧ ∀ c ∈ fp', c ∈ fp ∨ c ∈ f' := by
  obtain ⟨b, off, cap, ds, fp2, h1, h2, h3, h4, h5, h6, h7, h8⟩ := own_elem_fit row hn1 h hi
  obtain ⟨w, fw, e1, k1, k2, k3⟩ := h7.fit hj
  have hjn : j < n := by
    have := (List.getElem?_eq_some_iff.1 hj).1
    rw [(row.2 x).1] at this; exact this
  have ew : ds[off + i * n + j]? = some w := by
    rw [List.getElem?_take_of_lt hjn, List.getElem?_drop] at e1
    exact e1
  refine ⟨b, off, cap, ds, w, fw, h1, h2, by omega, h4, ew, k1, fun c hc => ⟨h6 c (k2 c hc), fun e => h5 (e ▸ k2 c hc)⟩, fun x' u' hx' H' w' f' a1 a2 a3 a4 a5 => ?_⟩
  obtain ⟨fq, r1, r2⟩ := k3 w' u' H' f' a1 (fun c hc hc2 => a3 c (h6 c hc) (fun e => h5 (e ▸ hc)) hc2) (fun c hc => (a4 c hc).imp id fun h h' => h (h6 c h'))
  rw [← hx'] at r1
  have hbq : b ∉ fq := fun hb => by
    rcases r2 b hb with h | h
    · exact a5 h
    · exact h5 h.1
  obtain ⟨fp', q1, q2⟩ := h8 x' H' (b :: fq) ⟨_, fq, by rw [a2, splice_in h3 hjn], by simp; omega, r1, hbq, rfl⟩ (fun c hc hc2 => a3 c hc (fun e => hc2 (by simp [e])) (fun hw => hc2 (by simp [k2 c hw]))) (fun c hc => by
    rcases List.mem_cons.1 hc with rfl | hc
    · exact .inl (by simp)
    · rcases r2 c hc with h | h
      · rcases a4 c h with h | h
        · exact .inl (by simp [k2 c h])
        · exact .inr h
      · exact .inl (by simp [h.1]))
  refine ⟨fp', q1, fun c hc => ?_⟩
  rcases q2 c hc with h | h
  · rcases List.mem_cons.1 h with rfl | h
    · exact .inl h4
    · rcases r2 c h with h | h
      · exact .inr h
      · exact .inl (h6 c h.1)
  · exact .inl h.1
end Go.Hem
/- Walks: InsertPart. -/
set_option maxRecDepth 10000
set_option maxHeartbeats 4000000
set_option linter.unusedSimpArgs false
set_option linter.unusedVariables false
namespace Go.Hem
variable {pol : Pol}
theorem ins76 : insB prog 76 = true := by decide +kernel
theorem ins77 : insB prog 77 = true := by decide +kernel
abbrev rowE (r : Sl Cell) : AV := slm Cell.enc r
theorem rowE_c (r : Sl Cell) : (rowE r).cells = [rowE r] := by cases r <;> rfl
theorem rowE_closed (r : Sl Cell) : AV.closedB (rowE r) = true := closedB_slm Cell.enc_closed
def badR (n : Nat) (r : Sl Cell) : Bool := !decide (r.l.length = n)
theorem rne74 {H : AHeap} {b : Nat} {p : Part} (hb : H.cells b = some p.enc.cells) (r : Sl Cell) :
    Ev prog pol (.call 74 [rowE r, .ptr b 0]) H fun o H' => o = .val (.sc (.bool (badR p.staves.l.length r))) ∧ Keep H.next H H' ∧ H.next ≤ H'.next := by
  refine (wpF_ok ok74 (Q := fun v H' => v = .sc (.bool (badR p.staves.l.length r)) ∧ Keep H.next H H' ∧ H.next ≤ H'.next) ?_).mono ?_
  rotate_left
  · rintro o H' ⟨v, rfl, rfl, h⟩
    exact ⟨rfl, h⟩
  simp only [p.enc_eq, c_agg] at hb
  by_cases h1 : r.l.length = p.staves.l.length
  · have hbm : badR p.staves.l.length r = false := by simp [badR, h1]
    have h2 : (r.l.length : Int) = (p.staves.l.length : Int) := by omega
    rw [hbm]
    simp -implicitDefEqProofs (maxDischargeDepth := 12) only [wpF, cf74, WW,List.replicate,e_splice,if_true,if_false,ite_true,ite_false,true_or,ne_eq,seval,h_putc,beq_self_eq_true,eq_self,exists_eq_left,exists_eq_left', hb, h2]
    exact Keep.refl
  · have hbm : badR p.staves.l.length r = true := by simp [badR, h1]
    have h2 : ¬ (r.l.length : Int) = (p.staves.l.length : Int) := by omega
    rw [hbm]
    simp -implicitDefEqProofs (maxDischargeDepth := 12) only [wpF, cf74, WW,List.replicate,e_splice,if_true,if_false,ite_true,ite_false,true_or,ne_eq,seval,h_putc,beq_self_eq_true,eq_self,exists_eq_left,exists_eq_left', hb, h2]
    exact Keep.refl
theorem index_rows {H0 : AHeap} {bq : Nat} {p : Part} {s : Sl (Sl Cell)} (hp : pol.pure 74 = false) (hq : H0.cells bq = some p.enc.cells) (hl : s.l.length < 1000000) :
    Ev prog pol (.call 116 [slm rowE s, .func (.func 74) [] [.ptr bq 0]]) H0 fun o H' => o = .val (idxAV (s.l.findIdx? (badR p.staves.l.length))) ∧ Keep H0.next H0 H' ∧ H0.next ≤ H'.next := by
  refine (wpF_ok ok116 (Q := fun v H' => v = idxAV (s.l.findIdx? (badR p.staves.l.length)) ∧ Keep H0.next H0 H' ∧ H0.next ≤ H'.next) ?_).mono ?_
  rotate_left
  · rintro o H' ⟨v, rfl, rfl, h⟩
    exact ⟨rfl, h⟩
  have b2 := h_lt hq
  simp -implicitDefEqProofs (maxDischargeDepth := 12) only [wpF, cf116, WW,List.replicate,e_splice,if_true,if_false,ite_true,ite_false,true_or,ne_eq,seval,h_putc,beq_self_eq_true,eq_self,exists_eq_left,exists_eq_left']
  refine wp_loop (Inv := fun k t H => ∃ (i : Nat), i + k = s.l.length ∧ Keep H0.next H0 H ∧ H0.next ≤ H.next ∧ (∀ j x, j < i → s.l[j]? = some x → badR p.staves.l.length x = false) ∧
    ∃ x : Nat → AV, t = [slm rowE s, .func (.func 74) [] [.ptr bq 0], x 2, x 3, .sc (.int .i64 0), x 5, slm rowE s, .sc (.int .i64 s.l.length), .sc (.int .i64 i), x 9, x 10, x 11, x 12, x 13, x 14, x 15, x 16, x 17, x 18]) (k := s.l.length) ?_
    ⟨0, by omega, Keep.refl, Nat.le_refl _, by simp, ex_x rfl⟩
  rintro k t H ⟨i, hk, hK, hn, hbad, x, rfl⟩
  have c2 := hK.cells hq b2
  by_cases h1 : (i : Int) < (s.l.length : Int)
  · obtain ⟨y, hy⟩ : ∃ y, s.l[i]? = some y := ⟨_, List.getElem?_eq_getElem (by omega)⟩
    have e2 : IntKind.i64.wrap ((i : Int) + 1) = ((i + 1 : Nat) : Int) := by rw [w64 (by omega) (by omega)]; omega
    have h1n : i < s.l.length := by omega
    simp -implicitDefEqProofs (maxDischargeDepth := 12) only [WW,List.replicate,e_splice,if_true,if_false,ite_true,ite_false,true_or,ne_eq,seval,h_putc,beq_self_eq_true,eq_self,exists_eq_left,exists_eq_left', h1, h1n, hy, rowE_c]
    rw [show callvOf prog (.func (.func 74) [] [.ptr bq 0]) [rowE y] = some (.call 74 [rowE y, .ptr bq 0]) from rfl]
    refine wA_call hp ((rne74 c2 y).mono fun o H' h => ?_)
    obtain ⟨rfl, hK2, hn2⟩ := h
    refine ⟨_, rfl, by simp only [k_nil], ?_⟩
    have hK3 : Keep H0.next H0 H' := hK.trans (hK2.le hn)
    cases hbb : badR p.staves.l.length y with
    | true =>
      have hyes : s.l.findIdx? (badR p.staves.l.length) = some i := by
        rw [List.findIdx?_eq_some_iff_getElem]
        refine ⟨h1n, by rw [(List.getElem?_eq_some_iff.1 hy).2]; exact hbb, fun j hj => ?_⟩
        have := hbad j (s.l[j]'(by omega)) hj (List.getElem?_eq_getElem (by omega))
        simp [this]
      simp -implicitDefEqProofs (maxDischargeDepth := 12) only [WW,List.replicate,e_splice,if_true,if_false,ite_true,ite_false,true_or,ne_eq,seval,h_putc,beq_self_eq_true,eq_self,exists_eq_left,exists_eq_left', e2]
      exact ⟨by rw [hyes]; rfl, hK3, by omega⟩
    | false =>
      simp -implicitDefEqProofs (maxDischargeDepth := 12) only [WW,List.replicate,e_splice,if_true,if_false,ite_true,ite_false,true_or,ne_eq,seval,h_putc,beq_self_eq_true,eq_self,exists_eq_left,exists_eq_left', e2]
      refine ⟨k - 1, by omega, i + 1, by omega, hK3, by omega, fun j z hj hz => ?_, ex_x rfl⟩
      by_cases hji : j = i
      · subst hji; rw [hy] at hz; cases hz; exact hbb
      · exact hbad j z (by omega) hz
  · simp -implicitDefEqProofs (maxDischargeDepth := 12) only [WW,List.replicate,e_splice,if_true,if_false,ite_true,ite_false,true_or,ne_eq,seval,h_putc,beq_self_eq_true,eq_self,exists_eq_left,exists_eq_left', h1]
    have hno : s.l.findIdx? (badR p.staves.l.length) = none := by
      rw [List.findIdx?_eq_none_iff]
      intro z hz
      obtain ⟨j, hj⟩ := List.getElem?_of_mem hz
      have := (List.getElem?_eq_some_iff.1 hj).1
      exact hbad j z (by omega) hj
    exact ⟨by rw [hno]; rfl, hK, hn⟩
theorem cont_rows {H0 : AHeap} {bq : Nat} {p : Part} {s : Sl (Sl Cell)} (h116 : pol.pure 116 = false) (hp : pol.pure 74 = false) (hq : H0.cells bq = some p.enc.cells) (hl : s.l.length < 1000000) :
    Ev prog pol (.call 73 [slm rowE s, .func (.func 74) [] [.ptr bq 0]]) H0 fun o H' => o = .val (.sc (.bool (s.l.any (badR p.staves.l.length)))) ∧ Keep H0.next H0 H' ∧ H0.next ≤ H'.next := by
  refine (wpF_ok ok73 (Q := fun v H' => v = .sc (.bool (s.l.any (badR p.staves.l.length))) ∧ Keep H0.next H0 H' ∧ H0.next ≤ H'.next) ?_).mono ?_
  rotate_left
  · rintro o H' ⟨v, rfl, rfl, h⟩
    exact ⟨rfl, h⟩
  simp -implicitDefEqProofs (maxDischargeDepth := 12) only [wpF, cf73, WW,List.replicate,e_splice,if_true,if_false,ite_true,ite_false,true_or,ne_eq,seval,h_putc,beq_self_eq_true,eq_self,exists_eq_left,exists_eq_left']
  refine wA_call h116 ((index_rows hp hq hl).mono fun o H' h => ?_)
  obtain ⟨rfl, hK, hn⟩ := h
  refine ⟨_, rfl, by simp only [k_nil], ?_⟩
  rcases idx_any (l := s.l) (p := badR p.staves.l.length) with ⟨i, h1, h2⟩ | ⟨h1, h2⟩
  · have h0 : (0 : Int) ≤ (i : Int) := by omega
    rw [h1, h2]
    simp -implicitDefEqProofs (maxDischargeDepth := 12) only [idxAV, WW,List.replicate,e_splice,if_true,if_false,ite_true,ite_false,true_or,ne_eq,seval,h_putc,beq_self_eq_true,eq_self,exists_eq_left,exists_eq_left', h0]
    exact ⟨hK, hn⟩
  · rw [h1, h2]
    simp -implicitDefEqProofs (maxDischargeDepth := 12) only [idxAV, WW,List.replicate,e_splice,if_true,if_false,ite_true,ite_false,true_or,ne_eq,seval,h_putc,beq_self_eq_true,eq_self,exists_eq_left,exists_eq_left']
    exact ⟨hK, hn⟩
def IpPol (pol : Pol) : Prop := ClPol pol ∧ WhPol pol ∧ pol.pure 72 = true ∧ pol.pure 73 = false ∧ pol.pure 74 = false ∧ pol.pure 116 = false ∧ pol.pure 76 = false ∧ pol.pure 77 = false ∧ pol.eff = insPol
def Measure.insC (m : Measure) (i : Nat) (el : List Cell) : Measure := { m with cells := m.cells.ins i el }
def insNew (first : Nat) (m : Measure) (r : Sl Cell) : Measure := m.cl.insC first (r.l.map Cell.cl)
def Score.firstOf (s : Score) (at_ : Nat) : Nat := stavesOf (s.parts.l.take at_)
def Score.insP (s : Score) (at_ : Nat) (p : Part) (cells : Sl (Sl Cell)) : Score :=
  { s.cl with parts := s.cl.parts.ins at_ [p], measures := some (List.zipWith (insNew (s.firstOf at_)) s.measures.l cells.l) }
theorem insp_li (s : Score) (i : Nat) (p : Part) (cells : Sl (Sl Cell)) (h : i ≤ s.parts.l.length) (h2 : 32 ≤ s.parts.l.length) : Pv prog pol 34 [s.enc, .sc (.int .i64 i), p.enc, slm rowE cells] (erAV 9) := by
  refine Pv_of' ok34 (by simp only [AV.closedBs, Score.enc_closed, Part.enc_closed, AV.closedB, closedB_slm rowE_closed, Bool.and_self]) ?_
  have h0 : ¬ (i : Int) < 0 := by omega
  have h1 : ¬ (s.parts.l.length : Int) < (i : Int) := by omega
  have h3 : (32 : Int) ≤ (s.parts.l.length : Int) := by omega
  simp -implicitDefEqProofs (maxDischargeDepth := 12) only [wpF, cf34, WW,List.replicate,e_splice,if_true,if_false,ite_true,ite_false,true_or,ne_eq,seval,h_putc,beq_self_eq_true,eq_self,exists_eq_left,exists_eq_left', s.enc_eq, p.enc_eq, h0, h1, h3]
  exact frz_plain rfl (plain_er 9)
end Go.Hem
/- Walks: InsertPart, its good end. -/
set_option maxRecDepth 10000
set_option maxHeartbeats 4000000
set_option linter.unusedSimpArgs false
set_option linter.unusedVariables false
namespace Go.Hem
variable {pol : Pol}
def Score.withMs (s : Score) (l : List Measure) : Score := { s with measures := some l }
theorem insp_ok (hp : IpPol pol) (s : Score) (hs : s.tame) (hT : Tame s) (i : Nat) (p : Part) (hpt : p.tame) (cells : Sl (Sl Cell)) (h : i ≤ s.parts.l.length) (h2 : s.parts.l.length < 32) (hw : wholeB s = true) (hcl : cells.l.length = s.measures.l.length) (hbad : cells.l.any (badR p.staves.l.length) = false)
    (hst : stavesOf s.parts.l < 1000) (hps : p.staves.l.length < 1000) (hct : ∀ r ∈ cells.l, ∀ c ∈ r.l, c.tame) : Pv prog pol 34 [s.enc, .sc (.int .i64 i), p.enc, slm rowE cells] (okAV (s.insP i p cells)) := by
  obtain ⟨hc, hwh, h72, h73, h74, h116, h76, h77, heff⟩ := hp
  refine Pv_of' ok34 (by simp only [AV.closedBs, Score.enc_closed, Part.enc_closed, AV.closedB, closedB_slm rowE_closed, Bool.and_self]) ?_
  have h0 : ¬ (i : Int) < 0 := by omega
  have h1 : ¬ (s.parts.l.length : Int) < (i : Int) := by omega
  have h3 : ¬ (32 : Int) ≤ (s.parts.l.length : Int) := by omega
  have hmb := hT.measures
  have h5 : (cells.l.length : Int) = (s.measures.l.length : Int) := by omega
  simp -implicitDefEqProofs (maxDischargeDepth := 12) only [wpF, cf34, WW,List.replicate,e_splice,if_true,if_false,ite_true,ite_false,true_or,ne_eq,seval,h_putc,beq_self_eq_true,eq_self,exists_eq_left,exists_eq_left', s.enc_eq, p.enc_eq, h0, h1, h3]
  try rw [← s.enc_eq]
  refine wA_pure h72 (whole_pv hwh s hT) ?_
  rw [hw]
  simp -implicitDefEqProofs (maxDischargeDepth := 12) only [WW,List.replicate,e_splice,if_true,if_false,ite_true,ite_false,true_or,ne_eq,seval,h_putc,beq_self_eq_true,eq_self,exists_eq_left,exists_eq_left', h5]
  refine wA_call h73 ((cont_rows (p := p) h116 h74 ?_ (by omega)).mono fun o H1 h => ?_)
  · simp -implicitDefEqProofs (maxDischargeDepth := 12) only [WW,List.replicate,e_splice,if_true,if_false,ite_true,ite_false,true_or,ne_eq,seval,h_putc,beq_self_eq_true,eq_self,exists_eq_left,exists_eq_left', p.enc_eq]
  obtain ⟨rfl, hK, hn⟩ := h
  refine ⟨_, rfl, by simp only [k_nil], ?_⟩
  have g0 : H1.cells 0 = some [.sc (.str s.title), .sc (.bool s.written), slm Part.enc s.parts, slm Measure.enc s.measures, slm Spanner.enc s.spanners, slm ID.enc s.last] := (hK 0 (by simp -implicitDefEqProofs (maxDischargeDepth := 12) only [WW,List.replicate,e_splice,if_true,if_false,ite_true,ite_false,true_or,ne_eq,seval,h_putc,beq_self_eq_true,eq_self,exists_eq_left,exists_eq_left'])).trans (by simp -implicitDefEqProofs (maxDischargeDepth := 12) only [WW,List.replicate,e_splice,if_true,if_false,ite_true,ite_false,true_or,ne_eq,seval,h_putc,beq_self_eq_true,eq_self,exists_eq_left,exists_eq_left'])
  have g1 : H1.cells 1 = some p.enc.cells := (hK 1 (by simp -implicitDefEqProofs (maxDischargeDepth := 12) only [WW,List.replicate,e_splice,if_true,if_false,ite_true,ite_false,true_or,ne_eq,seval,h_putc,beq_self_eq_true,eq_self,exists_eq_left,exists_eq_left'])).trans (by simp -implicitDefEqProofs (maxDischargeDepth := 12) only [WW,List.replicate,e_splice,if_true,if_false,ite_true,ite_false,true_or,ne_eq,seval,h_putc,beq_self_eq_true,eq_self,exists_eq_left,exists_eq_left', p.enc_eq])
  have g2 : H1.cells 2 = some [.sc (.str ⟨#[]⟩), .sc (.bool false), .sc .nils, .sc .nils, .sc .nils, .sc .nils] := (hK 2 (by simp -implicitDefEqProofs (maxDischargeDepth := 12) only [WW,List.replicate,e_splice,if_true,if_false,ite_true,ite_false,true_or,ne_eq,seval,h_putc,beq_self_eq_true,eq_self,exists_eq_left,exists_eq_left'])).trans (by simp -implicitDefEqProofs (maxDischargeDepth := 12) only [WW,List.replicate,e_splice,if_true,if_false,ite_true,ite_false,true_or,ne_eq,seval,h_putc,beq_self_eq_true,eq_self,exists_eq_left,exists_eq_left'])
  simp -implicitDefEqProofs (maxDischargeDepth := 12) only [WW,List.replicate,e_splice,if_true,if_false,ite_true,ite_false,true_or,ne_eq,seval,h_putc,beq_self_eq_true,eq_self,exists_eq_left,exists_eq_left'] at hn
  rw [hbad]
  simp -implicitDefEqProofs (maxDischargeDepth := 12) only [WW,List.replicate,e_splice,if_true,if_false,ite_true,ite_false,true_or,ne_eq,seval,h_putc,beq_self_eq_true,eq_self,exists_eq_left,exists_eq_left', g0, g2]
  try rw [← s.enc_eq]
  refine wA_call (hc _ (by decide)) ((sClone_ok2 hc s hs _).mono ?_)
  rintro o H2 ⟨cs, fp, rfl, ho, hlc, hones, ⟨hrp, -⟩, hF, hN2, hK2⟩
  refine ⟨_, rfl, by simp only [k_nil], ?_⟩
  have x0 := hK2.cells g0 (by omega)
  have x1 := hK2.cells g1 (by omega)
  have x2 := hK2.cells g2 (by omega)
  generalize hq : H2.next = q
  have hlt2 := ho.lts
  have hsp : splice [.sc (.str ⟨#[]⟩), .sc (.bool false), .sc .nils, .sc .nils, .sc .nils, .sc .nils] 0 cs = cs := splice_full hlc.symm
  simp -implicitDefEqProofs (maxDischargeDepth := 12) only [WW,List.replicate,if_true,if_false,ite_true,ite_false,true_or,ne_eq,seval,beq_self_eq_true,eq_self,exists_eq_left,exists_eq_left', hones, hlc, hq, hsp]
  generalize hHA : AHeap.put _ q _ = HA
  have nA : HA.next = q + 1 := by subst hHA; simp only [AHeap.next_put, AHeap.next_alloc, hq]
  have a0 : ∀ b, b < q → HA.cells b = H2.cells b := fun b hb => by
    subst hHA
    rw [c_put_ne (by omega), c_alloc_ne (by omega)]
  have aq : HA.cells q = some cs := by
    subst hHA
    refine h_put_self (y := [.sc (.str ⟨#[]⟩), .sc (.bool false), .sc .nils, .sc .nils, .sc .nils, .sc .nils]) ?_
    rw [h_alloc, if_pos hq.symm]
  clear hHA
  have hR : ∀ b ∈ fp, 3 ≤ b ∧ b < q := fun b hb => ⟨by have := hF b hb; omega, by have := hlt2 b hb; omega⟩
  have hN : 3 ≤ q := by omega
  have hoA : OwnL (OwnX false 7) HA cs s.cl.enc.cells fp := ho.fr fun b hb => a0 b (hR b hb).2
  have xA0 := (a0 0 (by omega)).trans x0
  have xA1 := (a0 1 (by omega)).trans x1
  have xA2 := (a0 2 (by omega)).trans x2
  clear a0 x0 x1 x2 g0 g1 g2 hK hK2 ho hF hlt2
  simp -implicitDefEqProofs (maxDischargeDepth := 12) only [WW,List.replicate,e_splice,if_true,if_false,ite_true,ite_false,true_or,ne_eq,seval,h_putc,beq_self_eq_true,eq_self,exists_eq_left,exists_eq_left', xA0, e_cutm Part.enc_len, h]
  have hXp : Sl.l (Option.map (fun x => List.take i x) s.parts) = s.parts.l.take i := sl_take s.parts i
  have hle := stavesOf_le (l := s.parts.l) (i := i)
  have hst0 := staves_pv (pol := pol) (⟨⟨#[]⟩, false, Option.map (fun x => List.take i x) s.parts, Option.none, Option.none, Option.none⟩ : Score) (by show stavesOf (Sl.l _) < _; rw [hXp]; omega) (by show (Sl.l _).length < _; rw [hXp, List.length_take]; omega)
  refine wA_pure hwh.1 hst0 ?_
  clear hst0
  obtain ⟨F, hF⟩ : ∃ F, F = s.firstOf i := ⟨_, rfl⟩
  have hF2 : stavesOf (Sl.l (Option.map (fun x => List.take i x) s.parts)) = F := by rw [hXp, hF]; rfl
  rw [show (Score.parts ⟨⟨#[]⟩, false, Option.map (fun x => List.take i x) s.parts, Option.none, Option.none, Option.none⟩) = Option.map (fun x => List.take i x) s.parts from rfl, hF2]
  have hFle : F ≤ stavesOf s.parts.l := by rw [hF]; exact hle
  obtain ⟨v2, v3, v4, v5, f2, f3, f4, f5, rfl, d2, d3, d4, d5, s2, s3, s4, s5⟩ := own6 hoA
  simp only [List.getD_cons_zero, List.getD_cons_succ] at hrp
  have hml : s.cl.measures.l.length = s.measures.l.length := by show (s.measures.l.map Measure.cl).length = _; rw [List.length_map]
  have hlv3 := (own_len d3).1
  rw [hml] at hlv3
  have hwh2 : ∀ m ∈ s.measures.l, m.cells.l.length = stavesOf s.parts.l := fun m hm => by
    unfold wholeB at hw
    rw [List.all_eq_true] at hw
    simpa using hw m hm
  have hrl : ∀ r ∈ cells.l, r.l.length = p.staves.l.length := fun r hr => by
    rw [List.any_eq_false] at hbad
    have := hbad r hr
    simpa [badR] using this
  simp -implicitDefEqProofs (maxDischargeDepth := 12) only [WW,List.replicate,e_splice,if_true,if_false,ite_true,ite_false,true_or,ne_eq,seval,h_putc,beq_self_eq_true,eq_self,exists_eq_left,exists_eq_left', aq, hlv3]
  refine wp_loop (Inv := fun k t H => ∃ (j : Nat) (fp2 : List Nat) (X : List Measure), j + k = s.measures.l.length ∧ X.length = s.measures.l.length ∧ (∀ c m r, c < j → s.measures.l[c]? = some m → cells.l[c]? = some r → X[c]? = some (insNew F m r)) ∧ (∀ c m, j ≤ c → s.measures.l[c]? = some m → X[c]? = some m.cl) ∧
    H.cells q = some [.sc (.str s.cl.title), .sc (.bool s.cl.written), v2, v3, v4, v5] ∧ (∀ b, b < 3 → H.cells b = HA.cells b) ∧ OwnL (OwnX false 7) H [.sc (.str s.cl.title), .sc (.bool s.cl.written), v2, v3, v4, v5] (s.cl.withMs X).enc.cells fp2 ∧ (∀ b ∈ fp2, 3 ≤ b ∧ b ≠ q) ∧ q < H.next ∧
    ∃ y : Nat → AV, t = [s.enc, .sc (.int .i64 i), p.enc, slm rowE cells, .ptr 0 0, y 5, .ptr 1 0, y 7, .ptr 2 0, .sc (.int .i64 0), .ptr q 0, .sc (.int .i64 F), y 12, y 13, y 14, y 15, y 16, y 17, y 18, y 19, y 20, y 21, y 22, y 23, y 24, y 25, y 26, y 27, y 28, y 29, y 30, y 31, y 32, y 33, y 34, y 35, y 36, y 37, y 38, y 39, y 40, y 41, y 42, y 43, y 44, y 45, y 46, y 47, y 48, y 49, y 50, y 51, y 52, y 53, y 54, y 55, y 56, y 57, y 58, y 59, .ptr q 3, v3, .sc (.int .i64 s.measures.l.length), .sc (.int .i64 j), y 64, y 65, y 66, y 67, y 68, y 69, y 70, y 71, y 72, y 73, y 74, y 75, y 76, y 77, y 78, y 79, y 80, y 81, y 82, y 83, y 84, y 85, y 86, y 87, y 88, y 89, y 90, y 91, y 92, y 93, y 94, y 95, y 96, y 97, y 98, y 99, y 100, y 101, y 102, y 103, y 104, y 105, y 106, y 107, y 108, y 109, y 110]) (k := s.measures.l.length) ?_
    ⟨0, fp, s.measures.l.map Measure.cl, by omega, by rw [List.length_map], fun c m r hc => by omega, fun c m _ hm => by rw [List.getElem?_map, hm]; rfl, aq, fun _ _ => rfl, hoA, fun b hb => ⟨(hR b hb).1, by have := hR b hb; omega⟩, by omega, ex_x rfl⟩
  rintro k t H ⟨j, fp2, X, hk, hXl, hX1, hX2, hq', h3', hoH, hfp2, hqn, y, rfl⟩
  have hlts := hoH.lts
  by_cases c1 : (j : Int) < (s.measures.l.length : Int)
  · obtain ⟨m, hm⟩ : ∃ m, s.measures.l[j]? = some m := ⟨_, List.getElem?_eq_getElem (by omega)⟩
    obtain ⟨r, hr⟩ : ∃ r, cells.l[j]? = some r := ⟨_, List.getElem?_eq_getElem (by omega)⟩
    have hrm := List.mem_of_getElem? hr
    have hrlen := hrl r hrm
    have e2 : IntKind.i64.wrap ((j : Int) + 1) = ((j + 1 : Nat) : Int) := by rw [w64 (by omega) (by omega)]; omega
    obtain ⟨v, f3', e3, w1, w2, w3⟩ := hoH.fit (j := 3) (u := slm Measure.enc (some X)) rfl
    cases e3
    obtain ⟨b, off, cap, ds, w, fw, rfl, k1, k2, k3, k4, k5, k6, k7⟩ := slot_put (d := 5) (j := 21) (u := slm Cell.enc m.cl.cells) row_Measure (by decide) w1 (show (Sl.l (some X))[j]? = some m.cl from hX2 j m (Nat.le_refl _) hm) rfl
    try simp only [l_some] at k2
    have hjX : j < X.length := by omega
    have hbH := h_lt k1
    have m1 : (48 : Int) * ((r.l.length : Nat) : Int) ≤ 140737488355328 := by omega
    have m2 : r.l.length < 2 ^ 40 := by omega
    simp -implicitDefEqProofs (maxDischargeDepth := 12) only [WW,List.replicate,e_splice,if_true,if_false,ite_true,ite_false,true_or,ne_eq,seval,h_putc,beq_self_eq_true,eq_self,exists_eq_left,exists_eq_left', c1, hq', hjX, hr, rowE_c, mksOf, m1, m2]
    refine wp_loop (Inv := fun k t H' => ∃ (jj : Nat) (fp3 : List Nat) (a : AV), jj + k = r.l.length ∧ (∀ c, c < H.next → H'.cells c = H.cells c) ∧ AccX false 4 2 Cell.enc H' a (some ((r.l.take jj).map Cell.cl)) fp3 ∧ (∀ c ∈ fp3, H.next ≤ c) ∧ H.next ≤ H'.next ∧
      ∃ y : Nat → AV, t = [s.enc, .sc (.int .i64 i), p.enc, slm rowE cells, .ptr 0 0, y 5, .ptr 1 0, y 7, .ptr 2 0, .sc (.int .i64 0), .ptr q 0, .sc (.int .i64 F), .sc (.int .i64 j), .ptr b (off + j * 22), a, y 15, y 16, y 17, y 18, y 19, y 20, y 21, y 22, y 23, y 24, y 25, y 26, y 27, y 28, y 29, y 30, y 31, y 32, y 33, y 34, y 35, y 36, y 37, y 38, y 39, y 40, y 41, y 42, y 43, y 44, y 45, y 46, y 47, y 48, y 49, y 50, y 51, y 52, y 53, y 54, y 55, y 56, y 57, y 58, y 59, .ptr q 3, .slice b off X.length cap 22, .sc (.int .i64 s.measures.l.length), .sc (.int .i64 j), y 64, y 65, y 66, y 67, y 68, y 69, y 70, y 71, y 72, y 73, y 74, y 75, y 76, y 77, y 78, rowE r, .sc (.int .i64 r.l.length), .sc (.int .i64 jj), y 82, y 83, y 84, y 85, y 86, y 87, y 88, y 89, y 90, y 91, y 92, y 93, y 94, y 95, y 96, y 97, y 98, y 99, y 100, y 101, y 102, y 103, y 104, y 105, y 106, y 107, y 108, y 109, y 110]) (k := r.l.length) ?_
      ⟨0, [H.next], _, by omega, fun c hc => by rw [c_alloc_ne (by omega)], acc_room (z := [.sc .nils, .sc .nils]) rfl (by rw [h_alloc, if_pos rfl]), fun c hc => by simp only [List.mem_singleton] at hc; omega, by simp only [AHeap.next_alloc]; omega, ex_x rfl⟩
    clear y
    rintro k' t H' ⟨jj, fp3, a, hk', hKp, hE, hfp3, hnx, y, rfl⟩
    by_cases c2 : (jj : Int) < (r.l.length : Int)
    · obtain ⟨e, he⟩ : ∃ y, r.l[jj]? = some y := ⟨_, List.getElem?_eq_getElem (by omega)⟩
      have e3 : IntKind.i64.wrap ((jj : Int) + 1) = ((jj + 1 : Nat) : Int) := by rw [w64 (by omega) (by omega)]; omega
      simp -implicitDefEqProofs (maxDischargeDepth := 12) only [WW,List.replicate,e_splice,if_true,if_false,ite_true,ite_false,true_or,ne_eq,seval,h_putc,beq_self_eq_true,eq_self,exists_eq_left,exists_eq_left', c2, he, e.enc_eq]
      rw [← e.enc_eq]
      refine wA_call (hc _ (by decide)) ((cClone_ok hc e (hct r hrm e (List.mem_of_getElem? he)) _).mono ?_)
      rintro o H3 ⟨cm, fp4, rfl, hom, hlm, honm, hF3, hN3, hK3⟩
      refine ⟨_, rfl, by simp only [k_nil], ?_⟩
      simp only [AHeap.next_alloc, AHeap.next_put] at hF3 hN3
      have hold : ∀ c, c < H'.next → H3.cells c = H'.cells c := fun c hc => by
        rw [hK3 c (by simp only [AHeap.next_alloc, AHeap.next_put]; omega), c_put_ne (by omega), c_alloc_ne (by omega)]
      have hE1 : AccX false 4 2 Cell.enc H3 a (some ((r.l.take jj).map Cell.cl)) fp3 := hE.fr fun c hc => hold c (hE.lts c hc)
      simp -implicitDefEqProofs (maxDischargeDepth := 12) only [WW,List.replicate,e_splice,if_true,if_false,ite_true,ite_false,true_or,ne_eq,seval,h_putc,beq_self_eq_true,eq_self,exists_eq_left,exists_eq_left', hlm, honm, ones_take hlm]
      have apf : Apart fp3 fp4 := fun c hc hc2 => by
        have := hE.lts c hc
        have := hF3 c hc2; omega
      refine wA_app2 row_Cell hE1 (by repeat (first | exact Keep.refl | refine Keep.put (by (try simp only [AHeap.next_alloc, AHeap.next_put]); omega) ?_ | refine Keep.alloc (by (try simp only [AHeap.next_alloc, AHeap.next_put]); omega) ?_)) (by simp) (ys := [e.cl]) (by simp) rfl (asrc_new rfl (by simpa using hlm)) (fp1 := fp4) (by
        have : ([e.cl].flatMap fun y => (Cell.enc y).cells) = (e.cl).enc.cells := by simp
        rw [this]
        exact hom.fr fun c hc => c_alloc_ne (by have := hom.lts c hc; omega)) apf ?_ ?_
      · simp only [Sl.l, Option.getD_some, List.length_map, List.length_take, List.length_cons, List.length_nil]; omega
      intro v' H4 fp' hE' hn4 hk4 hfp4 ho4 hc4
      rw [some_map_succ he] at hE'
      have hfp5 : ∀ c ∈ fp', H.next ≤ c := fun c hc => by
        rcases hfp4 c hc with h | h | h
        · exact hfp3 c h
        · have := hF3 c h; omega
        · omega
      simp -implicitDefEqProofs (maxDischargeDepth := 12) only [WW,List.replicate,e_splice,if_true,if_false,ite_true,ite_false,true_or,ne_eq,seval,h_putc,beq_self_eq_true,eq_self,exists_eq_left,exists_eq_left', e3]
      refine ⟨k' - 1, by omega, jj + 1, fp', v', by omega, fun c hc => ?_, hE', hfp5, by omega, ex_x rfl⟩
      rw [hk4 c (fun h => by have := hfp3 c h; omega) (by omega), hold c (by omega), hKp c hc]
    have hjj : jj = r.l.length := by omega
    subst hjj
    rw [List.take_length] at hE
    rcases hE with ⟨_, h, _⟩ | ⟨bl, capl, cb, rest, fb, l', h5', rfl, h6, h7, h8, h9, h10, h11, rfl⟩
    · cases h
    cases h5'
    have hbl := hfp3 bl (by simp)
    have hbl2 := h_lt h7
    have kb := (hKp b hbH).trans k1
    simp -implicitDefEqProofs (maxDischargeDepth := 12) only [WW,List.replicate,e_splice,if_true,if_false,ite_true,ite_false,true_or,ne_eq,seval,h_putc,beq_self_eq_true,eq_self,exists_eq_left,exists_eq_left', c2, kb, k4]
    have hf3 : ∀ c ∈ f3', c < H.next := fun c hc => hlts c (w2 c hc)
    have hwH' : OwnX false 6 H' w (slm Cell.enc m.cl.cells) fw := k5.frame fun c hc => hKp c (hf3 c (k6 c hc).1)
    have hmcl : m.cl.cells.l.length = m.cells.l.length := by
      have e : m.cl.cells.l = m.cells.l.map Cell.cl := l_of
      rw [e, List.length_map]
    have hmst := hwh2 m (List.mem_of_getElem? hm)
    obtain ⟨v', H6, f6, t1, t2, t3, t4, t5⟩ := ins_own (d := 5) (by' := 48) (i := F) (bv := bl) (m := (r.l.map Cell.cl).length) (cp := capl) (nv := 2) (H := H') (el := r.l.map Cell.cl) (ys := cb) (fx := fb) row_Cell (by decide) hwH' (fun b off len cap n' e => by subst e; exact own_two hwH') (by rw [hmcl, hmst]; exact hFle) h7 rfl (by rw [List.length_append]; omega) (by rw [List.take_left' h8]) (OwnL.mono h10 (by decide))
      (fun c hc hc2 => by have := hf3 c (k6 c hc).1; have := hfp3 c (by simp [hc2]); omega) (fun h => by have := hf3 _ (k6 _ h).1; omega) (by rw [hmcl, hmst, List.length_map]; omega) (by rw [hmcl, hmst, List.length_map]; omega)
    have hei : pol.eff 76 [w, .sc (.int .i64 F), .slice bl 0 (r.l.map Cell.cl).length capl 2] H' = some (v', H6) := by rw [heff]; exact t1
    refine wA_call h76 (ev_eff ins76 hei ⟨_, rfl, by simp only [k_nil], ?_⟩)
    have u : ∀ c, c < H.next → c ∉ fw → H6.cells c = H.cells c := fun c hc hc2 => by rw [t4 c hc2 (by omega), hKp c hc]
    have hbw : b ∉ fw := fun h => (k6 b h).2 rfl
    have kb6 := (u b hbH hbw).trans k1
    simp -implicitDefEqProofs (maxDischargeDepth := 12) only [WW,List.replicate,if_true,if_false,ite_true,ite_false,true_or,ne_eq,seval,beq_self_eq_true,eq_self,exists_eq_left,exists_eq_left', kb6, k2, e2, (own_len t2).2.1, (own_len t2).2.2, os_cons, os_nil]
    have hf6 : ∀ c ∈ f6, c ∈ fw ∨ H.next ≤ c := fun c hc => by
      rcases t3 c hc with h | h | h
      · exact .inl h
      · exact .inr (hfp3 c (by simp [h]))
      · exact .inr (by omega)
    have hb6 : b ∉ f6 := fun h => by
      rcases hf6 b h with h | h
      · exact hbw h
      · omega
    have hput : ∀ (z : Option Blk) c, c ≠ b → (H6.put b z).cells c = H6.cells c := fun z c hc => c_put_ne hc
    obtain ⟨fp', r1, r2⟩ := k7 (insNew F m r) (slm Cell.enc (m.cl.cells.ins F (r.l.map Cell.cl))) rfl (H6.put b (some (.cells (splice ds (off + j * 22 + 21) [v'])))) v' f6 (t2.frame fun c hc => hput _ c (fun e => hb6 (e ▸ hc))) (h_put_self kb6)
      (fun c hc hcb hcw => by rw [hput _ c hcb, u c (hf3 c hc) hcw]) (fun c hc => (hf6 c hc).imp id fun h h' => by have := hf3 c h'; omega) hb6
    obtain ⟨fq, q1, q2⟩ := w3 _ (slm Measure.enc (some (X.set j (insNew F m r)))) _ fp' r1 (fun c hc hc2 => by
      have hcb : c ≠ b := fun e => hc2 (e ▸ k3)
      rw [hput _ c hcb, u c (hlts c hc) (fun h => hc2 (k6 c h).1)]) (fun c hc => by
      rcases r2 c hc with h | h
      · exact .inl h
      · rcases hf6 c h with h | h
        · exact .inl (k6 c h).1
        · exact .inr fun h' => by have := hlts c h'; omega)
    have hbq : b ≠ q := (hfp2 b (w2 b k3)).2
    refine ⟨k - 1, by omega, j + 1, fq, X.set j (insNew F m r), by omega, by rw [List.length_set]; exact hXl, fun c m' r' hc hm' hr' => ?_, fun c m' hc hm' => ?_, ?_, fun c hc => ?_, q1, fun c hc => ?_, by (try simp only [AHeap.next_put]); omega, ex_x rfl⟩
    · rw [List.getElem?_set]
      by_cases e : j = c
      · subst e
        rw [hm] at hm'; rw [hr] at hr'; cases hm'; cases hr'
        rw [if_pos rfl, if_pos hjX]
      · rw [if_neg e]; exact hX1 c m' r' (by omega) hm' hr'
    · rw [List.getElem?_set_ne (by omega)]; exact hX2 c m' (by omega) hm'
    · rw [hput _ q (fun e => hbq e.symm), u q hqn (fun h => (hfp2 q (w2 q (k6 q h).1)).2 rfl)]; exact hq'
    · have h9 := hfp2 b (w2 b k3)
      rw [hput _ c (by omega), u c (by omega) (fun h => by have := hfp2 c (w2 c (k6 c h).1); omega)]; exact h3' c hc
    · rcases q2 c hc with h | h
      · rcases r2 c h with h | h
        · exact hfp2 c (w2 c h)
        · rcases hf6 c h with h | h
          · exact hfp2 c (w2 c (k6 c h).1)
          · omega
      · exact hfp2 c h.1
  have hj : j = s.measures.l.length := by omega
  subst hj
  have hX : X = List.zipWith (insNew F) s.measures.l cells.l := by
    apply List.ext_getElem?
    intro c
    by_cases hc : c < s.measures.l.length
    · obtain ⟨m, hm⟩ : ∃ m, s.measures.l[c]? = some m := ⟨_, List.getElem?_eq_getElem hc⟩
      obtain ⟨r, hr⟩ : ∃ r, cells.l[c]? = some r := ⟨_, List.getElem?_eq_getElem (by omega)⟩
      rw [hX1 c m r hc hm hr, List.getElem?_zipWith, hm, hr]
    · rw [List.getElem?_eq_none (by omega), List.getElem?_eq_none (by simp; omega)]
  subst hX
  obtain ⟨v, f2', e3, w1, w2, w3⟩ := hoH.fit (j := 2) (u := slm Part.enc s.cl.parts) rfl
  cases e3
  have z1 := (h3' 1 (by omega)).trans xA1
  have z2 := (h3' 2 (by omega)).trans xA2
  simp only [p.enc_eq, c_agg] at z1
  simp -implicitDefEqProofs (maxDischargeDepth := 12) only [WW,List.replicate,e_splice,if_true,if_false,ite_true,ite_false,true_or,ne_eq,seval,h_putc,beq_self_eq_true,eq_self,exists_eq_left,exists_eq_left', c1, hq', z1]
  rw [← p.enc_eq]
  refine wA_call (hc _ (by decide)) ((pClone_ok (hc _ (by decide)) p hpt _).mono ?_)
  rintro o H3 ⟨cp, fpp, rfl, hop, hlp, honp, hF3, hN3, hK3⟩
  have y1 := hK3.cells z1 (by omega)
  have y2 := hK3.cells z2 (by omega)
  have yq := hK3.cells hq' (by omega)
  refine ⟨_, rfl, by simp -implicitDefEqProofs (maxDischargeDepth := 12) only [WW,List.replicate,e_splice,if_true,if_false,ite_true,ite_false,true_or,ne_eq,seval,h_putc,beq_self_eq_true,eq_self,exists_eq_left,exists_eq_left', yq, hq'], ?_⟩
  have hlp3 := hop.lts
  have w1' : OwnX false 7 H3 v2 (slm Part.enc s.cl.parts) f2' := w1.frame fun c hc => hK3 c (hlts c (w2 c hc))
  simp -implicitDefEqProofs (maxDischargeDepth := 12) only [WW,List.replicate,e_splice,if_true,if_false,ite_true,ite_false,true_or,ne_eq,seval,h_putc,beq_self_eq_true,eq_self,exists_eq_left,exists_eq_left', hlp, honp, ones_take hlp]
  have hpl : s.cl.parts.l.length = s.parts.l.length := rfl
  obtain ⟨v', H6, f6, t1, t2, t3, t4, t5⟩ := ins_own (d := 6) (by' := 72) (i := i) (bv := H3.next) (m := 1) (cp := 1) (nv := 6) (H := H3.alloc (.cells cp)) (el := [p]) (ys := cp) (fx := fpp) row_Part (by decide) (w1'.frame fun c hc => c_alloc_ne (by have := hlts c (w2 c hc); omega)) hrp (by rw [hpl]; exact h) (by rw [h_alloc, if_pos rfl]) rfl (by omega) (by rw [List.take_of_length_le (by omega)])
    (by
      have : ([p].flatMap fun y => (Part.enc y).cells) = p.enc.cells := by simp
      rw [this]
      exact (OwnL.mono hop (by decide)).fr fun c hc => c_alloc_ne (by have := hlp3 c hc; omega))
    (fun c hc hc2 => by have := hlts c (w2 c hc); have := hF3 c hc2; omega) (fun h => by have := hlts _ (w2 _ h); omega) (by rw [hpl]; omega) (by rw [hpl]; omega)
  have hei : pol.eff 77 [v2, .sc (.int .i64 i), .slice H3.next 0 1 1 6] (H3.alloc (.cells cp)) = some (v', H6) := by rw [heff]; exact t1
  refine wA_call h77 (ev_eff ins77 hei ⟨_, rfl, by simp only [k_nil], ?_⟩)
  simp only [AHeap.next_alloc] at t3 t4 t5
  have u : ∀ c, c < H.next → c ∉ f2' → H6.cells c = H.cells c := fun c hc hc2 => by rw [t4 c hc2 (by omega), c_alloc_ne (by omega), hK3 c hc]
  have nq : ¬ 2 = q := by omega
  have nq' : ¬ q = 2 := by omega
  have u2 := (u 2 (by omega) (fun h => by have := hfp2 _ (w2 _ h); omega)).trans z2
  have uq := (u q hqn (fun h => (hfp2 _ (w2 _ h)).2 rfl)).trans hq'
  have hv4 := (own_len d4).2.1
  have hv5 := (own_len d5).2.1
  have hv3 := (own_len d3).2.1
  simp -implicitDefEqProofs (maxDischargeDepth := 12) only [WW,List.replicate,e_splice,if_true,if_false,ite_true,ite_false,true_or,ne_eq,seval,h_putc,beq_self_eq_true,eq_self,exists_eq_left,exists_eq_left', u2, uq, nq, nq', hv3, hv4, hv5, (own_len t2).2.1, (own_len t2).2.2]
  have hf6 : ∀ c ∈ f6, c ∈ f2' ∨ H.next ≤ c := fun c hc => by
    rcases t3 c hc with h | h | h
    · exact .inl h
    · exact .inr (hF3 c h)
    · exact .inr (by omega)
  have hPP : ∀ x y : Option Blk, ∀ c, c ≠ 2 → c ≠ q → ((H6.put q x).put 2 y).cells c = H6.cells c := fun x y c h1 h2 => by rw [c_put_ne h1, c_put_ne h2]
  obtain ⟨fq, r1, r2⟩ := w3 v' (slm Part.enc (s.cl.parts.ins i [p])) H6 f6 t2 (fun c hc hc2 => u c (hlts c hc) hc2) (fun c hc => (hf6 c hc).imp id fun h h' => by have := hlts c h'; omega)
  refine frz_tup (I := false) (d := 8) (fp := fq) (u := (s.insP i p cells).enc) ?_ (by decide)
  refine ⟨(s.insP i p cells).enc.cells, rfl, ?_⟩
  subst hF
  refine (show OwnL (OwnX false 7) H6 _ (s.insP i p cells).enc.cells fq from r1).fr fun c hc => ?_
  have hcc : c ≠ 2 ∧ c ≠ q := by
    rcases r2 c hc with h | ⟨h, _⟩
    · rcases hf6 c h with h | h
      · have := hfp2 c (w2 c h); exact ⟨by omega, this.2⟩
      · omega
    · have := hfp2 c h; exact ⟨by omega, this.2⟩
  exact hPP _ _ c hcc.1 hcc.2
end Go.Hem
/- Walks: score.Find. -/
set_option maxRecDepth 10000
set_option maxHeartbeats 4000000
set_option linter.unusedSimpArgs false
set_option linter.unusedVariables false
namespace Go.Hem
variable {pol : Pol}
end Go.Hem
/- The law ScoreObjects, by the interpreter. -/
set_option maxRecDepth 10000
set_option maxHeartbeats 4000000
set_option linter.unusedSimpArgs false
set_option linter.unusedVariables false
namespace Go.Hem
end Go.Hem
/- What is small is tame; what is equal up to the kind of an empty list. -/
set_option linter.unusedSimpArgs false
set_option linter.unusedVariables false
namespace Go.Hem
def Voice.small (v : Voice) : Prop := v.events.l.length ≤ 5 ∧ v.tuplets.l.length ≤ 10 ∧ ∀ e ∈ v.events.l, e.tame
def Cell.small (c : Cell) : Prop := c.clefs.l.length ≤ 10 ∧ c.voices.l.length ≤ 3 ∧ ∀ v ∈ c.voices.l, v.small
def Measure.small (m : Measure) : Prop := m.tempi.l.length ≤ 10 ∧ m.cells.l.length ≤ 50 ∧ ∀ c ∈ m.cells.l, c.small
structure Score.small (s : Score) : Prop where
  parts : s.parts.l.length ≤ 40
  staves : ∀ p ∈ s.parts.l, p.staves.l.length ≤ 10
  measures : s.measures.l.length ≤ 20
  meas : ∀ m ∈ s.measures.l, m.small
  spanners : s.spanners.l.length ≤ 10
  last : s.last.l.length ≤ 10
theorem Voice.small.tame {v : Voice} (h : v.small) : v.tame := ⟨by have := h.1; omega, by have := h.2.1; omega, h.2.2⟩
theorem Cell.small.tame {v : Cell} (h : v.small) : v.tame := ⟨by have := h.1; omega, by have := h.2.1; omega, fun v hv => (h.2.2 v hv).tame⟩
theorem Measure.small.tame {v : Measure} (h : v.small) : v.tame := ⟨by have := h.1; omega, by have := h.2.1; omega, fun v hv => (h.2.2 v hv).tame⟩
theorem Score.small.tame {s : Score} (h : s.small) : s.tame := by
  obtain ⟨h1, h2, h3, h4, h5, h6⟩ := h
  exact ⟨by omega, fun p hp => by have := h2 p hp; unfold Part.tame; omega, by omega, fun m hm => (h4 m hm).tame, by omega, by omega⟩
theorem len_staves : ∀ (l : List Staff) st, (objStaves st l).length = l.length
  | [], _ => rfl
  | x :: l, st => by simp [objStaves, len_staves l]
theorem len_parts : ∀ (l : List Part) i st, (∀ p ∈ l, p.staves.l.length ≤ 10) → (objParts i st l).length ≤ 11 * l.length
  | [], _, _, _ => by simp [objParts]
  | x :: l, i, st, h => by
    have := len_parts l (i + 1) (st + x.staves.l.length) fun p hp => h p (by simp [hp])
    have := h x (by simp)
    simp only [objParts, List.length_cons, List.length_append, len_staves]; omega
theorem len_events : ∀ (l : List Event) m c v e, (objEvents m c v e l).length = l.length
  | [], _, _, _, _ => rfl
  | x :: l, m, c, v, e => by simp [objEvents, len_events l]
theorem len_voices : ∀ (l : List Voice) m c v, (∀ p ∈ l, p.small) → (objVoices m c v l).length ≤ 5 * l.length
  | [], _, _, _, _ => by simp [objVoices]
  | x :: l, m, c, v, h => by
    have := len_voices l m c (v + 1) fun p hp => h p (by simp [hp])
    have := (h x (by simp)).1
    simp only [objVoices, List.length_append, List.length_cons, len_events]; omega
theorem len_cells : ∀ (l : List Cell) m c, (∀ p ∈ l, p.small) → (objCells m c l).length ≤ 15 * l.length
  | [], _, _, _ => by simp [objCells]
  | x :: l, m, c, h => by
    have := len_cells l m (c + 1) fun p hp => h p (by simp [hp])
    obtain ⟨_, h1, h2⟩ := h x (by simp)
    have := len_voices x.voices.l m c 0 h2
    simp only [objCells, List.length_append, List.length_cons]; omega
theorem len_measures : ∀ (l : List Measure) m, (∀ p ∈ l, p.small) → (objMeasures m l).length ≤ 751 * l.length
  | [], _, _ => by simp [objMeasures]
  | x :: l, m, h => by
    have := len_measures l (m + 1) fun p hp => h p (by simp [hp])
    obtain ⟨_, h1, h2⟩ := h x (by simp)
    have := len_cells x.cells.l m 0 h2
    simp only [objMeasures, List.length_append, List.length_cons]; omega
theorem len_spanners : ∀ (l : List Spanner) i, (objSpanners i l).length = l.length
  | [], _ => rfl
  | x :: l, i => by simp [objSpanners, len_spanners l]
theorem staves_le : ∀ l : List Part, (∀ p ∈ l, p.staves.l.length ≤ 10) → stavesOf l ≤ 10 * l.length
  | [], _ => by simp [stavesOf]
  | p :: l, h => by
    have := staves_le l fun q hq => h q (by simp [hq])
    have := h p (by simp)
    have e : stavesOf (p :: l) = p.staves.l.length + stavesOf l := by simp [stavesOf]
    simp only [List.length_cons]; omega
theorem Score.small.Tame {s : Score} (h : s.small) : Tame s := by
  obtain ⟨h1, h2, h3, h4, h5, h6⟩ := h
  refine ⟨?_, by have := staves_le _ h2; omega, by omega, by omega, by omega, fun m y hy => ?_, fun m y c q hy hq => ?_, fun m y c q v z hy hq hz => ?_⟩
  · have := len_parts _ 0 0 h2
    have := len_measures _ 0 h4
    have := len_spanners s.spanners.l 0
    simp only [objs, List.length_append]; omega
  · have := (h4 y (List.mem_of_getElem? hy)).2.1; omega
  · have := ((h4 y (List.mem_of_getElem? hy)).2.2 q (List.mem_of_getElem? hq)).2.1; omega
  · have := (((h4 y (List.mem_of_getElem? hy)).2.2 q (List.mem_of_getElem? hq)).2.2 z (List.mem_of_getElem? hz)).1; omega
theorem Score.small_none : Score.none.small := by
  refine ⟨by decide, fun p hp => ?_, by decide, fun p hp => ?_, by decide, by decide⟩
  · simp [Score.none, Sl.l] at hp
  · simp [Score.none, Sl.l] at hp

end Go.Hem
/- The law ScoreSets, by the interpreter. -/
set_option maxRecDepth 10000
set_option maxHeartbeats 4000000
set_option linter.unusedSimpArgs false
set_option linter.unusedVariables false
namespace Go.Hem
variable {pol : Pol}
theorem zero_pv (h28 : pol.pure 28 = true) (hp : pol.pure 99 = true) (hp2 : pol.pure 50 = true) (hp3 : pol.pure 113 = true) (hp4 : pol.pure 68 = true) (a : Score) (ha : a.tame) : Pv prog pol 31 [a.enc] (.sc (.bool (decide (a.cn = Score.none.cn)))) := by
  refine Pv_of' ok31 (by simp only [AV.closedBs, Score.enc_closed, Bool.and_self]) ?_
  simp -implicitDefEqProofs (maxDischargeDepth := 12) only [wpF, cf31, WW,List.replicate,e_splice,if_true,if_false,ite_true,ite_false,true_or,ne_eq,seval,h_putc,beq_self_eq_true,eq_self,exists_eq_left,exists_eq_left', a.enc_eq]
  rw [← a.enc_eq]
  refine wA_pure h28 (same_pv hp hp2 hp3 hp4 a Score.none ha) ?_
  simp -implicitDefEqProofs (maxDischargeDepth := 12) only [WW,List.replicate,e_splice,if_true,if_false,ite_true,ite_false,true_or,ne_eq,seval,h_putc,beq_self_eq_true,eq_self,exists_eq_left,exists_eq_left']
  exact frz_sc
def pures9 : List Nat := [29, 30, 32, 42, 43, 44, 45, 52] ++ pures8
def Cell.none : Cell := ⟨Option.none, Option.none⟩
def Measure.first (m : Measure) : Cell := (m.cells.l[0]?).getD Cell.none
end Go.Hem
/- The law ScoreManyParts, by the interpreter. -/
set_option maxRecDepth 10000
set_option maxHeartbeats 4000000
set_option linter.unusedSimpArgs false
set_option linter.unusedVariables false
namespace Go.Hem
def pures6 : List Nat := [34] ++ pures9
def polI : Pol := { pure := fun f => pures6.contains f, eff := insPol }
theorem polI_ip : IpPol polI := by
  refine ⟨by unfold ClPol; decide, ⟨rfl, rfl, rfl, rfl⟩, rfl, rfl, rfl, rfl, rfl, rfl, rfl⟩
theorem known_run6 : okTrue (xPure (X prog polI memo0 1000) 19 []) = true := by decide +kernel
theorem known6_pv : Pv prog polI 19 [] (.sc (.bool true)) := pv_of_x memo0_ok rfl (okTrue_spec known_run6)
def okIs (v : AV) : XR AV → Bool
  | .ok u => AV.beq u v
  | _ => false
theorem okIs_spec {v : AV} {r : XR AV} (h : okIs v r = true) : r = .ok v := by
  unfold okIs at h
  split at h
  · rw [AV.eq_of_beq _ _ h]
  · cases h
def newS : Score := ⟨⟨#[]⟩, false, some [⟨⟨0, 1⟩, ⟨#[]⟩, ⟨0, 0⟩, some [⟨⟨0, 2⟩, 1⟩]⟩], Option.none, Option.none, some [⟨0, 2⟩]⟩
theorem new_run : okIs newS.enc (xPure (X prog polI memo0 1000) 33 [.sc (.str ⟨#[]⟩), .sc (.int .i64 1)]) = true := by decide +kernel
theorem new_pv : Pv prog polI 33 [.sc (.str ⟨#[]⟩), .sc (.int .i64 1)] newS.enc := pv_of_x memo0_ok rfl (okIs_spec new_run)
structure GoodP (i : Nat) (S : Score) : Prop where
  parts : S.parts.l.length = i
  staves : ∀ p ∈ S.parts.l, p.staves.l.length ≤ 1
  measures : S.measures.l = []
  spanners : S.spanners.l.length ≤ 0
  last : S.last.l.length ≤ 1
theorem GoodP.small {i : Nat} {S : Score} (h : GoodP i S) (hi : i ≤ 33) : S.small := by
  obtain ⟨h1, h2, h3, h4, h5⟩ := h
  exact ⟨by omega, fun p hp => by have := h2 p hp; omega, (by rw [h3]; decide), (fun m hm => by rw [h3] at hm; cases hm), by omega, by omega⟩
theorem staves_one : ∀ {l : List Part}, (∀ p ∈ l, p.staves.l.length ≤ 1) → stavesOf l ≤ l.length
  | [], _ => by simp [stavesOf]
  | p :: l, h => by
    have := staves_one (l := l) fun q hq => h q (by simp [hq])
    have := h p (by simp)
    simp only [stavesOf, List.map_cons, List.sum_cons, List.length_cons] at *
    omega
theorem goodP_new : GoodP 1 newS := ⟨rfl, by intro p hp; simp only [newS, Sl.l, Option.getD_some, List.mem_singleton] at hp; subst hp; decide, rfl, by decide, by decide⟩
def partI (i : Nat) : Part := ⟨⟨0, 2 + i⟩, ⟨#[]⟩, ⟨0, 0⟩, Option.none⟩
theorem goodP_ins {i : Nat} {S : Score} (h : GoodP i S) : GoodP (i + 1) (S.insP 0 (partI i) Option.none) := by
  obtain ⟨h1, h2, h3, h4, h5⟩ := h
  have e : (S.insP 0 (partI i) Option.none).parts.l = partI i :: S.parts.l := by
    show Sl.l (Sl.ins (some S.parts.l) 0 [partI i]) = _
    unfold Sl.ins
    rw [if_neg (by simp)]
    simp [Sl.l]
  refine ⟨by rw [e, List.length_cons, h1], fun p hp => ?_, ?_, h4, h5⟩
  · rw [e] at hp
    rcases List.mem_cons.1 hp with rfl | hp
    · exact Nat.zero_le _
    · exact h2 p hp
  · show List.zipWith _ S.measures.l _ = []
    rw [h3]; rfl
theorem e_rem {k : IntKind} {a b : Int} : bintOf .rem (.sc (.int k a)) (.sc (.int k b)) = if b = 0 then none else some (.sc (.int k (a.tmod b))) := by simp [bintOf]
theorem law6_pv (n : Int) (hn0 : 0 ≤ n) (hn1 : n ≤ 255) : Pv prog polI 6 [.sc (.int .u8 n)] (.sc (.bool true)) := by
  refine Pv_of' ok6 (by simp only [AV.closedBs, AV.closedB, Bool.and_self]) ?_
  obtain ⟨m, hm, hm40⟩ : ∃ m : Nat, IntKind.i64.wrap (n.tmod 40) = (m : Int) ∧ m < 40 := by
    refine ⟨(n % 40).toNat, ?_, by omega⟩
    rw [Int.tmod_eq_emod_of_nonneg hn0, w64 (by omega) (by omega)]; omega
  simp -implicitDefEqProofs (maxDischargeDepth := 12) only [wpF, cf6, WW,List.replicate,e_splice,if_true,if_false,ite_true,ite_false,true_or,ne_eq,seval,h_putc,beq_self_eq_true,eq_self,exists_eq_left,exists_eq_left']
  refine wA_pure rfl new_pv ?_
  have hnew : newS.enc = .agg [.sc (.str newS.title), .sc (.bool newS.written), slm Part.enc newS.parts, slm Measure.enc newS.measures, slm Spanner.enc newS.spanners, slm ID.enc newS.last] := rfl
  generalize hS1 : newS = S1 at hnew
  have hg1 : GoodP 1 S1 := hS1 ▸ goodP_new
  simp -implicitDefEqProofs (maxDischargeDepth := 12) only [WW,List.replicate,e_splice,if_true,if_false,ite_true,ite_false,true_or,ne_eq,seval,h_putc,beq_self_eq_true,eq_self,exists_eq_left,exists_eq_left', hnew]
  refine wp_loop (Inv := fun k t H => ∃ (i : Nat) (S : Score), i + k = 40 ∧ 1 ≤ i ∧ i ≤ 32 ∧ GoodP i S ∧ H.cells 0 = some S.enc.cells ∧ 1 ≤ H.next ∧
    ∃ x : Nat → AV, t = [.sc (.int .u8 n), x 1, .sc (.bool false), .ptr 0 0, .sc (.int .i64 i), x 5, x 6, x 7, x 8, x 9, x 10, x 11, x 12, x 13, x 14, x 15, x 16, x 17, x 18, x 19, x 20, x 21, x 22, x 23, x 24, x 25, x 26, x 27, x 28, x 29, x 30, x 31, x 32, x 33, x 34, x 35, x 36, x 37, x 38, x 39, x 40, x 41, x 42, x 43, x 44, x 45, x 46, x 47, x 48]) (k := 39) ?_
    ⟨1, S1, by omega, by omega, by omega, hg1, ?_, ?_, ex_x rfl⟩
  rotate_left
  · simp -implicitDefEqProofs (maxDischargeDepth := 12) only [WW,List.replicate,e_splice,if_true,if_false,ite_true,ite_false,true_or,ne_eq,seval,h_putc,beq_self_eq_true,eq_self,exists_eq_left,exists_eq_left', S1.enc_eq]
  · simp -implicitDefEqProofs (maxDischargeDepth := 12) only [WW,List.replicate,e_splice,if_true,if_false,ite_true,ite_false,true_or,ne_eq,seval,h_putc,beq_self_eq_true,eq_self,exists_eq_left,exists_eq_left']
  rintro k t H ⟨i, S, hk, hi1, hi2, hG, hH, hN, x, rfl⟩
  have hs := hG.small (by omega)
  have hH' := hH
  simp only [S.enc_eq, c_agg] at hH
  by_cases c1 : (i : Int) < (m : Int)
  · have e2 : IntKind.i64.wrap ((i : Int) + 1) = ((i + 1 : Nat) : Int) := by rw [w64 (by omega) (by omega)]; omega
    have e3 : IntKind.i64.wrap (2 + (i : Int)) = 2 + (i : Int) := by rw [w64 (by omega) (by omega)]
    have q0 : ¬ 0 = H.next := by omega
    have q1 : ¬ H.next = 0 := by omega
    by_cases c2 : i < 32
    · have hst : stavesOf S.parts.l < 1000 := by
        have := staves_one hG.staves
        have := hG.parts
        omega
      have hTg := goodP_ins hG
      have hT := insp_ok polI_ip S hs.tame hs.Tame 0 (partI i) (show (0 : Nat) < _ by decide) Option.none (by omega) (by rw [hG.parts]; omega) (by unfold wholeB; rw [hG.measures]; rfl) (by rw [hG.measures]; rfl) rfl hst (show (0 : Nat) < 1000 by decide) (by intro r hr; cases hr)
      generalize hTT : S.insP 0 (partI i) Option.none = T at hT hTg
      have hTe := T.enc_eq
      have hlen : (T.parts.l.length : Int) = ((i + 1 : Nat) : Int) := by rw [hTg.parts]
      have hlS : ¬ (32 : Int) ≤ (S.parts.l.length : Int) := by rw [hG.parts]; omega
      have hie : ((i + 1 : Nat) : Int) = (i : Int) + 1 := by omega
      simp -implicitDefEqProofs (maxDischargeDepth := 12) only [WW,List.replicate,e_splice,if_true,if_false,ite_true,ite_false,true_or,ne_eq,seval,h_putc,beq_self_eq_true,eq_self,exists_eq_left,exists_eq_left', e_rem, hm, c1, hH, e3]
      try rw [← S.enc_eq]
      refine wA_pure rfl hT ?_
      simp -implicitDefEqProofs (maxDischargeDepth := 12) only [okAV, WW,List.replicate,e_splice,if_true,if_false,ite_true,ite_false,true_or,ne_eq,seval,h_putc,beq_self_eq_true,eq_self,exists_eq_left,exists_eq_left', hTe, hH, hlS, hlen, e2, q0, q1]
      exact ⟨k - 1, by omega, i + 1, T, by omega, by omega, by omega, hTg, by simp only [hTe, c_agg], ex_x rfl⟩
    · have hi : i = 32 := by omega
      have hT := insp_li (pol := polI) S 0 (partI i) Option.none (by omega) (by rw [hG.parts]; omega)
      have hlS : (32 : Int) ≤ (S.parts.l.length : Int) := by rw [hG.parts]; omega
      simp -implicitDefEqProofs (maxDischargeDepth := 12) only [WW,List.replicate,e_splice,if_true,if_false,ite_true,ite_false,true_or,ne_eq,seval,h_putc,beq_self_eq_true,eq_self,exists_eq_left,exists_eq_left', e_rem, hm, c1, hH, e3]
      try rw [← S.enc_eq]
      refine wA_pure rfl hT ?_
      simp -implicitDefEqProofs (maxDischargeDepth := 12) only [erAV, WW,List.replicate,e_splice,if_true,if_false,ite_true,ite_false,true_or,ne_eq,seval,h_putc,beq_self_eq_true,eq_self,exists_eq_left,exists_eq_left', Score.none.enc_eq, hH, hlS, q0, q1]
      refine wA_pure rfl known6_pv ?_
      simp -implicitDefEqProofs (maxDischargeDepth := 12) only [WW,List.replicate,e_splice,if_true,if_false,ite_true,ite_false,true_or,ne_eq,seval,h_putc,beq_self_eq_true,eq_self,exists_eq_left,exists_eq_left', q0, q1]
      have hz := zero_pv (pol := polI) rfl rfl rfl rfl rfl Score.none Score.small_none.tame
      rw [decide_eq_true rfl] at hz
      refine wA_pure rfl hz ?_
      simp -implicitDefEqProofs (maxDischargeDepth := 12) only [WW,List.replicate,e_splice,if_true,if_false,ite_true,ite_false,true_or,ne_eq,seval,h_putc,beq_self_eq_true,eq_self,exists_eq_left,exists_eq_left']
      exact frz_sc
  · simp -implicitDefEqProofs (maxDischargeDepth := 12) only [WW,List.replicate,e_splice,if_true,if_false,ite_true,ite_false,true_or,ne_eq,seval,h_putc,beq_self_eq_true,eq_self,exists_eq_left,exists_eq_left', e_rem, hm, c1]
    refine wA_pure rfl known6_pv ?_
    simp -implicitDefEqProofs (maxDischargeDepth := 12) only [WW,List.replicate,e_splice,if_true,if_false,ite_true,ite_false,true_or,ne_eq,seval,h_putc,beq_self_eq_true,eq_self,exists_eq_left,exists_eq_left']
    exact frz_sc
end Go.Hem
