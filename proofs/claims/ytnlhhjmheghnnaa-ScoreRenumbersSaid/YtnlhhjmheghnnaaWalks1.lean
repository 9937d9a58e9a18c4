/- Walks. -/
import Derived.Test.YtnlhhjmheghnnaaWalks0
import Derived.Test.YtnlhhjmheghnnaaHemRange
import Derived.Test.YtnlhhjmheghnnaaHemFast
/- Walks: slices.Clone, whatever the elements; event.Clone. -/
set_option maxRecDepth 10000
set_option maxHeartbeats 4000000
set_option linter.unusedSimpArgs false
set_option linter.unusedVariables false
namespace Go.Hem
variable {pol : Pol}
def sclCode (n bytes : Nat) : CF := ⟨.seq (.ops [⟨some 2, none, .mv (.const (.slice none 0 0)), []⟩]) (.seq (.seq (.ops [⟨some 3, none, .mv (.tmp 0), []⟩, ⟨some 4, none, .bnil false .slice (.tmp 3) (.const (.slice none 0 0)), []⟩]) (.cond (.tmp 4) (.seq (.ops [⟨some 2, none, .mv (.const (.slice none 0 0)), []⟩]) .ret) .skip)) (.seq (.ops [⟨some 5, none, .eslice 0 n, []⟩, ⟨some 6, none, .mv (.tmp 0), []⟩, ⟨some 7, none, .app n bytes (.tmp 5) (.tmp 6), []⟩, ⟨some 2, none, .mv (.tmp 7), []⟩]) .ret)), 8, [.tmp 2]⟩
/-- A copy of a list of plain elements: fresh, what lies below stays. -/
def Fresh (H0 H' : AHeap) (fp : List Nat) : Prop := (∀ b ∈ fp, H0.next ≤ b) ∧ H0.next ≤ H'.next ∧ Keep H0.next H0 H'
theorem sclone_ok {α : Type} {f : α → AV} {n bytes : Nat} {fn : FuncId} (row : RowOf n f) (hlen : ∀ x, (f x).cells.length = n) (hsc : ∀ x, (f x).cells.all AV.isSc = true) (hf : compF prog fn = some (sclCode n bytes)) (a : Sl α) (ha : a.l.length < 1000000) (hb : bytes ≤ 1000) (H0 : AHeap) :
    Ev prog pol (.call fn [slm f a]) H0 fun o H' => ∃ v fp, o = .val v ∧ AccX false 1 n f H' v a fp ∧ Fresh H0 H' fp := by
  refine (wpF_ok hf (Q := fun v H' => ∃ fp, AccX false 1 n f H' v a fp ∧ Fresh H0 H' fp) ?_).mono ?_
  rotate_left
  · rintro o H' ⟨v, rfl, fp, h⟩; exact ⟨v, fp, rfl, h⟩
  cases a with
  | none =>
    simp -implicitDefEqProofs (maxDischargeDepth := 12) only [wpF, sclCode, WW,List.replicate,e_splice,if_true,if_false,ite_true,ite_false,true_or,ne_eq,seval,h_putc,beq_self_eq_true,eq_self,exists_eq_left,exists_eq_left', Option.isNone_none, Bool.bne_false]
    exact ⟨[], acc_none, by simp, Nat.le_refl _, Keep.refl⟩
  | some l =>
    simp only [Sl.l, Option.getD_some] at ha
    have e1 : alen (slm f (some l)) = some l.length := by rw [e_alenm]; rfl
    have e2 : asrc n (H0.alloc (.cells [])) (slm f (some l)) l.length = some (l.flatMap fun v => (f v).cells) := by
      rw [e_srcm hlen (by simp [Sl.l])]; simp [Sl.l]
    have hbig : (2 * (0 + l.length) + 1000) * bytes ≤ 2 ^ 47 := by
      have : (2 * (0 + l.length) + 1000) * bytes ≤ (2 * (0 + l.length) + 1000) * 1000 := Nat.mul_le_mul_left _ hb
      omega
    have own : ∀ H, OwnL (OwnX false 1) H (l.flatMap fun x => (f x).cells) (l.flatMap fun x => (f x).cells) [] := fun H => OwnL.scal (by
      simp only [List.all_eq_true]
      intro v hv
      obtain ⟨x, _, hx⟩ := List.mem_flatMap.1 hv
      exact List.all_eq_true.1 (hsc x) v hx)
    by_cases h0 : l = []
    · subst h0
      have e1' : alen (slm f (some [])) = some 0 := rfl
      have e2' : asrc n (H0.alloc (.cells [])) (slm f (some [])) 0 = some [] := by simpa using e2
      have sp : splice [] 0 [] = ([] : List AV) := rfl
      simp -implicitDefEqProofs (maxDischargeDepth := 12) only [wpF, sclCode, WW,List.replicate,e_splice,if_true,if_false,ite_true,ite_false,true_or,ne_eq,seval,h_putc,beq_self_eq_true,eq_self,exists_eq_left,exists_eq_left', Option.isNone_some, Bool.bne_false, appTo, e1', e2', Nat.zero_mul, sp]
      refine ⟨[H0.next], .inr ⟨H0.next, 0, [], [], [], [], rfl, rfl, Nat.le_refl _, ?_, by simp, by simp, .nil, by simp, rfl⟩, by simp, by simp, (by repeat (first | exact Keep.refl | refine Keep.put (by (try simp only [AHeap.next_alloc, AHeap.next_put]); omega) ?_ | refine Keep.alloc (by (try simp only [AHeap.next_alloc, AHeap.next_put]); omega) ?_))⟩
      simp -implicitDefEqProofs (maxDischargeDepth := 12) only [WW,List.replicate,e_splice,if_true,if_false,ite_true,ite_false,true_or,ne_eq,seval,h_putc,beq_self_eq_true,eq_self,exists_eq_left,exists_eq_left']
    · have h1 : ¬ l.length = 0 := by simpa using h0
      have h2 : ¬ (0 + l.length ≤ 0) := by omega
      have h3 : ¬ (l.length ≤ 0) := by omega
      have hb2 := hbig
      rw [Nat.zero_add] at hb2
      simp -implicitDefEqProofs (maxDischargeDepth := 12) only [wpF, sclCode, WW,List.replicate,e_splice,if_true,if_false,ite_true,ite_false,true_or,ne_eq,seval,h_putc,beq_self_eq_true,eq_self,exists_eq_left,exists_eq_left', Option.isNone_some, Bool.bne_false, appTo, e1, e2, h2, h3, hbig, hb2, Nat.zero_mul]
      refine ⟨[H0.next + 1], .inr ⟨H0.next + 1, l.length, _, [], [], l, rfl, rfl, Nat.le_refl _, by simp -implicitDefEqProofs (maxDischargeDepth := 12) only [WW,List.replicate,e_splice,if_true,if_false,ite_true,ite_false,true_or,ne_eq,seval,h_putc,beq_self_eq_true,eq_self,exists_eq_left,exists_eq_left'], flat_len row l, by simp, own _, by simp, rfl⟩, by simp, by simp only [AHeap.next_alloc, AHeap.next_put]; omega, (by repeat (first | exact Keep.refl | refine Keep.put (by (try simp only [AHeap.next_alloc, AHeap.next_put]); omega) ?_ | refine Keep.alloc (by (try simp only [AHeap.next_alloc, AHeap.next_put]); omega) ?_))⟩
theorem row_Spanner' : RowOf 7 Spanner.enc := ⟨by decide, fun _ => ⟨rfl, rfl⟩⟩
theorem sclSpanner_ok (a : Sl Spanner) (ha : a.l.length < 1000000) (H0 : AHeap) : Ev prog pol (.call 84 [slm Spanner.enc a]) H0 fun o H' => ∃ v fp, o = .val v ∧ AccX false 1 7 Spanner.enc H' v a fp ∧ Fresh H0 H' fp :=
  sclone_ok row_Spanner' Spanner.enc_len (fun _ => rfl) (bytes := 56) ok84 a ha (by decide) H0
theorem row_ID' : RowOf 2 ID.enc := ⟨by decide, fun _ => ⟨rfl, rfl⟩⟩
theorem sclID_ok (a : Sl ID) (ha : a.l.length < 1000000) (H0 : AHeap) : Ev prog pol (.call 85 [slm ID.enc a]) H0 fun o H' => ∃ v fp, o = .val v ∧ AccX false 1 2 ID.enc H' v a fp ∧ Fresh H0 H' fp :=
  sclone_ok row_ID' ID.enc_len (fun _ => rfl) (bytes := 16) ok85 a ha (by decide) H0
theorem row_ClefChange' : RowOf 2 ClefChange.enc := ⟨by decide, fun _ => ⟨rfl, rfl⟩⟩
theorem sclClefChange_ok (a : Sl ClefChange) (ha : a.l.length < 1000000) (H0 : AHeap) : Ev prog pol (.call 117 [slm ClefChange.enc a]) H0 fun o H' => ∃ v fp, o = .val v ∧ AccX false 1 2 ClefChange.enc H' v a fp ∧ Fresh H0 H' fp :=
  sclone_ok row_ClefChange' ClefChange.enc_len (fun _ => rfl) (bytes := 16) ok117 a ha (by decide) H0
theorem row_Staff' : RowOf 3 Staff.enc := ⟨by decide, fun _ => ⟨rfl, rfl⟩⟩
theorem sclStaff_ok (a : Sl Staff) (ha : a.l.length < 1000000) (H0 : AHeap) : Ev prog pol (.call 123 [slm Staff.enc a]) H0 fun o H' => ∃ v fp, o = .val v ∧ AccX false 1 3 Staff.enc H' v a fp ∧ Fresh H0 H' fp :=
  sclone_ok row_Staff' Staff.enc_len (fun _ => rfl) (bytes := 24) ok123 a ha (by decide) H0
theorem row_Tempo' : RowOf 3 Tempo.enc := ⟨by decide, fun _ => ⟨rfl, rfl⟩⟩
theorem sclTempo_ok (a : Sl Tempo) (ha : a.l.length < 1000000) (H0 : AHeap) : Ev prog pol (.call 124 [slm Tempo.enc a]) H0 fun o H' => ∃ v fp, o = .val v ∧ AccX false 1 3 Tempo.enc H' v a fp ∧ Fresh H0 H' fp :=
  sclone_ok row_Tempo' Tempo.enc_len (fun _ => rfl) (bytes := 24) ok124 a ha (by decide) H0
theorem row_Head' : RowOf 5 Head.enc := ⟨by decide, fun _ => ⟨rfl, rfl⟩⟩
theorem sclHead_ok (a : Sl Head) (ha : a.l.length < 1000000) (H0 : AHeap) : Ev prog pol (.call 129 [slm Head.enc a]) H0 fun o H' => ∃ v fp, o = .val v ∧ AccX false 1 5 Head.enc H' v a fp ∧ Fresh H0 H' fp :=
  sclone_ok row_Head' Head.enc_len (fun _ => rfl) (bytes := 40) ok129 a ha (by decide) H0
theorem row_Grace' : RowOf 5 Grace.enc := ⟨by decide, fun _ => ⟨rfl, rfl⟩⟩
theorem sclGrace_ok (a : Sl Grace) (ha : a.l.length < 1000000) (H0 : AHeap) : Ev prog pol (.call 130 [slm Grace.enc a]) H0 fun o H' => ∃ v fp, o = .val v ∧ AccX false 1 5 Grace.enc H' v a fp ∧ Fresh H0 H' fp :=
  sclone_ok row_Grace' Grace.enc_len (fun _ => rfl) (bytes := 40) ok130 a ha (by decide) H0
theorem row_Syllable' : RowOf 2 Syllable.enc := ⟨by decide, fun _ => ⟨rfl, rfl⟩⟩
theorem sclSyllable_ok (a : Sl Syllable) (ha : a.l.length < 1000000) (H0 : AHeap) : Ev prog pol (.call 131 [slm Syllable.enc a]) H0 fun o H' => ∃ v fp, o = .val v ∧ AccX false 1 2 Syllable.enc H' v a fp ∧ Fresh H0 H' fp :=
  sclone_ok row_Syllable' Syllable.enc_len (fun _ => rfl) (bytes := 24) ok131 a ha (by decide) H0
theorem nq1 (q : Nat) : (q = q + 1) = False := by simp
theorem nq2 (q : Nat) : (q = q + 2) = False := by simp
theorem mq1 (q : Nat) : (q + 1 = q) = False := by simp
theorem mq2 (q : Nat) : (q + 2 = q) = False := by simp
theorem mq12 (q : Nat) : (q + 1 = q + 2) = False := by simp
theorem mq21 (q : Nat) : (q + 2 = q + 1) = False := by simp
theorem addq (q : Nat) : q + 1 + 1 = q + 2 := rfl
theorem eClone_ok (h1 : pol.pure 129 = false) (h2 : pol.pure 130 = false) (h3 : pol.pure 131 = false) (x : Event) (hx : x.tame) (H0 : AHeap) :
    Ev prog pol (.call 97 [x.enc]) H0 fun o H' => ∃ cs fp, o = .val (.agg cs) ∧ OwnL (OwnX false 2) H' cs x.enc.cells fp ∧ cs.length = 13 ∧ AV.ones cs = true ∧ Fresh H0 H' fp := by
  refine (wpF_ok ok97 (Q := fun v H' => ∃ cs fp, v = .agg cs ∧ OwnL (OwnX false 2) H' cs x.enc.cells fp ∧ cs.length = 13 ∧ AV.ones cs = true ∧ Fresh H0 H' fp) ?_).mono ?_
  rotate_left
  · rintro o H' ⟨v, rfl, cs, fp, rfl, h⟩; exact ⟨cs, fp, rfl, h⟩
  obtain ⟨b1, b2, b3⟩ := hx
  simp -implicitDefEqProofs (maxDischargeDepth := 12) only [wpF, cf97, WW,List.replicate,e_splice,if_true,if_false,ite_true,ite_false,true_or,ne_eq,seval,h_putc,beq_self_eq_true,eq_self,exists_eq_left,exists_eq_left', x.enc_eq, nq1, mq1, addq]
  refine wA_call h1 ((sclHead_ok x.heads b1 _).mono ?_)
  rintro o H1 ⟨v1, fp1, rfl, hA1, hF1, hN1, hK1⟩
  refine ⟨_, rfl, ?_⟩
  simp only [AHeap.next_alloc, addq] at hF1 hN1
  have c0 := hK1 H0.next (by simp only [AHeap.next_alloc]; omega)
  have c1 := hK1 (H0.next + 1) (by simp only [AHeap.next_alloc]; omega)
  simp -implicitDefEqProofs (maxDischargeDepth := 12) only [WW,List.replicate,e_splice,if_true,if_false,ite_true,ite_false,true_or,ne_eq,seval,h_putc,beq_self_eq_true,eq_self,exists_eq_left,exists_eq_left', nq1, mq1, addq] at c0 c1
  simp -implicitDefEqProofs (maxDischargeDepth := 12) only [WW,List.replicate,e_splice,if_true,if_false,ite_true,ite_false,true_or,ne_eq,seval,h_putc,beq_self_eq_true,eq_self,exists_eq_left,exists_eq_left', nq1, mq1, addq, c0, c1]
  have hK0 : Keep H0.next H0 H1 := fun b hb => by
    rw [hK1 b (by simp only [AHeap.next_alloc]; omega)]
    simp only [c_alloc_ne (show b ≠ H0.next by omega), c_alloc_ne (show b ≠ (H0.alloc _).next by simp only [AHeap.next_alloc]; omega)]
  clear hK1
  refine wA_call h2 ((sclGrace_ok x.graces b2 _).mono ?_)
  rintro o H2 ⟨v2, fp2, rfl, hA2, hF2, hN2, hK2⟩
  refine ⟨_, rfl, ?_⟩
  have d0 := (hK2 H0.next (by omega)).trans c0
  have d1 := (hK2 (H0.next + 1) (by omega)).trans c1
  simp -implicitDefEqProofs (maxDischargeDepth := 12) only [WW,List.replicate,e_splice,if_true,if_false,ite_true,ite_false,true_or,ne_eq,seval,h_putc,beq_self_eq_true,eq_self,exists_eq_left,exists_eq_left', nq1, mq1, addq, c0, c1, d0, d1]
  refine wA_call h3 ((sclSyllable_ok x.lyrics b3 _).mono ?_)
  rintro o H3 ⟨v3, fp3, rfl, hA3, hF3, hN3, hK3⟩
  refine ⟨_, rfl, ?_⟩
  have e0 := (hK3 H0.next (by omega)).trans d0
  have e1 := (hK3 (H0.next + 1) (by omega)).trans d1
  simp -implicitDefEqProofs (maxDischargeDepth := 12) only [WW,List.replicate,e_splice,if_true,if_false,ite_true,ite_false,true_or,ne_eq,seval,h_putc,beq_self_eq_true,eq_self,exists_eq_left,exists_eq_left', nq1, mq1, addq, e0, e1, hA1.one, hA1.cells, hA2.one, hA2.cells, hA3.one, hA3.cells]
  have l1 := hA1.lts
  have l2 := hA2.lts
  obtain ⟨g1, o1, k1⟩ := hA1.own row_Head'
  obtain ⟨g2, o2, k2⟩ := hA2.own row_Grace'
  obtain ⟨g3, o3, k3⟩ := hA3.own row_Syllable'
  have w1 : ∀ H', (∀ b, H0.next + 2 ≤ b → H'.cells b = H3.cells b) → OwnX false 2 H' v1 (slm Head.enc x.heads) g1 := fun H' hh => o1.frame fun b hb => by
    have := l1 b (k1 b hb)
    rw [hh b (hF1 b (k1 b hb)), hK3 b (by omega), hK2 b (by omega)]
  have w2 : ∀ H', (∀ b, H0.next + 2 ≤ b → H'.cells b = H3.cells b) → OwnX false 2 H' v2 (slm Grace.enc x.graces) g2 := fun H' hh => o2.frame fun b hb => by
    have := l2 b (k2 b hb)
    have := hF2 b (k2 b hb)
    rw [hh b (by omega), hK3 b (by omega)]
  have w3 : ∀ H', (∀ b, H0.next + 2 ≤ b → H'.cells b = H3.cells b) → OwnX false 2 H' v3 (slm Syllable.enc x.lyrics) g3 := fun H' hh => o3.frame fun b hb => by
    have := hF3 b (k3 b hb)
    rw [hh b (by omega)]
  have ap12 : Apart g1 g2 := fun b hb hb2 => by have := l1 b (k1 b hb); have := hF2 b (k2 b hb2); omega
  have ap13 : Apart g1 g3 := fun b hb hb2 => by have := l1 b (k1 b hb); have := hF3 b (k3 b hb2); omega
  have ap23 : Apart g2 g3 := fun b hb hb2 => by have := l2 b (k2 b hb); have := hF3 b (k3 b hb2); omega
  refine ⟨_, _, rfl, .cons OwnX.scal (.cons OwnX.scal (.cons OwnX.scal (.cons OwnX.scal (.cons OwnX.scal (.cons (w1 _ ?_) (.cons (w2 _ ?_) (.cons OwnX.scal (.cons OwnX.scal (.cons OwnX.scal (.cons (w3 _ ?_) (.cons OwnX.scal (.cons OwnX.scal .nil
    Apart.nil_left) Apart.nil_left) ?_) Apart.nil_left) Apart.nil_left) Apart.nil_left) ?_) ?_) Apart.nil_left) Apart.nil_left) Apart.nil_left) Apart.nil_left) Apart.nil_left, rfl, ?_, ?_, ?_, ?_⟩
  · exact fun b hb => by simp only [c_put_ne (show b ≠ H0.next by omega), c_put_ne (show b ≠ H0.next + 1 by omega)]
  · exact fun b hb => by simp only [c_put_ne (show b ≠ H0.next by omega), c_put_ne (show b ≠ H0.next + 1 by omega)]
  · exact fun b hb => by simp only [c_put_ne (show b ≠ H0.next by omega), c_put_ne (show b ≠ H0.next + 1 by omega)]
  · simpa using Apart.nil_right
  · simpa using ap23
  · simpa using ap12.app_right ap13
  · simp only [AV.ones, List.all_cons, List.all_nil, o_int, hA1.one, hA2.one, hA3.one, Bool.and_self]
  · intro b hb
    simp only [List.nil_append, List.append_nil, List.mem_append] at hb
    rcases hb with h | h | h
    · have := hF1 b (k1 b h); omega
    · have := hF2 b (k2 b h); omega
    · have := hF3 b (k3 b h); omega
  · simp only [AHeap.next_put]; omega
  · intro b hb
    simp only [c_put_ne (show b ≠ H0.next by omega), c_put_ne (show b ≠ H0.next + 1 by omega)]
    rw [hK3 b (by omega), hK2 b (by omega), hK0 b hb]
end Go.Hem
/- Walks: part, voice.Clone. -/
set_option maxRecDepth 10000
set_option maxHeartbeats 4000000
set_option linter.unusedSimpArgs false
set_option linter.unusedVariables false
namespace Go.Hem
variable {pol : Pol}
/-- A copy whose cells own their blocks. -/
def ClPost (d n : Nat) (H0 : AHeap) (u : AV) (o : Out) (H' : AHeap) : Prop := ∃ cs fp, o = .val (.agg cs) ∧ OwnL (OwnX false d) H' cs u.cells fp ∧ cs.length = n ∧ AV.ones cs = true ∧ Fresh H0 H' fp
theorem pClone_ok (h1 : pol.pure 123 = false) (x : Part) (hx : x.tame) (H0 : AHeap) : Ev prog pol (.call 78 [x.enc]) H0 (ClPost 2 6 H0 x.enc) := by
  refine (wpF_ok ok78 (Q := fun v H' => ∃ cs fp, v = .agg cs ∧ OwnL (OwnX false 2) H' cs x.enc.cells fp ∧ cs.length = 6 ∧ AV.ones cs = true ∧ Fresh H0 H' fp) ?_).mono ?_
  rotate_left
  · rintro o H' ⟨v, rfl, cs, fp, rfl, h⟩; exact ⟨cs, fp, rfl, h⟩
  simp -implicitDefEqProofs (maxDischargeDepth := 12) only [wpF, cf78, WW,List.replicate,e_splice,if_true,if_false,ite_true,ite_false,true_or,ne_eq,seval,h_putc,beq_self_eq_true,eq_self,exists_eq_left,exists_eq_left', x.enc_eq, nq1, mq1, addq]
  refine wA_call h1 ((sclStaff_ok x.staves hx _).mono ?_)
  rintro o H1 ⟨v1, fp1, rfl, hA1, hF1, hN1, hK1⟩
  refine ⟨_, rfl, ?_⟩
  simp only [AHeap.next_alloc, addq] at hF1 hN1
  have c0 := hK1 H0.next (by simp only [AHeap.next_alloc]; omega)
  have c1 := hK1 (H0.next + 1) (by simp only [AHeap.next_alloc]; omega)
  simp -implicitDefEqProofs (maxDischargeDepth := 12) only [WW,List.replicate,e_splice,if_true,if_false,ite_true,ite_false,true_or,ne_eq,seval,h_putc,beq_self_eq_true,eq_self,exists_eq_left,exists_eq_left', nq1, mq1, addq] at c0 c1
  simp -implicitDefEqProofs (maxDischargeDepth := 12) only [WW,List.replicate,e_splice,if_true,if_false,ite_true,ite_false,true_or,ne_eq,seval,h_putc,beq_self_eq_true,eq_self,exists_eq_left,exists_eq_left', nq1, mq1, addq, c0, c1, hA1.one, hA1.cells]
  have hK0 : Keep H0.next H0 H1 := fun b hb => by
    rw [hK1 b (by simp only [AHeap.next_alloc]; omega)]
    simp only [c_alloc_ne (show b ≠ H0.next by omega), c_alloc_ne (show b ≠ (H0.alloc _).next by simp only [AHeap.next_alloc]; omega)]
  obtain ⟨g1, o1, k1⟩ := hA1.own row_Staff'
  refine ⟨_, _, rfl, .cons OwnX.scal (.cons OwnX.scal (.cons OwnX.scal (.cons OwnX.scal (.cons OwnX.scal (.cons (o1.frame fun b hb => ?_) .nil Apart.nil_right) Apart.nil_left) Apart.nil_left) Apart.nil_left) Apart.nil_left) Apart.nil_left, rfl, ?_, ?_, ?_, ?_⟩
  · have := hF1 b (k1 b hb)
    simp only [c_put_ne (show b ≠ H0.next by omega), c_put_ne (show b ≠ H0.next + 1 by omega)]
  · simp only [AV.ones, List.all_cons, List.all_nil, o_int, o_str, hA1.one, Bool.and_self]
  · intro b hb
    simp only [List.nil_append, List.append_nil] at hb
    have := hF1 b (k1 b hb); omega
  · simp only [AHeap.next_put]; omega
  · intro b hb
    simp only [c_put_ne (show b ≠ H0.next by omega), c_put_ne (show b ≠ H0.next + 1 by omega)]
    rw [hK0 b hb]
def Voice.cl (v : Voice) : Voice := { events := Sl.of v.events.l, tuplets := Sl.of v.tuplets.l }
theorem of_take_succ {α : Type} {l : List α} {i : Nat} {x : α} (h : l[i]? = some x) : (some ((Sl.of (l.take i)).l ++ [x]) : Sl α) = Sl.of (l.take (i + 1)) := by
  rw [l_of, List.take_add_one, h]
  unfold Sl.of
  rw [if_neg (by simp)]; rfl
theorem ones_take {l : List AV} {n : Nat} (h : l.length = n) : l.take n = l := List.take_of_length_le (by omega)
theorem vClone_ok (h0 : pol.pure 97 = false) (h1 : pol.pure 129 = false) (h2 : pol.pure 130 = false) (h3 : pol.pure 131 = false) (x : Voice) (hx : x.tame) (H0 : AHeap) : Ev prog pol (.call 118 [x.enc]) H0 (ClPost 3 2 H0 x.cl.enc) := by
  refine (wpF_ok ok118 (Q := fun v H' => ∃ cs fp, v = .agg cs ∧ OwnL (OwnX false 3) H' cs x.cl.enc.cells fp ∧ cs.length = 2 ∧ AV.ones cs = true ∧ Fresh H0 H' fp) ?_).mono ?_
  rotate_left
  · rintro o H' ⟨v, rfl, cs, fp, rfl, h⟩; exact ⟨cs, fp, rfl, h⟩
  obtain ⟨b1, b2, b3⟩ := hx
  generalize hq : H0.next = q
  simp -implicitDefEqProofs (maxDischargeDepth := 12) only [wpF, cf118, WW,List.replicate,e_splice,if_true,if_false,ite_true,ite_false,true_or,ne_eq,seval,h_putc,beq_self_eq_true,eq_self,exists_eq_left,exists_eq_left', x.enc_eq, nq1, mq1, addq, hq, nq2, mq2, mq12, mq21]
  refine wp_loop (Inv := fun k t H => ∃ (i : Nat) (fp : List Nat) (a : AV), i + k = x.events.l.length ∧ H.cells q = some [slm Event.enc x.events, slm Tuplet.enc x.tuplets] ∧ H.cells (q + 1) = some [.sc .nils, .sc .nils] ∧
    H.cells (q + 2) = some [a, .sc .nils] ∧ AccX false 2 13 Event.enc H a (Sl.of (x.events.l.take i)) fp ∧ (∀ b ∈ fp, q + 3 ≤ b) ∧ q + 3 ≤ H.next ∧ Keep q H0 H ∧
    ∃ y : Nat → AV, t = [.agg [slm Event.enc x.events, slm Tuplet.enc x.tuplets], .ptr q 0, .ptr (q + 1) 0, .ptr (q + 2) 0, y 4, y 5, y 6, slm Event.enc x.events, .sc (.int .i64 x.events.l.length), .sc (.int .i64 i), y 10, y 11, y 12, y 13, y 14, y 15, y 16, y 17, y 18, y 19, y 20, y 21, y 22, y 23, y 24, y 25, y 26, y 27]) (k := x.events.l.length) ?_
    ⟨0, [], _, by omega, ?_, ?_, ?_, acc_none, by simp, ?_, ?_, ex_x rfl⟩
  rotate_left
  · simp -implicitDefEqProofs (maxDischargeDepth := 12) only [WW,List.replicate,e_splice,if_true,if_false,ite_true,ite_false,true_or,ne_eq,seval,h_putc,beq_self_eq_true,eq_self,exists_eq_left,exists_eq_left', nq1, mq1, addq, hq, nq2, mq2, mq12, mq21]
  · simp -implicitDefEqProofs (maxDischargeDepth := 12) only [WW,List.replicate,e_splice,if_true,if_false,ite_true,ite_false,true_or,ne_eq,seval,h_putc,beq_self_eq_true,eq_self,exists_eq_left,exists_eq_left', nq1, mq1, addq, hq, nq2, mq2, mq12, mq21]
  · simp -implicitDefEqProofs (maxDischargeDepth := 12) only [WW,List.replicate,e_splice,if_true,if_false,ite_true,ite_false,true_or,ne_eq,seval,h_putc,beq_self_eq_true,eq_self,exists_eq_left,exists_eq_left', nq1, mq1, addq, hq, nq2, mq2, mq12, mq21]
  · simp only [AHeap.next_alloc, hq]; omega
  · subst hq; exact (by repeat (first | exact Keep.refl | refine Keep.put (by (try simp only [AHeap.next_alloc, AHeap.next_put]); omega) ?_ | refine Keep.alloc (by (try simp only [AHeap.next_alloc, AHeap.next_put]); omega) ?_))
  rintro k t H ⟨i, fp, a, hk, hA, hB, hC, hE, hfp, hN, hKp, y, rfl⟩
  have g0 : ¬ q = H.next := by omega
  have g1 : ¬ q + 1 = H.next := by omega
  have g2 : ¬ q + 2 = H.next := by omega
  have g3 : ¬ H.next = q := by omega
  have g4 : ¬ H.next = q + 1 := by omega
  have g5 : ¬ H.next = q + 2 := by omega
  by_cases c1 : (i : Int) < (x.events.l.length : Int)
  · obtain ⟨e, he⟩ : ∃ y, x.events.l[i]? = some y := ⟨_, List.getElem?_eq_getElem (by omega)⟩
    have e2 : IntKind.i64.wrap ((i : Int) + 1) = ((i + 1 : Nat) : Int) := by rw [w64 (by omega) (by omega)]; omega
    simp -implicitDefEqProofs (maxDischargeDepth := 12) only [WW,List.replicate,e_splice,if_true,if_false,ite_true,ite_false,true_or,ne_eq,seval,h_putc,beq_self_eq_true,eq_self,exists_eq_left,exists_eq_left', hA, hB, hC, c1, he, e.enc_eq, g0, g1, g2, g3, g4, g5]
    rw [← e.enc_eq]
    refine wA_call h0 ((eClone_ok h1 h2 h3 e (b3 e (List.mem_of_getElem? he)) _).mono ?_)
    rintro o H1 ⟨cs, fp1, rfl, ho, hl, hones, hF1, hN1, hK1⟩
    refine ⟨_, rfl, ?_⟩
    simp only [AHeap.next_alloc, AHeap.next_put] at hF1 hN1
    have d0 := hK1 q (by simp only [AHeap.next_alloc, AHeap.next_put]; omega)
    have d1 := hK1 (q + 1) (by simp only [AHeap.next_alloc, AHeap.next_put]; omega)
    have d2 := hK1 (q + 2) (by simp only [AHeap.next_alloc, AHeap.next_put]; omega)
    simp -implicitDefEqProofs (maxDischargeDepth := 12) only [WW,List.replicate,e_splice,if_true,if_false,ite_true,ite_false,true_or,ne_eq,seval,h_putc,beq_self_eq_true,eq_self,exists_eq_left,exists_eq_left', g0, g1, g2, g3, g4, g5, hA, hB, hC] at d0 d1 d2
    have hE1 : AccX false 2 13 Event.enc H1 a (Sl.of (x.events.l.take i)) fp := hE.fr fun b hb => by
      have := hE.lts b hb
      rw [hK1 b (by simp only [AHeap.next_alloc, AHeap.next_put]; omega), c_put_ne (by omega), c_alloc_ne (by omega)]
    have hK2 : Keep q H0 H1 := fun b hb => by
      rw [hK1 b (by simp only [AHeap.next_alloc, AHeap.next_put]; omega), c_put_ne (by omega), c_alloc_ne (by omega), hKp b hb]
    simp -implicitDefEqProofs (maxDischargeDepth := 12) only [WW,List.replicate,e_splice,if_true,if_false,ite_true,ite_false,true_or,ne_eq,seval,h_putc,beq_self_eq_true,eq_self,exists_eq_left,exists_eq_left', g0, g1, g2, g3, g4, g5, hA, hB, hC, d0, d1, d2, hl, hones, ones_take hl]
    have apf : Apart fp fp1 := fun b hb hb2 => by
      have := hE.lts b hb
      have := hF1 b hb2; omega
    refine wA_app2 row_Event hE1 (by repeat (first | exact Keep.refl | refine Keep.put (by (try simp only [AHeap.next_alloc, AHeap.next_put]); omega) ?_ | refine Keep.alloc (by (try simp only [AHeap.next_alloc, AHeap.next_put]); omega) ?_)) (by simp) (ys := [e]) (by simp) rfl (asrc_new rfl (by simpa using hl)) (fp1 := fp1) (by
      have : ([e].flatMap fun y => (Event.enc y).cells) = e.enc.cells := by simp
      rw [this]
      exact ho.fr fun b hb => c_alloc_ne (by have := ho.lts b hb; omega)) apf ?_ ?_
    · rw [l_of]; simp only [List.length_take, List.length_cons, List.length_nil]; omega
    intro v' H2 fp' hE' hn2 hk2 hfp2 ho2 hc2
    rw [of_take_succ he] at hE'
    have k0 := (hk2 q (fun h => by have := hfp q h; omega) (by omega)).trans d0
    have k1 := (hk2 (q + 1) (fun h => by have := hfp _ h; omega) (by omega)).trans d1
    have k2 := (hk2 (q + 2) (fun h => by have := hfp _ h; omega) (by omega)).trans d2
    have hfp3 : ∀ b ∈ fp', q + 3 ≤ b := fun b hb => by
      rcases hfp2 b hb with h | h | h
      · exact hfp b h
      · have := hF1 b h; omega
      · omega
    simp -implicitDefEqProofs (maxDischargeDepth := 12) only [WW,List.replicate,e_splice,if_true,if_false,ite_true,ite_false,true_or,ne_eq,seval,h_putc,beq_self_eq_true,eq_self,exists_eq_left,exists_eq_left', e2, k0, k1, k2, ho2, hc2, nq2, mq2, mq12, mq21, nq1, mq1]
    refine ⟨k - 1, by omega, i + 1, fp', v', by omega, rfl, hE'.fr fun b hb => h_put_ne (by have := hfp3 b hb; omega), hfp3, by omega, fun b hb => ?_, ex_x rfl⟩
    rw [h_put_ne (by omega), hk2 b (fun h => by have := hfp b h; omega) (by omega), hK2 b hb]
  · have hi : i = x.events.l.length := by omega
    subst hi
    rw [List.take_length] at hE
    have ea : alen (slm Tuplet.enc x.tuplets) = some x.tuplets.l.length := e_alenm
    have es : ∀ H, asrc 4 H (slm Tuplet.enc x.tuplets) x.tuplets.l.length = some (x.tuplets.l.flatMap fun v => (Tuplet.enc v).cells) := fun H => by
      rw [e_srcm Tuplet.enc_len (Nat.le_refl _), List.take_length]
    have hbig : (2 * x.tuplets.l.length + 1000) * 32 ≤ 2 ^ 47 := by omega
    obtain ⟨g, og, kg⟩ := hE.own row_Event
    by_cases h0 : x.tuplets.l = []
    · have h0' : x.tuplets.l.length = 0 := by rw [h0]; rfl
      have es0 : ∀ H, asrc 4 H (slm Tuplet.enc x.tuplets) 0 = some [] := fun H => by have := es H; rw [h0'] at this; rw [this, h0]; rfl
      simp -implicitDefEqProofs (maxDischargeDepth := 12) only [WW,List.replicate,e_splice,if_true,if_false,ite_true,ite_false,true_or,ne_eq,seval,h_putc,beq_self_eq_true,eq_self,exists_eq_left,exists_eq_left', hA, hB, hC, c1, appTo, ea, es0, h0', hE.one, hE.cells, nq1, nq2, mq1, mq2, mq12, mq21]
      refine ⟨_, _, rfl, .cons (og.frame fun b hb => ?_) (.cons (f := []) ?_ .nil Apart.nil_right) (by simpa using Apart.nil_right), rfl, ?_, ?_, ?_, ?_⟩
      · have := hfp b (kg b hb)
        simp only [c_put_ne (show b ≠ q + 2 by omega), c_put_ne (show b ≠ q + 1 by omega)]
      · have e : slm Tuplet.enc x.cl.tuplets = .sc .nils := by show slm Tuplet.enc (Sl.of x.tuplets.l) = _; rw [h0]; rfl
        rw [e]; exact OwnX.scal
      · simp only [AV.ones, List.all_cons, List.all_nil, hE.one, o_nils, Bool.and_self]
      · intro b hb
        simp only [List.append_nil] at hb
        have := hfp b (kg b hb); omega
      · simp only [AHeap.next_put]; omega
      · intro b hb
        simp only [c_put_ne (show b ≠ q + 2 by omega), c_put_ne (show b ≠ q + 1 by omega)]
        exact hKp b (by omega)
    · have h1' : ¬ x.tuplets.l.length = 0 := by simpa using h0
      have row4 : RowOf 4 Tuplet.enc := ⟨by decide, fun _ => ⟨rfl, rfl⟩⟩
      simp -implicitDefEqProofs (maxDischargeDepth := 12) only [WW,List.replicate,e_splice,if_true,if_false,ite_true,ite_false,true_or,ne_eq,seval,h_putc,beq_self_eq_true,eq_self,exists_eq_left,exists_eq_left', hA, hB, hC, c1, appTo, ea, es, h1', hbig, hE.one, hE.cells, nq1, nq2, mq1, mq2, mq12, mq21, g0, g1, g2, g3, g4, g5]
      have hT : AccX false 1 4 Tuplet.enc (H.alloc (.cells (x.tuplets.l.flatMap fun v => (Tuplet.enc v).cells))) (.slice H.next 0 x.tuplets.l.length x.tuplets.l.length 4) (Sl.of x.tuplets.l) [H.next] :=
        .inr ⟨H.next, _, _, [], [], x.tuplets.l, by unfold Sl.of; rw [if_neg (by simpa using h0)], rfl, Nat.le_refl _, by simp -implicitDefEqProofs (maxDischargeDepth := 12) only [WW,List.replicate,e_splice,if_true,if_false,ite_true,ite_false,true_or,ne_eq,seval,h_putc,beq_self_eq_true,eq_self,exists_eq_left,exists_eq_left'], flat_len row4 _, by simp, OwnL.scal (by
          simp only [List.all_eq_true]
          intro v hv
          obtain ⟨z, _, hz⟩ := List.mem_flatMap.1 hv
          have : (Tuplet.enc z).cells.all AV.isSc = true := rfl
          exact List.all_eq_true.1 this v hz), by simp, rfl⟩
      obtain ⟨gt, ot, kt⟩ := hT.own row4
      refine ⟨_, _, rfl, .cons (og.frame fun b hb => ?_) (.cons ((ot.mono (by decide)).frame fun b hb => ?_) .nil Apart.nil_right) ?_, rfl, ?_, ?_, ?_, ?_⟩
      · have := hfp b (kg b hb)
        have := hE.lts b (kg b hb)
        simp only [c_put_ne (show b ≠ q + 2 by omega), c_put_ne (show b ≠ q + 1 by omega), c_alloc_ne (show b ≠ H.next by omega)]
      · have := kt b hb
        simp only [List.mem_singleton] at this
        simp only [c_put_ne (show b ≠ q + 2 by omega), c_put_ne (show b ≠ q + 1 by omega)]
      · intro b hb hb2
        simp only [List.append_nil] at hb2
        have := hE.lts b (kg b hb)
        have := kt b hb2
        simp only [List.mem_singleton] at this
        omega
      · simp only [AV.ones, List.all_cons, List.all_nil, hE.one, o_slice, Bool.and_self]
      · intro b hb
        simp only [List.append_nil, List.mem_append] at hb
        rcases hb with h | h
        · have := hfp b (kg b h); omega
        · have := kt b h
          simp only [List.mem_singleton] at this
          omega
      · simp only [AHeap.next_put, AHeap.next_alloc]; omega
      · intro b hb
        simp only [c_put_ne (show b ≠ q + 2 by omega), c_put_ne (show b ≠ q + 1 by omega), c_alloc_ne (show b ≠ H.next by omega)]
        exact hKp b (by omega)
end Go.Hem
/- Walks: measure.CloneCell, measure.Clone. -/
set_option maxRecDepth 10000
set_option maxHeartbeats 4000000
set_option linter.unusedSimpArgs false
set_option linter.unusedVariables false
namespace Go.Hem
variable {pol : Pol}
/-- The functions of Clone are run where their results may be changed. -/
def ClPol (pol : Pol) : Prop := ∀ f ∈ [39, 75, 78, 83, 84, 85, 97, 117, 118, 123, 124, 129, 130, 131], pol.pure f = false
def Cell.cl (c : Cell) : Cell := { clefs := c.clefs, voices := Sl.of (c.voices.l.map Voice.cl) }
theorem of_map_succ {α β : Type} {g : α → β} {l : List α} {i : Nat} {x : α} (h : l[i]? = some x) : (some ((Sl.of ((l.take i).map g)).l ++ [g x]) : Sl β) = Sl.of ((l.take (i + 1)).map g) := by
  rw [l_of, List.take_add_one, h]
  unfold Sl.of
  rw [if_neg (by simp)]; simp
theorem ClPost.own {d n : Nat} {H0 H' : AHeap} {u : AV} {o : Out} (h : ClPost d n H0 u o H') : ∃ cs fp, o = .val (.agg cs) ∧ OwnL (OwnX false d) H' cs u.cells fp ∧ cs.length = n ∧ AV.ones cs = true ∧ Fresh H0 H' fp := h
theorem cClone_ok (hc : ClPol pol) (x : Cell) (hx : x.tame) (H0 : AHeap) : Ev prog pol (.call 75 [x.enc]) H0 (ClPost 4 2 H0 x.cl.enc) := by
  refine (wpF_ok ok75 (Q := fun v H' => ∃ cs fp, v = .agg cs ∧ OwnL (OwnX false 4) H' cs x.cl.enc.cells fp ∧ cs.length = 2 ∧ AV.ones cs = true ∧ Fresh H0 H' fp) ?_).mono ?_
  rotate_left
  · rintro o H' ⟨v, rfl, cs, fp, rfl, h⟩; exact ⟨cs, fp, rfl, h⟩
  obtain ⟨b1, b2, b3⟩ := hx
  generalize hq : H0.next = q
  simp -implicitDefEqProofs (maxDischargeDepth := 12) only [wpF, cf75, WW,List.replicate,e_splice,if_true,if_false,ite_true,ite_false,true_or,ne_eq,seval,h_putc,beq_self_eq_true,eq_self,exists_eq_left,exists_eq_left', x.enc_eq, nq1, mq1, addq, hq, nq2, mq2, mq12, mq21]
  refine wA_call (hc _ (by decide)) ((sclClefChange_ok x.clefs b1 _).mono ?_)
  rintro o Hc ⟨vc, fpc, rfl, hAc, hFc, hNc, hKc⟩
  refine ⟨_, rfl, ?_⟩
  simp only [AHeap.next_alloc, addq, hq] at hFc hNc
  have a0 := hKc q (by simp only [AHeap.next_alloc, hq]; omega)
  have a1 := hKc (q + 1) (by simp only [AHeap.next_alloc, hq]; omega)
  simp -implicitDefEqProofs (maxDischargeDepth := 12) only [WW,List.replicate,e_splice,if_true,if_false,ite_true,ite_false,true_or,ne_eq,seval,h_putc,beq_self_eq_true,eq_self,exists_eq_left,exists_eq_left', nq1, mq1, addq, hq, nq2, mq2, mq12, mq21] at a0 a1
  have hK0 : Keep q H0 Hc := fun b hb => by
    rw [hKc b (by simp only [AHeap.next_alloc, hq]; omega)]
    simp only [c_alloc_ne (show b ≠ H0.next by omega), c_alloc_ne (show b ≠ (H0.alloc _).next by simp only [AHeap.next_alloc]; omega)]
  have lc := hAc.lts
  generalize hr : Hc.next = r
  rw [hr] at hNc
  have p0 : ¬ q = r := by omega
  have p1 : ¬ q + 1 = r := by omega
  have p2 : ¬ r = q := by omega
  have p3 : ¬ r = q + 1 := by omega
  simp -implicitDefEqProofs (maxDischargeDepth := 12) only [WW,List.replicate,e_splice,if_true,if_false,ite_true,ite_false,true_or,ne_eq,seval,h_putc,beq_self_eq_true,eq_self,exists_eq_left,exists_eq_left', nq1, mq1, addq, hq, hr, nq2, mq2, mq12, mq21, a0, a1, p0, p1, p2, p3, hAc.one, hAc.cells]
  refine wp_loop (Inv := fun k t H => ∃ (i : Nat) (fp : List Nat) (a : AV), i + k = x.voices.l.length ∧ H.cells q = some [slm ClefChange.enc x.clefs, slm Voice.enc x.voices] ∧ H.cells (q + 1) = some [.sc .nils, .sc .nils] ∧
    H.cells r = some [vc, a] ∧ AccX false 1 2 ClefChange.enc H vc x.clefs fpc ∧ AccX false 3 2 Voice.enc H a (Sl.of ((x.voices.l.take i).map Voice.cl)) fp ∧ (∀ b ∈ fp, r + 1 ≤ b) ∧ r + 1 ≤ H.next ∧ Keep q H0 H ∧
    ∃ y : Nat → AV, t = [.agg [slm ClefChange.enc x.clefs, slm Voice.enc x.voices], .ptr q 0, .ptr (q + 1) 0, .ptr r 0, y 4, y 5, y 6, y 7, y 8, y 9, y 10, slm Voice.enc x.voices, .sc (.int .i64 x.voices.l.length), .sc (.int .i64 i), y 14, y 15, y 16, y 17, y 18, y 19, y 20, y 21, y 22, y 23, y 24, y 25]) (k := x.voices.l.length) ?_
    ⟨0, [], _, by omega, ?_, ?_, ?_, ?_, acc_none, by simp, ?_, ?_, ex_x rfl⟩
  rotate_left
  · simp -implicitDefEqProofs (maxDischargeDepth := 12) only [WW,List.replicate,e_splice,if_true,if_false,ite_true,ite_false,true_or,ne_eq,seval,h_putc,beq_self_eq_true,eq_self,exists_eq_left,exists_eq_left', nq1, mq1, addq, hq, hr, nq2, mq2, mq12, mq21, a0, a1, p0, p1, p2, p3]
  · simp -implicitDefEqProofs (maxDischargeDepth := 12) only [WW,List.replicate,e_splice,if_true,if_false,ite_true,ite_false,true_or,ne_eq,seval,h_putc,beq_self_eq_true,eq_self,exists_eq_left,exists_eq_left', nq1, mq1, addq, hq, hr, nq2, mq2, mq12, mq21, a0, a1, p0, p1, p2, p3]
  · simp -implicitDefEqProofs (maxDischargeDepth := 12) only [WW,List.replicate,e_splice,if_true,if_false,ite_true,ite_false,true_or,ne_eq,seval,h_putc,beq_self_eq_true,eq_self,exists_eq_left,exists_eq_left', nq1, mq1, addq, hq, hr, nq2, mq2, mq12, mq21, a0, a1, p0, p1, p2, p3]
  · exact hAc.fr fun b hb => by have := lc b hb; rw [c_put_ne (by omega), c_alloc_ne (by omega)]
  · simp only [AHeap.next_alloc, AHeap.next_put, hr]; omega
  · intro b hb; rw [c_put_ne (by omega), c_alloc_ne (by omega), hK0 b hb]
  clear a0 a1 hAc
  rintro k t H ⟨i, fp, a, hk, hA, hB, hC, hAc, hE, hfp, hN, hKp, y, rfl⟩
  have g0 : ¬ q = H.next := by omega
  have g1 : ¬ q + 1 = H.next := by omega
  have g2 : ¬ r = H.next := by omega
  have g3 : ¬ H.next = q := by omega
  have g4 : ¬ H.next = q + 1 := by omega
  have g5 : ¬ H.next = r := by omega
  by_cases c1 : (i : Int) < (x.voices.l.length : Int)
  · obtain ⟨e, he⟩ : ∃ y, x.voices.l[i]? = some y := ⟨_, List.getElem?_eq_getElem (by omega)⟩
    have e2 : IntKind.i64.wrap ((i : Int) + 1) = ((i + 1 : Nat) : Int) := by rw [w64 (by omega) (by omega)]; omega
    simp -implicitDefEqProofs (maxDischargeDepth := 12) only [WW,List.replicate,e_splice,if_true,if_false,ite_true,ite_false,true_or,ne_eq,seval,h_putc,beq_self_eq_true,eq_self,exists_eq_left,exists_eq_left', hA, hB, hC, c1, he, e.enc_eq, g0, g1, g2, g3, g4, g5, p0, p1, p2, p3]
    rw [← e.enc_eq]
    refine wA_call (hc _ (by decide)) ((vClone_ok (hc _ (by decide)) (hc _ (by decide)) (hc _ (by decide)) (hc _ (by decide)) e (b3 e (List.mem_of_getElem? he)) _).mono ?_)
    rintro o H1 ⟨cs, fp1, rfl, ho, hl, hones, hF1, hN1, hK1⟩
    refine ⟨_, rfl, ?_⟩
    simp only [AHeap.next_alloc, AHeap.next_put] at hF1 hN1
    have d0 := hK1 q (by simp only [AHeap.next_alloc, AHeap.next_put]; omega)
    have d1 := hK1 (q + 1) (by simp only [AHeap.next_alloc, AHeap.next_put]; omega)
    have d2 := hK1 r (by simp only [AHeap.next_alloc, AHeap.next_put]; omega)
    simp -implicitDefEqProofs (maxDischargeDepth := 12) only [WW,List.replicate,e_splice,if_true,if_false,ite_true,ite_false,true_or,ne_eq,seval,h_putc,beq_self_eq_true,eq_self,exists_eq_left,exists_eq_left', g0, g1, g2, g3, g4, g5, hA, hB, hC] at d0 d1 d2
    have hE1 : AccX false 3 2 Voice.enc H1 a (Sl.of ((x.voices.l.take i).map Voice.cl)) fp := hE.fr fun b hb => by
      have := hE.lts b hb
      rw [hK1 b (by simp only [AHeap.next_alloc, AHeap.next_put]; omega), c_put_ne (by omega), c_alloc_ne (by omega)]
    have hAc1 : AccX false 1 2 ClefChange.enc H1 vc x.clefs fpc := hAc.fr fun b hb => by
      have := lc b hb
      rw [hK1 b (by simp only [AHeap.next_alloc, AHeap.next_put]; omega), c_put_ne (by omega), c_alloc_ne (by omega)]
    have hK2 : Keep q H0 H1 := fun b hb => by
      rw [hK1 b (by simp only [AHeap.next_alloc, AHeap.next_put]; omega), c_put_ne (by omega), c_alloc_ne (by omega), hKp b hb]
    simp -implicitDefEqProofs (maxDischargeDepth := 12) only [WW,List.replicate,e_splice,if_true,if_false,ite_true,ite_false,true_or,ne_eq,seval,h_putc,beq_self_eq_true,eq_self,exists_eq_left,exists_eq_left', g0, g1, g2, g3, g4, g5, hA, hB, hC, d0, d1, d2, hl, hones, ones_take hl]
    have apf : Apart fp fp1 := fun b hb hb2 => by
      have := hE.lts b hb
      have := hF1 b hb2; omega
    refine wA_app2 row_Voice hE1 (by repeat (first | exact Keep.refl | refine Keep.put (by (try simp only [AHeap.next_alloc, AHeap.next_put]); omega) ?_ | refine Keep.alloc (by (try simp only [AHeap.next_alloc, AHeap.next_put]); omega) ?_)) (by simp) (ys := [e.cl]) (by simp) rfl (asrc_new rfl (by simpa using hl)) (fp1 := fp1) (by
      have : ([e.cl].flatMap fun y => (Voice.enc y).cells) = e.cl.enc.cells := by simp
      rw [this]
      exact ho.fr fun b hb => c_alloc_ne (by have := ho.lts b hb; omega)) apf ?_ ?_
    · rw [l_of]; simp only [List.length_map, List.length_take, List.length_cons, List.length_nil]; omega
    intro v' H2 fp' hE' hn2 hk2 hfp2 ho2 hc2
    rw [of_map_succ he] at hE'
    have k0 := (hk2 q (fun h => by have := hfp q h; omega) (by omega)).trans d0
    have k1 := (hk2 (q + 1) (fun h => by have := hfp _ h; omega) (by omega)).trans d1
    have k2 := (hk2 r (fun h => by have := hfp _ h; omega) (by omega)).trans d2
    have hfp3 : ∀ b ∈ fp', r + 1 ≤ b := fun b hb => by
      rcases hfp2 b hb with h | h | h
      · exact hfp b h
      · have := hF1 b h; omega
      · omega
    simp -implicitDefEqProofs (maxDischargeDepth := 12) only [WW,List.replicate,e_splice,if_true,if_false,ite_true,ite_false,true_or,ne_eq,seval,h_putc,beq_self_eq_true,eq_self,exists_eq_left,exists_eq_left', e2, k0, k1, k2, ho2, hc2, nq2, mq2, mq12, mq21, nq1, mq1, p0, p1, p2, p3]
    refine ⟨k - 1, by omega, i + 1, fp', v', by omega, rfl, hAc1.fr fun b hb => ?_, hE'.fr fun b hb => h_put_ne (by have := hfp3 b hb; omega), hfp3, by omega, fun b hb => ?_, ex_x rfl⟩
    · have := lc b hb
      rw [h_put_ne (by omega), hk2 b (fun h => by have := hfp b h; omega) (by omega)]
    rw [h_put_ne (by omega), hk2 b (fun h => by have := hfp b h; omega) (by omega), hK2 b hb]
  · have hi : i = x.voices.l.length := by omega
    subst hi
    rw [List.take_length] at hE
    obtain ⟨g, og, kg⟩ := hE.own row_Voice
    obtain ⟨gc, oc, kc⟩ := hAc.own row_ClefChange'
    simp -implicitDefEqProofs (maxDischargeDepth := 12) only [WW,List.replicate,e_splice,if_true,if_false,ite_true,ite_false,true_or,ne_eq,seval,h_putc,beq_self_eq_true,eq_self,exists_eq_left,exists_eq_left', hA, hB, hC, c1, hE.one, hE.cells, hAc.one, hAc.cells, nq1, nq2, mq1, mq2, mq12, mq21, p0, p1, p2, p3]
    refine ⟨_, _, rfl, .cons ((oc.mono (by decide)).frame fun b hb => ?_) (.cons (og.frame fun b hb => ?_) .nil Apart.nil_right) ?_, rfl, ?_, ?_, ?_, ?_⟩
    · have := hFc b (kc b hb)
      simp only [c_put_ne (show b ≠ q + 1 by omega)]
    · have := hfp b (kg b hb)
      simp only [c_put_ne (show b ≠ q + 1 by omega)]
    · intro b hb hb2
      simp only [List.append_nil] at hb2
      have := lc b (kc b hb)
      have := hfp b (kg b hb2)
      omega
    · simp only [AV.ones, List.all_cons, List.all_nil, hE.one, hAc.one, Bool.and_self]
    · intro b hb
      simp only [List.append_nil, List.mem_append] at hb
      rcases hb with h | h
      · have := hFc b (kc b h); omega
      · have := hfp b (kg b h); omega
    · simp only [AHeap.next_put]; omega
    · intro b hb
      simp only [c_put_ne (show b ≠ q + 1 by omega)]
      exact hKp b (by omega)
end Go.Hem
/- Walks: measure.Clone. -/
set_option maxRecDepth 10000
set_option maxHeartbeats 4000000
set_option linter.unusedSimpArgs false
set_option linter.unusedVariables false
namespace Go.Hem
variable {pol : Pol}
def Measure.cl (m : Measure) : Measure := { m with cells := Sl.of (m.cells.l.map Cell.cl) }
theorem mClone_ok (hc : ClPol pol) (x : Measure) (hx : x.tame) (H0 : AHeap) : Ev prog pol (.call 83 [x.enc]) H0 (ClPost 5 22 H0 x.cl.enc) := by
  refine (wpF_ok ok83 (Q := fun v H' => ∃ cs fp, v = .agg cs ∧ OwnL (OwnX false 5) H' cs x.cl.enc.cells fp ∧ cs.length = 22 ∧ AV.ones cs = true ∧ Fresh H0 H' fp) ?_).mono ?_
  rotate_left
  · rintro o H' ⟨v, rfl, cs, fp, rfl, h⟩; exact ⟨cs, fp, rfl, h⟩
  obtain ⟨b1, b2, b3⟩ := hx
  generalize hq : H0.next = q
  simp -implicitDefEqProofs (maxDischargeDepth := 12) only [wpF, cf83, WW,List.replicate,e_splice,if_true,if_false,ite_true,ite_false,true_or,ne_eq,seval,h_putc,beq_self_eq_true,eq_self,exists_eq_left,exists_eq_left', x.enc_eq, nq1, mq1, addq, hq, nq2, mq2, mq12, mq21]
  refine wA_call (hc _ (by decide)) ((sclTempo_ok x.tempi b1 _).mono ?_)
  rintro o Hc ⟨vc, fpc, rfl, hAc, hFc, hNc, hKc⟩
  refine ⟨_, rfl, ?_⟩
  simp only [AHeap.next_alloc, addq, hq] at hFc hNc
  have a0 := hKc q (by simp only [AHeap.next_alloc, hq]; omega)
  have a1 := hKc (q + 1) (by simp only [AHeap.next_alloc, hq]; omega)
  simp -implicitDefEqProofs (maxDischargeDepth := 12) only [WW,List.replicate,e_splice,if_true,if_false,ite_true,ite_false,true_or,ne_eq,seval,h_putc,beq_self_eq_true,eq_self,exists_eq_left,exists_eq_left', nq1, mq1, addq, hq, nq2, mq2, mq12, mq21] at a0 a1
  have hK0 : Keep q H0 Hc := fun b hb => by
    rw [hKc b (by simp only [AHeap.next_alloc, hq]; omega)]
    simp only [c_alloc_ne (show b ≠ H0.next by omega), c_alloc_ne (show b ≠ (H0.alloc _).next by simp only [AHeap.next_alloc]; omega)]
  have lc := hAc.lts
  simp -implicitDefEqProofs (maxDischargeDepth := 12) only [WW,List.replicate,e_splice,if_true,if_false,ite_true,ite_false,true_or,ne_eq,seval,h_putc,beq_self_eq_true,eq_self,exists_eq_left,exists_eq_left', nq1, mq1, addq, hq, nq2, mq2, mq12, mq21, a0, a1, hAc.one, hAc.cells]
  refine wp_loop (Inv := fun k t H => ∃ (i : Nat) (fp : List Nat) (a : AV), i + k = x.cells.l.length ∧ H.cells q = some [.sc (.int .i64 x.id.site), .sc (.int .i64 x.id.number), .sc (.int .i64 x.metre.count), .sc (.int .i64 x.metre.unit), .sc (.int .i64 x.metre.g0), .sc (.int .i64 x.metre.g1), .sc (.int .i64 x.metre.g2), .sc (.int .i64 x.metre.g3), .sc (.int .i64 x.metre.g4), .sc (.int .i64 x.metre.g5), .sc (.int .i64 x.length), .sc (.int .i64 x.fifths), .sc (.bool x.rstart), .sc (.int .i64 x.rend), .sc (.int .i64 x.endings), .sc (.int .i64 x.jump), .sc (.int .i64 x.labels), .sc (.int .i64 x.swing), .sc (.int .i64 x.brk), .sc (.str x.rehearsal), vc, a] ∧ H.cells (q + 1) = some [.sc (.int .i64 0), .sc (.int .i64 0), .sc (.int .i64 0), .sc (.int .i64 0), .sc (.int .i64 0), .sc (.int .i64 0), .sc (.int .i64 0), .sc (.int .i64 0), .sc (.int .i64 0), .sc (.int .i64 0), .sc (.int .i64 0), .sc (.int .i64 0), .sc (.bool false), .sc (.int .i64 0), .sc (.int .i64 0), .sc (.int .i64 0), .sc (.int .i64 0), .sc (.int .i64 0), .sc (.int .i64 0), .sc (.str ⟨#[]⟩), .sc .nils, .sc .nils] ∧
    AccX false 1 3 Tempo.enc H vc x.tempi fpc ∧ AccX false 4 2 Cell.enc H a (Sl.of ((x.cells.l.take i).map Cell.cl)) fp ∧ (∀ b ∈ fp, Hc.next ≤ b) ∧ Hc.next ≤ H.next ∧ Keep q H0 H ∧
    ∃ y : Nat → AV, t = [.agg [.sc (.int .i64 x.id.site), .sc (.int .i64 x.id.number), .sc (.int .i64 x.metre.count), .sc (.int .i64 x.metre.unit), .sc (.int .i64 x.metre.g0), .sc (.int .i64 x.metre.g1), .sc (.int .i64 x.metre.g2), .sc (.int .i64 x.metre.g3), .sc (.int .i64 x.metre.g4), .sc (.int .i64 x.metre.g5), .sc (.int .i64 x.length), .sc (.int .i64 x.fifths), .sc (.bool x.rstart), .sc (.int .i64 x.rend), .sc (.int .i64 x.endings), .sc (.int .i64 x.jump), .sc (.int .i64 x.labels), .sc (.int .i64 x.swing), .sc (.int .i64 x.brk), .sc (.str x.rehearsal), slm Tempo.enc x.tempi, slm Cell.enc x.cells], .ptr q 0, .ptr (q + 1) 0, slm Cell.enc x.cells, y 4, y 5, y 6, y 7, y 8, y 9, y 10, y 11, y 12, slm Cell.enc x.cells, .sc (.int .i64 x.cells.l.length), .sc (.int .i64 i), y 16, y 17, y 18, y 19, y 20, y 21, y 22, y 23, y 24, y 25, y 26, y 27]) (k := x.cells.l.length) ?_
    ⟨0, [], _, by omega, ?_, ?_, ?_, acc_none, by simp, ?_, ?_, ex_x rfl⟩
  rotate_left
  · simp -implicitDefEqProofs (maxDischargeDepth := 12) only [WW,List.replicate,e_splice,if_true,if_false,ite_true,ite_false,true_or,ne_eq,seval,h_putc,beq_self_eq_true,eq_self,exists_eq_left,exists_eq_left', nq1, mq1, addq, hq, nq2, mq2, mq12, mq21, a0, a1]
  · simp -implicitDefEqProofs (maxDischargeDepth := 12) only [WW,List.replicate,e_splice,if_true,if_false,ite_true,ite_false,true_or,ne_eq,seval,h_putc,beq_self_eq_true,eq_self,exists_eq_left,exists_eq_left', nq1, mq1, addq, hq, nq2, mq2, mq12, mq21, a0, a1]
  · exact hAc.fr fun b hb => by have := hFc b hb; rw [c_put_ne (by omega), c_put_ne (by omega)]
  · simp only [AHeap.next_alloc, AHeap.next_put]; omega
  · intro b hb; rw [c_put_ne (by omega), c_put_ne (by omega), hK0 b hb]
  clear a0 a1 hAc
  rintro k t H ⟨i, fp, a, hk, hA, hB, hAc, hE, hfp, hN, hKp, y, rfl⟩
  have g0 : ¬ q = H.next := by omega
  have g1 : ¬ q + 1 = H.next := by omega
  have g3 : ¬ H.next = q := by omega
  have g4 : ¬ H.next = q + 1 := by omega
  by_cases c1 : (i : Int) < (x.cells.l.length : Int)
  · obtain ⟨e, he⟩ : ∃ y, x.cells.l[i]? = some y := ⟨_, List.getElem?_eq_getElem (by omega)⟩
    have e2 : IntKind.i64.wrap ((i : Int) + 1) = ((i + 1 : Nat) : Int) := by rw [w64 (by omega) (by omega)]; omega
    simp -implicitDefEqProofs (maxDischargeDepth := 12) only [WW,List.replicate,e_splice,if_true,if_false,ite_true,ite_false,true_or,ne_eq,seval,h_putc,beq_self_eq_true,eq_self,exists_eq_left,exists_eq_left', hA, hB, c1, he, e.enc_eq, g0, g1, g3, g4]
    rw [← e.enc_eq]
    refine wA_call (hc _ (by decide)) ((cClone_ok hc e (b3 e (List.mem_of_getElem? he)) _).mono ?_)
    rintro o H1 ⟨cs, fp1, rfl, ho, hl, hones, hF1, hN1, hK1⟩
    refine ⟨_, rfl, ?_⟩
    simp only [AHeap.next_alloc, AHeap.next_put] at hF1 hN1
    have d0 := hK1 q (by simp only [AHeap.next_alloc, AHeap.next_put]; omega)
    have d1 := hK1 (q + 1) (by simp only [AHeap.next_alloc, AHeap.next_put]; omega)
    simp -implicitDefEqProofs (maxDischargeDepth := 12) only [WW,List.replicate,e_splice,if_true,if_false,ite_true,ite_false,true_or,ne_eq,seval,h_putc,beq_self_eq_true,eq_self,exists_eq_left,exists_eq_left', g0, g1, g3, g4, hA, hB] at d0 d1
    have hE1 : AccX false 4 2 Cell.enc H1 a (Sl.of ((x.cells.l.take i).map Cell.cl)) fp := hE.fr fun b hb => by
      have := hE.lts b hb
      rw [hK1 b (by simp only [AHeap.next_alloc, AHeap.next_put]; omega), c_put_ne (by omega), c_alloc_ne (by omega)]
    have hAc1 : AccX false 1 3 Tempo.enc H1 vc x.tempi fpc := hAc.fr fun b hb => by
      have := lc b hb
      rw [hK1 b (by simp only [AHeap.next_alloc, AHeap.next_put]; omega), c_put_ne (by omega), c_alloc_ne (by omega)]
    have hK2 : Keep q H0 H1 := fun b hb => by
      rw [hK1 b (by simp only [AHeap.next_alloc, AHeap.next_put]; omega), c_put_ne (by omega), c_alloc_ne (by omega), hKp b hb]
    simp -implicitDefEqProofs (maxDischargeDepth := 12) only [WW,List.replicate,e_splice,if_true,if_false,ite_true,ite_false,true_or,ne_eq,seval,h_putc,beq_self_eq_true,eq_self,exists_eq_left,exists_eq_left', g0, g1, g3, g4, hA, hB, d0, d1, hl, hones, ones_take hl]
    have apf : Apart fp fp1 := fun b hb hb2 => by
      have := hE.lts b hb
      have := hF1 b hb2; omega
    refine wA_app2 row_Cell hE1 (by repeat (first | exact Keep.refl | refine Keep.put (by (try simp only [AHeap.next_alloc, AHeap.next_put]); omega) ?_ | refine Keep.alloc (by (try simp only [AHeap.next_alloc, AHeap.next_put]); omega) ?_)) (by simp) (ys := [e.cl]) (by simp) rfl (asrc_new rfl (by simpa using hl)) (fp1 := fp1) (by
      have : ([e.cl].flatMap fun y => (Cell.enc y).cells) = e.cl.enc.cells := by simp
      rw [this]
      exact ho.fr fun b hb => c_alloc_ne (by have := ho.lts b hb; omega)) apf ?_ ?_
    · rw [l_of]; simp only [List.length_map, List.length_take, List.length_cons, List.length_nil]; omega
    intro v' H2 fp' hE' hn2 hk2 hfp2 ho2 hc2
    rw [of_map_succ he] at hE'
    have k0 := (hk2 q (fun h => by have := hfp q h; omega) (by omega)).trans d0
    have k1 := (hk2 (q + 1) (fun h => by have := hfp _ h; omega) (by omega)).trans d1
    have hfp3 : ∀ b ∈ fp', Hc.next ≤ b := fun b hb => by
      rcases hfp2 b hb with h | h | h
      · exact hfp b h
      · have := hF1 b h; omega
      · omega
    simp -implicitDefEqProofs (maxDischargeDepth := 12) only [WW,List.replicate,e_splice,if_true,if_false,ite_true,ite_false,true_or,ne_eq,seval,h_putc,beq_self_eq_true,eq_self,exists_eq_left,exists_eq_left', e2, k0, k1, ho2, hc2, nq2, mq2, mq12, mq21, nq1, mq1]
    refine ⟨k - 1, by omega, i + 1, fp', v', by omega, rfl, hAc1.fr fun b hb => ?_, hE'.fr fun b hb => h_put_ne (by have := hfp3 b hb; omega), hfp3, by omega, fun b hb => ?_, ex_x rfl⟩
    · have := lc b hb
      have := hFc b hb
      rw [h_put_ne (by omega), hk2 b (fun h => by have := hfp b h; omega) (by omega)]
    rw [h_put_ne (by omega), hk2 b (fun h => by have := hfp b h; omega) (by omega), hK2 b hb]
  · have hi : i = x.cells.l.length := by omega
    subst hi
    rw [List.take_length] at hE
    obtain ⟨g, og, kg⟩ := hE.own row_Cell
    obtain ⟨gc, oc, kc⟩ := hAc.own row_Tempo'
    simp -implicitDefEqProofs (maxDischargeDepth := 12) only [WW,List.replicate,e_splice,if_true,if_false,ite_true,ite_false,true_or,ne_eq,seval,h_putc,beq_self_eq_true,eq_self,exists_eq_left,exists_eq_left', hA, hB, c1, hE.one, hE.cells, hAc.one, hAc.cells, nq1, nq2, mq1, mq2, mq12, mq21]
    refine ⟨_, _, rfl, (.cons OwnX.scal (.cons OwnX.scal (.cons OwnX.scal (.cons OwnX.scal (.cons OwnX.scal (.cons OwnX.scal (.cons OwnX.scal (.cons OwnX.scal (.cons OwnX.scal (.cons OwnX.scal (.cons OwnX.scal (.cons OwnX.scal (.cons OwnX.scal (.cons OwnX.scal (.cons OwnX.scal (.cons OwnX.scal (.cons OwnX.scal (.cons OwnX.scal (.cons OwnX.scal (.cons OwnX.scal (.cons ((oc.mono (by decide)).frame fun b hb => ?_) (.cons (og.frame fun b hb => ?_) .nil Apart.nil_right) ?_) Apart.nil_left) Apart.nil_left) Apart.nil_left) Apart.nil_left) Apart.nil_left) Apart.nil_left) Apart.nil_left) Apart.nil_left) Apart.nil_left) Apart.nil_left) Apart.nil_left) Apart.nil_left) Apart.nil_left) Apart.nil_left) Apart.nil_left) Apart.nil_left) Apart.nil_left) Apart.nil_left) Apart.nil_left) Apart.nil_left), rfl, ?_, ?_, ?_, ?_⟩
    · have := hFc b (kc b hb)
      simp only [c_put_ne (show b ≠ q + 1 by omega)]
    · have := hfp b (kg b hb)
      simp only [c_put_ne (show b ≠ q + 1 by omega)]
    · intro b hb hb2
      simp only [List.append_nil] at hb2
      have := lc b (kc b hb)
      have := hfp b (kg b hb2)
      omega
    · simp only [AV.ones, List.all_cons, List.all_nil, o_int, o_bool, o_str, hE.one, hAc.one, Bool.and_self]
    · intro b hb
      simp only [List.nil_append, List.append_nil, List.mem_append] at hb
      rcases hb with h | h
      · have := hFc b (kc b h); omega
      · have := hfp b (kg b h); omega
    · simp only [AHeap.next_put]; omega
    · intro b hb
      simp only [c_put_ne (show b ≠ q + 1 by omega)]
      exact hKp b (by omega)
end Go.Hem
/- Walks: score.Clone. -/
set_option maxRecDepth 10000
set_option maxHeartbeats 4000000
set_option linter.unusedSimpArgs false
set_option linter.unusedVariables false
namespace Go.Hem
variable {pol : Pol}
def Score.cl (s : Score) : Score := { s with parts := some s.parts.l, measures := some (s.measures.l.map Measure.cl) }
theorem some_take_succ {α : Type} {l : List α} {i : Nat} {x : α} (h : l[i]? = some x) : (some (Sl.l (some (l.take i)) ++ [x]) : Sl α) = some (l.take (i + 1)) := by
  rw [List.take_add_one, h]; rfl
theorem some_map_succ {α β : Type} {g : α → β} {l : List α} {i : Nat} {x : α} (h : l[i]? = some x) : (some (Sl.l (some ((l.take i).map g)) ++ [g x]) : Sl β) = some ((l.take (i + 1)).map g) := by
  rw [List.take_add_one, h]; simp [Sl.l]
theorem acc_room {α : Type} {f : α → AV} {d n c b : Nat} {H : AHeap} {z : List AV} (hz : z.length = n) (h : H.cells b = some (rep c z)) : AccX false d n f H (.slice b 0 0 c n) (some []) [b] :=
  .inr ⟨b, c, [], rep c z, [], [], rfl, rfl, Nat.zero_le _, by simpa using h, by simp, by rw [len_rep, hz]; simp, .nil, by simp, rfl⟩
theorem sClone_ok (hc : ClPol pol) (x : Score) (hx : x.tame) (H0 : AHeap) : Ev prog pol (.call 39 [x.enc]) H0 (ClPost 7 6 H0 x.cl.enc) := by
  refine (wpF_ok ok39 (Q := fun v H' => ∃ cs fp, v = .agg cs ∧ OwnL (OwnX false 7) H' cs x.cl.enc.cells fp ∧ cs.length = 6 ∧ AV.ones cs = true ∧ Fresh H0 H' fp) ?_).mono ?_
  rotate_left
  · rintro o H' ⟨v, rfl, cs, fp, rfl, h⟩; exact ⟨cs, fp, rfl, h⟩
  obtain ⟨b1, b2, b3, b4, b5, b6⟩ := hx
  have m1 : ((72 : Nat) : Int) * ((x.parts.l.length : Nat) : Int) ≤ 2 ^ 47 := by omega
  have m2 : x.parts.l.length < 2 ^ 40 := by omega
  have m3 : ((216 : Nat) : Int) * ((x.measures.l.length : Nat) : Int) ≤ 2 ^ 47 := by omega
  have m4 : x.measures.l.length < 2 ^ 40 := by omega
  generalize hq : H0.next = q
  simp -implicitDefEqProofs (maxDischargeDepth := 12) only [wpF, cf39, WW,List.replicate,e_splice,if_true,if_false,ite_true,ite_false,true_or,ne_eq,Nat.reduceAdd,Nat.reduceSub,Nat.reduceMul,Nat.reduceLeDiff,Nat.reduceEqDiff,Nat.reduceGT,Nat.reduceLT,Int.reduceLE,Int.reduceLT,Int.reduceToNat,Int.reduceAdd,reduceCtorEq,h_putc,beq_self_eq_true,eq_self,exists_eq_left,exists_eq_left', x.enc_eq, nq1, mq1, addq, nq2, mq2, mq12, mq21, hq, mksOf, m1, m2]
  refine wp_loop (Inv := fun k t H => ∃ (i : Nat) (fp : List Nat) (a : AV), i + k = x.parts.l.length ∧ H.cells q = some [.sc (.str x.title), .sc (.bool x.written), slm Part.enc x.parts, slm Measure.enc x.measures, slm Spanner.enc x.spanners, slm ID.enc x.last] ∧ H.cells (q + 1) = some [.sc (.str ⟨#[]⟩), .sc (.bool false), .sc .nils, .sc .nils, .sc .nils, .sc .nils] ∧
    AccX false 3 6 Part.enc H a (some (x.parts.l.take i)) fp ∧ (∀ b ∈ fp, q + 2 ≤ b) ∧ q + 2 ≤ H.next ∧ Keep q H0 H ∧
    ∃ y : Nat → AV, t = [.agg [.sc (.str x.title), .sc (.bool x.written), slm Part.enc x.parts, slm Measure.enc x.measures, slm Spanner.enc x.spanners, slm ID.enc x.last], .ptr q 0, .ptr (q + 1) 0, a, y 4, y 5, y 6, y 7, y 8, y 9, y 10, y 11, y 12, y 13, slm Part.enc x.parts, .sc (.int .i64 x.parts.l.length), .sc (.int .i64 i), y 17, y 18, y 19, y 20, y 21, y 22, y 23, y 24, y 25, y 26, y 27, y 28, y 29, y 30, y 31, y 32, y 33, y 34, y 35, y 36, y 37, y 38, y 39, y 40, y 41, y 42, y 43, y 44, y 45, y 46, y 47, y 48, y 49, y 50, y 51, y 52, y 53, y 54, y 55]) (k := x.parts.l.length) ?_
    ⟨0, [q + 2], _, by omega, ?_, ?_, ?_, ?_, ?_, ?_, ex_x rfl⟩
  rotate_left
  · simp -implicitDefEqProofs (maxDischargeDepth := 12) only [WW,List.replicate,e_splice,if_true,if_false,ite_true,ite_false,true_or,ne_eq,seval,h_putc,beq_self_eq_true,eq_self,exists_eq_left,exists_eq_left', nq1, mq1, addq, nq2, mq2, mq12, mq21, hq]
  · simp -implicitDefEqProofs (maxDischargeDepth := 12) only [WW,List.replicate,e_splice,if_true,if_false,ite_true,ite_false,true_or,ne_eq,seval,h_putc,beq_self_eq_true,eq_self,exists_eq_left,exists_eq_left', nq1, mq1, addq, nq2, mq2, mq12, mq21, hq]
  · exact acc_room (z := [.sc (.int .i64 0), .sc (.int .i64 0), .sc (.str ⟨#[]⟩), .sc (.int .i64 0), .sc (.int .i64 0), .sc .nils]) rfl (by simp -implicitDefEqProofs (maxDischargeDepth := 12) only [WW,List.replicate,e_splice,if_true,if_false,ite_true,ite_false,true_or,ne_eq,seval,h_putc,beq_self_eq_true,eq_self,exists_eq_left,exists_eq_left', nq1, mq1, addq, nq2, mq2, mq12, mq21, hq])
  · intro b hb; simp only [List.mem_singleton] at hb; omega
  · simp only [AHeap.next_alloc, hq]; omega
  · subst hq; exact (by repeat (first | exact Keep.refl | refine Keep.put (by (try simp only [AHeap.next_alloc, AHeap.next_put]); omega) ?_ | refine Keep.alloc (by (try simp only [AHeap.next_alloc, AHeap.next_put]); omega) ?_))
  rintro k t H ⟨i, fp, a, hk, hA, hB, hE, hfp, hN, hKp, y, rfl⟩
  have g0 : ¬ q = H.next := by omega
  have g1 : ¬ q + 1 = H.next := by omega
  have g3 : ¬ H.next = q := by omega
  have g4 : ¬ H.next = q + 1 := by omega
  by_cases c1 : (i : Int) < (x.parts.l.length : Int)
  · obtain ⟨e, he⟩ : ∃ y, x.parts.l[i]? = some y := ⟨_, List.getElem?_eq_getElem (by omega)⟩
    have e2 : IntKind.i64.wrap ((i : Int) + 1) = ((i + 1 : Nat) : Int) := by rw [w64 (by omega) (by omega)]; omega
    simp -implicitDefEqProofs (maxDischargeDepth := 12) only [WW,List.replicate,e_splice,if_true,if_false,ite_true,ite_false,true_or,ne_eq,seval,h_putc,beq_self_eq_true,eq_self,exists_eq_left,exists_eq_left', hA, hB, c1, he, e.enc_eq, g0, g1, g3, g4]
    rw [← e.enc_eq]
    refine wA_call (hc _ (by decide)) ((pClone_ok (hc _ (by decide)) e (b2 e (List.mem_of_getElem? he)) _).mono ?_)
    rintro o H1 ⟨cs, fp1, rfl, ho0, hl, hones, hF1, hN1, hK1⟩
    have ho := OwnL.mono (d' := 3) ho0 (by decide)
    refine ⟨_, rfl, ?_⟩
    simp only [AHeap.next_alloc, AHeap.next_put] at hF1 hN1
    have d0 := hK1 q (by simp only [AHeap.next_alloc, AHeap.next_put]; omega)
    have d1 := hK1 (q + 1) (by simp only [AHeap.next_alloc, AHeap.next_put]; omega)
    simp -implicitDefEqProofs (maxDischargeDepth := 12) only [WW,List.replicate,e_splice,if_true,if_false,ite_true,ite_false,true_or,ne_eq,seval,h_putc,beq_self_eq_true,eq_self,exists_eq_left,exists_eq_left', g0, g1, g3, g4, hA, hB] at d0 d1
    have hold : ∀ b, b < H.next → H1.cells b = H.cells b := fun b hb => by
      rw [hK1 b (by simp only [AHeap.next_alloc, AHeap.next_put]; omega), c_put_ne (by omega), c_alloc_ne (by omega)]
    have hE1 : AccX false 3 6 Part.enc H1 a (some (x.parts.l.take i)) fp := hE.fr fun b hb => hold b (hE.lts b hb)
    have hK2 : Keep q H0 H1 := fun b hb => by rw [hold b (by omega), hKp b hb]
    simp -implicitDefEqProofs (maxDischargeDepth := 12) only [WW,List.replicate,e_splice,if_true,if_false,ite_true,ite_false,true_or,ne_eq,seval,h_putc,beq_self_eq_true,eq_self,exists_eq_left,exists_eq_left', g0, g1, g3, g4, hA, hB, d0, d1, hl, hones, ones_take hl]
    have apf : Apart fp fp1 := fun b hb hb2 => by
      have := hE.lts b hb
      have := hF1 b hb2; omega
    refine wA_app2 row_Part hE1 (by repeat (first | exact Keep.refl | refine Keep.put (by (try simp only [AHeap.next_alloc, AHeap.next_put]); omega) ?_ | refine Keep.alloc (by (try simp only [AHeap.next_alloc, AHeap.next_put]); omega) ?_)) (by simp) (ys := [e]) (by simp) rfl (asrc_new rfl (by simpa using hl)) (fp1 := fp1) (by
      have : ([e].flatMap fun y => (Part.enc y).cells) = (e).enc.cells := by simp
      rw [this]
      exact ho.fr fun b hb => c_alloc_ne (by have := ho.lts b hb; omega)) apf ?_ ?_
    · simp only [Sl.l, Option.getD_some, List.length_map, List.length_take, List.length_cons, List.length_nil]; omega
    intro v' H2 fp' hE' hn2 hk2 hfp2 ho2 hc2
    rw [some_take_succ he] at hE'
    have k0 := (hk2 q (fun h => by have := hfp q h; omega) (by omega)).trans d0
    have k1 := (hk2 (q + 1) (fun h => by have := hfp _ h; omega) (by omega)).trans d1
    have hfp3 : ∀ b ∈ fp', q + 2 ≤ b := fun b hb => by
      rcases hfp2 b hb with h | h | h
      · exact hfp b h
      · have := hF1 b h; omega
      · omega
    simp -implicitDefEqProofs (maxDischargeDepth := 12) only [WW,List.replicate,e_splice,if_true,if_false,ite_true,ite_false,true_or,ne_eq,seval,h_putc,beq_self_eq_true,eq_self,exists_eq_left,exists_eq_left', e2, k0, k1, ho2, hc2, nq1, mq1, addq, nq2, mq2, mq12, mq21]
    refine ⟨k - 1, by omega, i + 1, fp', v', by omega, hE', hfp3, by omega, fun b hb => ?_, ex_x rfl⟩
    rw [hk2 b (fun h => by have := hfp b h; omega) (by omega), hK2 b hb]
  have hi : i = x.parts.l.length := by omega
  subst hi
  rw [List.take_length] at hE
  have hP := hE
  have hPf := hfp
  have lp := hE.lts
  clear hE hfp
  generalize a = vp at *
  generalize fp = fpp at *
  generalize hr : H.next = r
  rw [hr] at lp
  have hqr : q + 2 ≤ r := by omega
  have p0 : ¬ q = r := by omega
  have p1 : ¬ q + 1 = r := by omega
  simp -implicitDefEqProofs (maxDischargeDepth := 12) only [WW,List.replicate,e_splice,if_true,if_false,ite_true,ite_false,true_or,ne_eq,Nat.reduceAdd,Nat.reduceSub,Nat.reduceMul,Nat.reduceLeDiff,Nat.reduceEqDiff,Nat.reduceGT,Nat.reduceLT,Int.reduceLE,Int.reduceLT,Int.reduceToNat,Int.reduceAdd,reduceCtorEq,h_putc,beq_self_eq_true,eq_self,exists_eq_left,exists_eq_left', hA, hB, c1, hr, p0, p1, mksOf, m3, m4]
  refine wp_loop (Inv := fun k t H => ∃ (i : Nat) (fp : List Nat) (a : AV), i + k = x.measures.l.length ∧ H.cells q = some [.sc (.str x.title), .sc (.bool x.written), slm Part.enc x.parts, slm Measure.enc x.measures, slm Spanner.enc x.spanners, slm ID.enc x.last] ∧ H.cells (q + 1) = some [.sc (.str ⟨#[]⟩), .sc (.bool false), .sc .nils, .sc .nils, .sc .nils, .sc .nils] ∧ AccX false 3 6 Part.enc H vp (some x.parts.l) fpp ∧
    AccX false 5 22 Measure.enc H a (some ((x.measures.l.take i).map Measure.cl)) fp ∧ (∀ b ∈ fp, r ≤ b) ∧ r ≤ H.next ∧ Keep q H0 H ∧
    ∃ y : Nat → AV, t = [.agg [.sc (.str x.title), .sc (.bool x.written), slm Part.enc x.parts, slm Measure.enc x.measures, slm Spanner.enc x.spanners, slm ID.enc x.last], .ptr q 0, .ptr (q + 1) 0, vp, y 4, y 5, a, y 7, y 8, y 9, y 10, y 11, y 12, y 13, y 14, y 15, y 16, y 17, y 18, y 19, y 20, y 21, y 22, y 23, y 24, y 25, y 26, y 27, y 28, y 29, y 30, slm Measure.enc x.measures, .sc (.int .i64 x.measures.l.length), .sc (.int .i64 i), y 34, y 35, y 36, y 37, y 38, y 39, y 40, y 41, y 42, y 43, y 44, y 45, y 46, y 47, y 48, y 49, y 50, y 51, y 52, y 53, y 54, y 55]) (k := x.measures.l.length) ?_
    ⟨0, [r], _, by omega, ?_, ?_, ?_, ?_, ?_, ?_, ?_, ex_x rfl⟩
  rotate_left
  · simp -implicitDefEqProofs (maxDischargeDepth := 12) only [WW,List.replicate,e_splice,if_true,if_false,ite_true,ite_false,true_or,ne_eq,seval,h_putc,beq_self_eq_true,eq_self,exists_eq_left,exists_eq_left', nq1, mq1, addq, nq2, mq2, mq12, mq21, hr, p0, p1, hA, hB]
  · simp -implicitDefEqProofs (maxDischargeDepth := 12) only [WW,List.replicate,e_splice,if_true,if_false,ite_true,ite_false,true_or,ne_eq,seval,h_putc,beq_self_eq_true,eq_self,exists_eq_left,exists_eq_left', nq1, mq1, addq, nq2, mq2, mq12, mq21, hr, p0, p1, hA, hB]
  · exact hP.fr fun b hb => by have := lp b hb; rw [c_alloc_ne (by omega)]
  · exact acc_room (z := [.sc (.int .i64 0), .sc (.int .i64 0), .sc (.int .i64 0), .sc (.int .i64 0), .sc (.int .i64 0), .sc (.int .i64 0), .sc (.int .i64 0), .sc (.int .i64 0), .sc (.int .i64 0), .sc (.int .i64 0), .sc (.int .i64 0), .sc (.int .i64 0), .sc (.bool false), .sc (.int .i64 0), .sc (.int .i64 0), .sc (.int .i64 0), .sc (.int .i64 0), .sc (.int .i64 0), .sc (.int .i64 0), .sc (.str ⟨#[]⟩), .sc .nils, .sc .nils]) rfl (by simp -implicitDefEqProofs (maxDischargeDepth := 12) only [WW,List.replicate,e_splice,if_true,if_false,ite_true,ite_false,true_or,ne_eq,seval,h_putc,beq_self_eq_true,eq_self,exists_eq_left,exists_eq_left', nq1, mq1, addq, nq2, mq2, mq12, mq21, hr])
  · intro b hb; simp only [List.mem_singleton] at hb; omega
  · simp only [AHeap.next_alloc, hr]; omega
  · intro b hb; rw [c_alloc_ne (by omega), hKp b hb]
  clear hA hB hP hN hKp hk c1
  rintro k t H ⟨i, fp, a, hk, hA, hB, hP, hE, hfp, hN, hKp, y, rfl⟩
  have g0 : ¬ q = H.next := by omega
  have g1 : ¬ q + 1 = H.next := by omega
  have g3 : ¬ H.next = q := by omega
  have g4 : ¬ H.next = q + 1 := by omega
  by_cases c1 : (i : Int) < (x.measures.l.length : Int)
  · obtain ⟨e, he⟩ : ∃ y, x.measures.l[i]? = some y := ⟨_, List.getElem?_eq_getElem (by omega)⟩
    have e2 : IntKind.i64.wrap ((i : Int) + 1) = ((i + 1 : Nat) : Int) := by rw [w64 (by omega) (by omega)]; omega
    simp -implicitDefEqProofs (maxDischargeDepth := 12) only [WW,List.replicate,e_splice,if_true,if_false,ite_true,ite_false,true_or,ne_eq,seval,h_putc,beq_self_eq_true,eq_self,exists_eq_left,exists_eq_left', hA, hB, c1, he, e.enc_eq, g0, g1, g3, g4]
    rw [← e.enc_eq]
    refine wA_call (hc _ (by decide)) ((mClone_ok hc e (b4 e (List.mem_of_getElem? he)) _).mono ?_)
    rintro o H1 ⟨cs, fp1, rfl, ho, hl, hones, hF1, hN1, hK1⟩
    refine ⟨_, rfl, ?_⟩
    simp only [AHeap.next_alloc, AHeap.next_put] at hF1 hN1
    have d0 := hK1 q (by simp only [AHeap.next_alloc, AHeap.next_put]; omega)
    have d1 := hK1 (q + 1) (by simp only [AHeap.next_alloc, AHeap.next_put]; omega)
    simp -implicitDefEqProofs (maxDischargeDepth := 12) only [WW,List.replicate,e_splice,if_true,if_false,ite_true,ite_false,true_or,ne_eq,seval,h_putc,beq_self_eq_true,eq_self,exists_eq_left,exists_eq_left', g0, g1, g3, g4, hA, hB] at d0 d1
    have hold : ∀ b, b < H.next → H1.cells b = H.cells b := fun b hb => by
      rw [hK1 b (by simp only [AHeap.next_alloc, AHeap.next_put]; omega), c_put_ne (by omega), c_alloc_ne (by omega)]
    have hE1 : AccX false 5 22 Measure.enc H1 a (some ((x.measures.l.take i).map Measure.cl)) fp := hE.fr fun b hb => hold b (hE.lts b hb)
    have hK2 : Keep q H0 H1 := fun b hb => by rw [hold b (by omega), hKp b hb]
    have hP1 : AccX false 3 6 Part.enc H1 vp (some x.parts.l) fpp := hP.fr fun b hb => hold b (hP.lts b hb)
    simp -implicitDefEqProofs (maxDischargeDepth := 12) only [WW,List.replicate,e_splice,if_true,if_false,ite_true,ite_false,true_or,ne_eq,seval,h_putc,beq_self_eq_true,eq_self,exists_eq_left,exists_eq_left', g0, g1, g3, g4, hA, hB, d0, d1, hl, hones, ones_take hl]
    have apf : Apart fp fp1 := fun b hb hb2 => by
      have := hE.lts b hb
      have := hF1 b hb2; omega
    refine wA_app2 row_Measure hE1 (by repeat (first | exact Keep.refl | refine Keep.put (by (try simp only [AHeap.next_alloc, AHeap.next_put]); omega) ?_ | refine Keep.alloc (by (try simp only [AHeap.next_alloc, AHeap.next_put]); omega) ?_)) (by simp) (ys := [e.cl]) (by simp) rfl (asrc_new rfl (by simpa using hl)) (fp1 := fp1) (by
      have : ([e.cl].flatMap fun y => (Measure.enc y).cells) = (e.cl).enc.cells := by simp
      rw [this]
      exact ho.fr fun b hb => c_alloc_ne (by have := ho.lts b hb; omega)) apf ?_ ?_
    · simp only [Sl.l, Option.getD_some, List.length_map, List.length_take, List.length_cons, List.length_nil]; omega
    intro v' H2 fp' hE' hn2 hk2 hfp2 ho2 hc2
    rw [some_map_succ he] at hE'
    have k0 := (hk2 q (fun h => by have := hfp q h; omega) (by omega)).trans d0
    have k1 := (hk2 (q + 1) (fun h => by have := hfp _ h; omega) (by omega)).trans d1
    have hfp3 : ∀ b ∈ fp', r ≤ b := fun b hb => by
      rcases hfp2 b hb with h | h | h
      · exact hfp b h
      · have := hF1 b h; omega
      · omega
    simp -implicitDefEqProofs (maxDischargeDepth := 12) only [WW,List.replicate,e_splice,if_true,if_false,ite_true,ite_false,true_or,ne_eq,seval,h_putc,beq_self_eq_true,eq_self,exists_eq_left,exists_eq_left', e2, k0, k1, ho2, hc2, nq1, mq1, addq, nq2, mq2, mq12, mq21]
    refine ⟨k - 1, by omega, i + 1, fp', v', by omega, hP1.fr fun b hb => hk2 b (fun h => by have := hfp b h; have := lp b hb; omega) (by have := lp b hb; omega), hE', hfp3, by omega, fun b hb => ?_, ex_x rfl⟩
    rw [hk2 b (fun h => by have := hfp b h; omega) (by omega), hK2 b hb]
  have hi : i = x.measures.l.length := by omega
  subst hi
  rw [List.take_length] at hE
  have lm := hE.lts
  simp -implicitDefEqProofs (maxDischargeDepth := 12) only [WW,List.replicate,e_splice,if_true,if_false,ite_true,ite_false,true_or,ne_eq,seval,h_putc,beq_self_eq_true,eq_self,exists_eq_left,exists_eq_left', hA, hB, c1]
  refine wA_call (hc _ (by decide)) ((sclSpanner_ok x.spanners b5 _).mono ?_)
  rintro o H3 ⟨vs, fps, rfl, hAs, hFs, hNs, hKs⟩
  refine ⟨_, rfl, ?_⟩
  have a0 := (hKs q (by omega)).trans hA
  have a1 := (hKs (q + 1) (by omega)).trans hB
  have ls := hAs.lts
  simp -implicitDefEqProofs (maxDischargeDepth := 12) only [WW,List.replicate,e_splice,if_true,if_false,ite_true,ite_false,true_or,ne_eq,seval,h_putc,beq_self_eq_true,eq_self,exists_eq_left,exists_eq_left', hA, hB, a0, a1]
  refine wA_call (hc _ (by decide)) ((sclID_ok x.last b6 _).mono ?_)
  rintro o H4 ⟨vl, fpl, rfl, hAl, hFl, hNl, hKl⟩
  refine ⟨_, rfl, ?_⟩
  have d0 := (hKl q (by omega)).trans a0
  have d1 := (hKl (q + 1) (by omega)).trans a1
  simp -implicitDefEqProofs (maxDischargeDepth := 12) only [WW,List.replicate,e_splice,if_true,if_false,ite_true,ite_false,true_or,ne_eq,seval,h_putc,beq_self_eq_true,eq_self,exists_eq_left,exists_eq_left', a0, a1, d0, d1, hP.one, hP.cells, hE.one, hE.cells, hAs.one, hAs.cells, hAl.one, hAl.cells, nq1, mq1, addq, nq2, mq2, mq12, mq21]
  obtain ⟨gp, op, kp⟩ := hP.own row_Part
  obtain ⟨gm, om, km⟩ := hE.own row_Measure
  obtain ⟨gs, os, ks⟩ := hAs.own row_Spanner'
  obtain ⟨gl, ol, kl⟩ := hAl.own row_ID'
  have old : ∀ b, b < H.next → H4.cells b = H.cells b := fun b hb => by rw [hKl b (by omega), hKs b hb]
  refine ⟨_, _, rfl, .cons OwnX.scal (.cons OwnX.scal (.cons ((op.mono (by decide)).frame fun b hb => ?_) (.cons ((om.mono (by decide)).frame fun b hb => ?_) (.cons ((os.mono (by decide)).frame fun b hb => ?_) (.cons ((ol.mono (by decide)).frame fun b hb => ?_) .nil Apart.nil_right) ?_) ?_) ?_) Apart.nil_left) Apart.nil_left, rfl, ?_, ?_, ?_, ?_⟩
  · have := hPf b (kp b hb)
    have := lp b (kp b hb)
    simp only [c_put_ne (show b ≠ q by omega), c_put_ne (show b ≠ q + 1 by omega)]
    exact old b (by omega)
  · have := hfp b (km b hb)
    have := lm b (km b hb)
    simp only [c_put_ne (show b ≠ q by omega), c_put_ne (show b ≠ q + 1 by omega)]
    exact old b (by omega)
  · have := hFs b (ks b hb)
    have := ls b (ks b hb)
    simp only [c_put_ne (show b ≠ q by omega), c_put_ne (show b ≠ q + 1 by omega)]
    exact hKl b (by omega)
  · have := hFl b (kl b hb)
    simp only [c_put_ne (show b ≠ q by omega), c_put_ne (show b ≠ q + 1 by omega)]
  · intro b hb hb2
    simp only [List.append_nil] at hb2
    have := ls b (ks b hb)
    have := hFl b (kl b hb2)
    omega
  · intro b hb hb2
    simp only [List.append_nil, List.mem_append] at hb2
    have := lm b (km b hb)
    rcases hb2 with h | h
    · have := hFs b (ks b h); omega
    · have := hFl b (kl b h); omega
  · intro b hb hb2
    simp only [List.append_nil, List.mem_append] at hb2
    have := lp b (kp b hb)
    rcases hb2 with h | h | h
    · have := hfp b (km b h); omega
    · have := hFs b (ks b h); omega
    · have := hFl b (kl b h); omega
  · simp only [AV.ones, List.all_cons, List.all_nil, o_str, o_bool, hP.one, hE.one, hAs.one, hAl.one, Bool.and_self]
  · intro b hb
    simp only [List.nil_append, List.append_nil, List.mem_append] at hb
    rcases hb with h | h | h | h
    · have := hPf b (kp b h); omega
    · have := hfp b (km b h); omega
    · have := hFs b (ks b h); omega
    · have := hFl b (kl b h); omega
  · simp only [AHeap.next_put]; omega
  · intro b hb
    simp only [c_put_ne (show b ≠ q by omega), c_put_ne (show b ≠ q + 1 by omega)]
    rw [old b (by omega), hKp b (by omega)]
end Go.Hem
/- What is written into a copy: numbers over numbers, a text over a text; the rest stays. -/
set_option maxRecDepth 10000
set_option linter.unusedSimpArgs false
set_option linter.unusedVariables false
namespace Go.Hem
variable {pol : Pol}

def Alike (S : Bool) (a b : AV) : Prop := a = b ∨ (∃ x y, a = .sc (.int .i64 x) ∧ b = .sc (.int .i64 y)) ∨ (S = true ∧ ∃ x y, a = .sc (.str x) ∧ b = .sc (.str y))

structure Mut (S : Bool) (fp : List Nat) (H0 H : AHeap) : Prop where
  sh : ∀ b ∈ fp, ∀ cs, H0.cells b = some cs → ∃ cs', H.cells b = some cs' ∧ cs'.length = cs.length ∧ ∀ (j : Nat) v, cs[j]? = some v → ∃ v', cs'[j]? = some v' ∧ Alike S v v'
  keep : ∀ b, b ∉ fp → H.cells b = H0.cells b

theorem Mut.refl {S : Bool} {fp : List Nat} {H : AHeap} : Mut S fp H H := ⟨fun b _ cs h => ⟨cs, h, rfl, fun j v e => ⟨v, e, .inl rfl⟩⟩, fun _ _ => rfl⟩
theorem Mut.text {S : Bool} {fp : List Nat} {H0 H : AHeap} (h : Mut false fp H0 H) : Mut S fp H0 H := by
  refine ⟨fun b hb cs hc => ?_, h.keep⟩
  obtain ⟨cs', h1, h2, h3⟩ := h.sh b hb cs hc
  refine ⟨cs', h1, h2, fun j v e => ?_⟩
  obtain ⟨v', e1, e2⟩ := h3 j v e
  rcases e2 with e2 | e2 | ⟨e2, _⟩
  · exact ⟨v', e1, .inl e2⟩
  · exact ⟨v', e1, .inr (.inl e2)⟩
  · cases e2

theorem OwnL.cell {O : AHeap → AV → AV → List Nat → Prop} {H : AHeap} {vs us : List AV} {fp : List Nat} (h : OwnL O H vs us fp) : ∀ {j : Nat} {u : AV}, us[j]? = some u → ∃ v fp', vs[j]? = some v ∧ O H v u fp' ∧ ∀ b ∈ fp', b ∈ fp := by
  induction h with
  | nil => intro j u h; simp at h
  | cons h1 h2 h3 ih =>
    rename_i v u vs us f g
    intro j w hj
    cases j with
    | zero => simp at hj; subst hj; exact ⟨v, f, by simp, h1, fun b hb => List.mem_append.2 (.inl hb)⟩
    | succ j =>
      obtain ⟨v', fp', a, b, c⟩ := ih (j := j) (u := w) (by simpa using hj)
      exact ⟨v', fp', by simpa using a, b, fun x hx => List.mem_append.2 (.inr (c x hx))⟩

theorem own_len {α : Type} {f : α → AV} {d : Nat} {H : AHeap} {v : AV} {s : Sl α} {fp : List Nat} (h : OwnX false (d + 1) H v (slm f s) fp) : lenOf v = some (.sc (.int .i64 s.l.length)) ∧ v.one = true ∧ v.cells = [v] := by
  cases v <;> simp only [OwnX] at h
  case sc x =>
    obtain ⟨h1, _⟩ := h
    cases s with
    | none => simp only [slm, AV.sc.injEq] at h1; subst h1; exact ⟨rfl, rfl, rfl⟩
    | some l => simp [slm] at h1
  case imm l =>
    obtain ⟨h0, h1, _⟩ := h
    cases s with
    | none => simp [slm] at h1
    | some m => simp only [slm, AV.imm.injEq] at h1; subst h1; exact ⟨by simp [lenOf, Sl.l], rfl, rfl⟩
  case agg cs =>
    obtain ⟨us, h1, _⟩ := h
    cases s <;> simp [slm] at h1
  case slice b off len cap n =>
    refine ⟨?_, rfl, rfl⟩
    rcases h with ⟨h0, h1, _⟩ | ⟨cs, us, fp', _, _, _, _, ho, _, _, h1, _⟩
    · cases s with
      | none => simp [slm] at h1
      | some m => simp only [slm, AV.imm.injEq] at h1; subst h0; have : m = [] := by simpa using h1
                  subst this; rfl
    · cases s with
      | none => simp [slm] at h1
      | some m =>
        simp only [slm, AV.imm.injEq] at h1
        have := congrArg List.length h1
        rw [rows_len, List.length_map] at this
        subst this; rfl

theorem own_elem {α : Type} {f : α → AV} {d n : Nat} {H : AHeap} {v : AV} {s : Sl α} {fp : List Nat} {i : Nat} {x : α} (row : RowOf n f) (hn1 : n ≠ 1) (h : OwnX false (d + 1) H v (slm f s) fp) (hi : s.l[i]? = some x) :
    ∃ b off cap cs fp', v = .slice b off s.l.length cap n ∧ H.cells b = some cs ∧ off + s.l.length * n ≤ cs.length ∧ b ∈ fp ∧ OwnL (OwnX false d) H ((cs.drop (off + i * n)).take n) (f x).cells fp' ∧ ∀ c ∈ fp', c ∈ fp := by
  have hlt : i < s.l.length := (List.getElem?_eq_some_iff.1 hi).1
  have hs : s = some s.l := by cases s with
    | none => simp [Sl.l] at hi
    | some l => rfl
  have hl := (own_len h).1
  rw [hs] at h
  cases v <;> simp only [OwnX] at h
  case sc y =>
    obtain ⟨h1, _⟩ := h
    simp [slm] at h1
  case imm l => simp at h
  case agg cs =>
    obtain ⟨us, h1, _⟩ := h
    simp [slm] at h1
  case slice b off len cap n' =>
    simp only [lenOf, Option.some.injEq, AV.sc.injEq, Sc.int.injEq, true_and] at hl
    have hl : len = s.l.length := by omega
    subst hl
    rcases h with ⟨h0, _, _⟩ | ⟨cs, us, fp', h1, h2, h3, h4, h5, h6, hq, h7, h8⟩
    · omega
    · simp only [slm, AV.imm.injEq] at h7
      have hul : us.length = s.l.length * n' := by
        have := h5.len
        simp only [List.length_take, List.length_drop] at this
        omega
      have hn : n' = n := by
        cases hl2 : s.l with
        | nil => rw [hl2] at hlt; simp at hlt
        | cons y l =>
          rw [hl2] at h7 hul
          simp only [List.map_cons, List.length_cons, rows, List.cons.injEq] at h7
          have ry := row.2 y
          rw [if_neg hn1] at ry
          have e3 := h7.1
          by_cases q : n' = 1
          · rw [if_pos q] at e3
            cases hus : us with
            | nil => rw [hus, q] at hul; simp at hul
            | cons w ws =>
              rw [hus] at e3
              simp only [List.headD_cons] at e3
              have := hq q w (by rw [hus]; simp)
              rw [← e3] at this
              have := congrArg List.length this
              rw [ry.1] at this
              simp at this; omega
          · rw [if_neg q, ry.2] at e3
            simp only [AV.agg.injEq] at e3
            have := congrArg List.length e3
            rw [ry.1, List.length_take, hul, List.length_cons, Nat.succ_mul] at this
            omega
      subst hn
      have hmap : us = s.l.flatMap fun x => (f x).cells := by
        have key : ∀ (l : List α) (us : List AV), us.length = l.length * n' → l.map f = rows n' l.length us → us = l.flatMap fun x => (f x).cells := by
          intro l
          induction l with
          | nil => intro us h1 _; simp at h1; simp [h1]
          | cons y l ih =>
            intro us h1 h2
            simp only [List.map_cons, List.length_cons, rows, List.cons.injEq] at h2
            have ry := row.2 y
            rw [if_neg hn1] at ry
            have e3 := h2.1
            rw [if_neg hn1, ry.2] at e3
            simp only [AV.agg.injEq] at e3
            have := ih (us.drop n') (by rw [List.length_drop, h1, List.length_cons, Nat.succ_mul]; omega) h2.2
            simp only [List.flatMap_cons]
            rw [← this, e3, List.take_append_drop]
        exact key s.l us hul h7
      have hmul : i * n' + n' ≤ s.l.length * n' := by
        have : (i + 1) * n' ≤ s.l.length * n' := Nat.mul_le_mul_right _ hlt
        rw [Nat.succ_mul] at this; exact this
      obtain ⟨f1, g1, p1, p2, p3, p4⟩ := h5.split (i * n')
      obtain ⟨f2, g2, q1, q2, q3, q4⟩ := p2.split n'
      refine ⟨b, off, cap, cs, f2, rfl, h1, h4, by rw [h8]; simp, ?_, ?_⟩
      · have e1 : (((cs.drop off).take (s.l.length * n')).drop (i * n')).take n' = (cs.drop (off + i * n')).take n' := by
          rw [List.drop_take, List.take_take, List.drop_drop, Nat.min_eq_left (by omega)]
        have e2 : (us.drop (i * n')).take n' = (f x).cells := by
          rw [hmap]
          have key : ∀ (l : List α) (i : Nat), l[i]? = some x → (((l.flatMap fun x => (f x).cells).drop (i * n')).take n') = (f x).cells := by
            intro l
            induction l with
            | nil => intro i h; simp at h
            | cons y l ih =>
              intro i h
              have ry := row.2 y
              cases i with
              | zero =>
                simp at h; subst h
                simp only [List.flatMap_cons, Nat.zero_mul, List.drop_zero]
                rw [List.take_append_of_le_length (by omega), List.take_of_length_le (by omega)]
              | succ i =>
                simp only [List.flatMap_cons, Nat.succ_mul]
                rw [List.drop_append, List.drop_of_length_le (by omega), List.nil_append, ry.1, Nat.add_sub_cancel]
                exact ih i (by simpa using h)
          exact key s.l i hi
        rw [e1, e2] at q1
        exact q1
      · intro c hc
        rw [h8, p4, q4]
        simp only [List.mem_cons, List.mem_append]
        exact .inr (.inr (.inl hc))

section
variable {S : Bool} {fp : List Nat} {H0 H : AHeap}
theorem Mut.elem (M : Mut S fp H0 H) {α : Type} {f : α → AV} {d n i j : Nat} {v u : AV} {s : Sl α} {fp1 : List Nat} {x : α} (row : RowOf n f) (hn1 : n ≠ 1) (h : OwnX false (d + 1) H0 v (slm f s) fp1) (hs : ∀ b ∈ fp1, b ∈ fp) (hi : s.l[i]? = some x) (hj : (f x).cells[j]? = some u) :
    ∃ b off cap cs cs' w w' fp2, v = .slice b off s.l.length cap n ∧ b ∈ fp ∧ H0.cells b = some cs ∧ H.cells b = some cs' ∧ cs'.length = cs.length ∧ off + i * n + j + 1 ≤ cs.length ∧ cs[off + i * n + j]? = some w ∧ cs'[off + i * n + j]? = some w' ∧ Alike S w w' ∧ OwnX false d H0 w u fp2 ∧ ∀ c ∈ fp2, c ∈ fp := by
  obtain ⟨b, off, cap, cs, fp', h1, h2, h3, h4, h5, h6⟩ := own_elem row hn1 h hi
  obtain ⟨w, fp2, h7, h8, h9⟩ := h5.cell hj
  have h10 : cs[off + i * n + j]? = some w := by
    rw [List.getElem?_take] at h7
    split at h7
    · rw [List.getElem?_drop] at h7; exact h7
    · cases h7
  obtain ⟨cs', g1, g2, g3⟩ := M.sh b (hs b h4) cs h2
  obtain ⟨w', g4, g5⟩ := g3 _ _ h10
  have := (List.getElem?_eq_some_iff.1 h10).1
  exact ⟨b, off, cap, cs, cs', w, w', fp2, h1, hs b h4, h2, g1, g2, by omega, h10, g4, g5, h8, fun c hc => hs c (h6 c (h9 c hc))⟩

theorem Mut.step (M : Mut S fp H0 H) {α β : Type} {f : α → AV} {g : β → AV} {d n i j : Nat} {v : AV} {s : Sl α} {s' : Sl β} {fp1 : List Nat} {x : α} (row : RowOf n f) (hn1 : n ≠ 1) (h : OwnX false (d + 2) H0 v (slm f s) fp1) (hs : ∀ b ∈ fp1, b ∈ fp) (hi : s.l[i]? = some x) (hj : (f x).cells[j]? = some (slm g s')) :
    ∃ b off cap cs w fp2, v = .slice b off s.l.length cap n ∧ H.cells b = some cs ∧ off + i * n + j + 1 ≤ cs.length ∧ cs[off + i * n + j]? = some w ∧ OwnX false (d + 1) H0 w (slm g s') fp2 ∧ ∀ c ∈ fp2, c ∈ fp := by
  obtain ⟨b, off, cap, cs, cs', w, w', fp2, h1, hb, h2, h3, h4, h5, h6, h7, h8, h9, h10⟩ := M.elem row hn1 h hs hi hj
  have hl := (own_len h9).1
  have : w' = w := by
    rcases h8 with rfl | ⟨x, y, rfl, _⟩ | ⟨_, x, y, rfl, _⟩
    · rfl
    · simp [lenOf] at hl
    · simp [lenOf] at hl
  subst this
  exact ⟨b, off, cap, cs', w', fp2, h1, h3, by omega, h7, h9, h10⟩

theorem splice_get {cs : List AV} {o j : Nat} {w : AV} (h : o + 1 ≤ cs.length) : (splice cs o [w])[j]? = if j = o then some w else cs[j]? := by
  have e : splice cs o [w] = cs.set o w := by
    unfold splice
    simp only [List.length_cons, List.length_nil, Nat.zero_add]
    rw [List.set_eq_take_append_cons_drop, if_pos (by omega)]
    simp
  rw [e, List.getElem?_set]
  by_cases q : o = j
  · subst q; simp; omega
  · rw [if_neg q, if_neg (fun k => q k.symm)]

theorem Mut.put (M : Mut S fp H0 H) {b o : Nat} {cs cs' : List AV} {w w2 : AV} (hb : b ∈ fp) (h0 : H0.cells b = some cs) (h1 : H.cells b = some cs') (hl : cs'.length = cs.length) (ho : o + 1 ≤ cs.length) (hw : cs[o]? = some w) (ha : Alike S w w2) :
    Mut S fp H0 (H.put b (some (.cells (splice cs' o [w2])))) := by
  refine ⟨fun c hc ds hd => ?_, fun c hc => ?_⟩
  · by_cases q : c = b
    · subst q
      rw [h0] at hd; cases hd
      refine ⟨splice cs' o [w2], by rw [h_putc (by rw [h1]; rfl)]; simp, ?_, fun j v hv => ?_⟩
      · unfold splice; simp; omega
      · rw [splice_get (by omega)]
        by_cases e : j = o
        · subst e; rw [hw] at hv; cases hv
          exact ⟨w2, if_pos rfl, ha⟩
        · rw [if_neg e]
          obtain ⟨es, e1, e2, e3⟩ := M.sh c hc _ h0
          rw [h1] at e1; cases e1
          exact e3 j v hv
    · rw [c_put_ne q]; exact M.sh c hc ds hd
  · have q : c ≠ b := fun e => hc (e ▸ hb)
    rw [c_put_ne q]; exact M.keep c hc

theorem Mut.int (M : Mut S fp H0 H) {α : Type} {f : α → AV} {d n i j : Nat} {v : AV} {s : Sl α} {fp1 : List Nat} {x : α} {z : Int} (row : RowOf n f) (hn1 : n ≠ 1) (h : OwnX false (d + 2) H0 v (slm f s) fp1) (hs : ∀ b ∈ fp1, b ∈ fp) (hi : s.l[i]? = some x) (hj : (f x).cells[j]? = some (.sc (.int .i64 z))) :
    ∃ b off cap cs z', v = .slice b off s.l.length cap n ∧ H.cells b = some cs ∧ off + i * n + j + 1 ≤ cs.length ∧ cs[off + i * n + j]? = some (.sc (.int .i64 z')) ∧ ∀ z2, Mut S fp H0 (H.put b (some (.cells (splice cs (off + i * n + j) [.sc (.int .i64 z2)])))) := by
  obtain ⟨b, off, cap, cs, cs', w, w', fp2, h1, hb, h2, h3, h4, h5, h6, h7, h8, h9, h10⟩ := M.elem row hn1 h hs hi hj
  have hw : w = .sc (.int .i64 z) := by
    cases w <;> simp only [OwnX] at h9
    case sc y => obtain ⟨e, _⟩ := h9; exact e.symm
    case imm => simp at h9
    case agg => obtain ⟨_, e, _⟩ := h9; cases e
    case slice => rcases h9 with ⟨_, e, _⟩ | ⟨_, _, _, _, _, _, _, _, _, _, e, _⟩ <;> cases e
  subst hw
  have hw' : ∃ z', w' = .sc (.int .i64 z') := by
    rcases h8 with rfl | ⟨x, y, e, rfl⟩ | ⟨_, x, y, e, rfl⟩
    · exact ⟨z, rfl⟩
    · exact ⟨y, rfl⟩
    · cases e
  obtain ⟨z', rfl⟩ := hw'
  exact ⟨b, off, cap, cs', z', h1, h3, by omega, h7, fun z2 => M.put hb h2 h3 h4 h5 h6 (.inr (.inl ⟨_, _, rfl, rfl⟩))⟩

theorem Mut.str (M : Mut false fp H0 H) {α : Type} {f : α → AV} {d n i j : Nat} {v : AV} {s : Sl α} {fp1 : List Nat} {x : α} {z : ByteArray} (row : RowOf n f) (hn1 : n ≠ 1) (h : OwnX false (d + 2) H0 v (slm f s) fp1) (hs : ∀ b ∈ fp1, b ∈ fp) (hi : s.l[i]? = some x) (hj : (f x).cells[j]? = some (.sc (.str z))) :
    ∃ b off cap cs, v = .slice b off s.l.length cap n ∧ H.cells b = some cs ∧ off + i * n + j + 1 ≤ cs.length ∧ cs[off + i * n + j]? = some (.sc (.str z)) ∧ ∀ z2, Mut true fp H0 (H.put b (some (.cells (splice cs (off + i * n + j) [.sc (.str z2)])))) := by
  obtain ⟨b, off, cap, cs, cs', w, w', fp2, h1, hb, h2, h3, h4, h5, h6, h7, h8, h9, h10⟩ := M.elem row hn1 h hs hi hj
  have hw : w = .sc (.str z) := by
    cases w <;> simp only [OwnX] at h9
    case sc y => obtain ⟨e, _⟩ := h9; exact e.symm
    case imm => simp at h9
    case agg => obtain ⟨_, e, _⟩ := h9; cases e
    case slice => rcases h9 with ⟨_, e, _⟩ | ⟨_, _, _, _, _, _, _, _, _, _, e, _⟩ <;> cases e
  subst hw
  have hw' : w' = .sc (.str z) := by
    rcases h8 with rfl | ⟨x, y, e, rfl⟩ | ⟨e, x, y, _, rfl⟩
    · rfl
    · cases e
    · cases e
  subst hw'
  exact ⟨b, off, cap, cs', h1, h3, by omega, h7, fun z2 => M.text.put hb h2 h3 h4 h5 h6 (.inr (.inr ⟨rfl, _, _, rfl, rfl⟩))⟩
end
end Go.Hem
/- What is owned, and how a part of it is put anew. -/
set_option maxRecDepth 10000
set_option linter.unusedSimpArgs false
set_option linter.unusedVariables false
namespace Go.Hem
theorem splice_len2 {cs ys : List AV} {o : Nat} (h : o + ys.length ≤ cs.length) : (splice cs o ys).length = cs.length := by
  unfold splice; simp; omega
/-- What is put in place of the inside makes the outside whole again. -/
def Fit (H : AHeap) (fp f : List Nat) (In Out : AHeap → List Nat → Prop) : Prop :=
  ∀ H' f', In H' f' → (∀ b ∈ fp, b ∉ f → H'.cells b = H.cells b) → (∀ b ∈ f', b ∈ f ∨ b ∉ fp) → ∃ fp', Out H' fp' ∧ ∀ b ∈ fp', b ∈ f' ∨ (b ∈ fp ∧ b ∉ f)

section
variable {H : AHeap} {fp f g : List Nat} {In M Out : AHeap → List Nat → Prop} {I : Bool} {d : Nat}
theorem Fit.trans (h : Fit H fp f M Out) (k : Fit H f g In M) (hf : ∀ b ∈ f, b ∈ fp) (hg : ∀ b ∈ g, b ∈ f) : Fit H fp g In Out := by
  intro H' g' hi hk hs
  obtain ⟨f', h1, h2⟩ := k H' g' hi (fun b hb hb2 => hk b (hf b hb) hb2) (fun b hb => (hs b hb).imp id fun h h' => h (hf b h'))
  obtain ⟨fp', h3, h4⟩ := h H' f' h1 (fun b hb hb2 => hk b hb fun h => hb2 (hg b h)) (fun b hb => by
    rcases h2 b hb with h | ⟨h, h5⟩
    · exact (hs b h).imp (hg b) id
    · exact .inl h)
  refine ⟨fp', h3, fun b hb => ?_⟩
  rcases h4 b hb with h | ⟨h, h5⟩
  · rcases h2 b h with h | ⟨h, h6⟩
    · exact .inl h
    · exact .inr ⟨hf b h, h6⟩
  · exact .inr ⟨h, fun h6 => h5 (hg b h6)⟩

theorem OwnL.fit {vs us : List AV} (h : OwnL (OwnX I d) H vs us fp) : ∀ {j : Nat} {u : AV}, us[j]? = some u →
    ∃ v f, vs[j]? = some v ∧ OwnX I d H v u f ∧ (∀ b ∈ f, b ∈ fp) ∧ ∀ v' u', Fit H fp f (fun H' f' => OwnX I d H' v' u' f') (fun H' fp' => OwnL (OwnX I d) H' (vs.set j v') (us.set j u') fp') := by
  induction h with
  | nil => intro j u h; simp at h
  | cons h1 h2 h3 ih =>
    rename_i v u vs us f g
    intro j w hj
    cases j with
    | zero =>
      simp at hj; subst hj
      refine ⟨v, f, by simp, h1, fun b hb => List.mem_append.2 (.inl hb), fun v' u' H' f' hi hk hs => ⟨f' ++ g, ?_, ?_⟩⟩
      · simp only [List.set_cons_zero]
        refine .cons hi (h2.fr fun b hb => hk b (List.mem_append.2 (.inr hb)) (h3.symm b hb)) fun b hb hb2 => ?_
        rcases hs b hb with h | h
        · exact h3 b h hb2
        · exact h (List.mem_append.2 (.inr hb2))
      · intro b hb
        rcases List.mem_append.1 hb with h | h
        · exact .inl h
        · exact .inr ⟨List.mem_append.2 (.inr h), h3.symm b h⟩
    | succ j =>
      obtain ⟨v2, f1, a1, a2, a3, a4⟩ := ih (j := j) (u := w) (by simpa using hj)
      refine ⟨v2, f1, by simpa using a1, a2, fun b hb => List.mem_append.2 (.inr (a3 b hb)), fun v' u' H' f' hi hk hs => ?_⟩
      obtain ⟨g', b1, b2⟩ := a4 v' u' H' f' hi (fun b hb hb2 => hk b (List.mem_append.2 (.inr hb)) hb2) (fun b hb => (hs b hb).imp id fun h h' => h (List.mem_append.2 (.inr h')))
      refine ⟨f ++ g', ?_, ?_⟩
      · simp only [List.set_cons_succ]
        refine .cons (h1.frame fun b hb => hk b (List.mem_append.2 (.inl hb)) fun h => h3 b hb (a3 b h)) b1 fun b hb hb2 => ?_
        rcases b2 b hb2 with h | ⟨h, _⟩
        · rcases hs b h with h | h
          · exact h3 b hb (a3 b h)
          · exact h (List.mem_append.2 (.inl hb))
        · exact h3 b hb h
      · intro b hb
        rcases List.mem_append.1 hb with h | h
        · exact .inr ⟨List.mem_append.2 (.inl h), fun h2 => h3 b h (a3 b h2)⟩
        · rcases b2 b h with h | ⟨h, h5⟩
          · exact .inl h
          · exact .inr ⟨List.mem_append.2 (.inr h), h5⟩

theorem OwnL.fitR {vs us : List AV} (h : OwnL (OwnX I d) H vs us fp) (o k : Nat) :
    ∃ f, OwnL (OwnX I d) H ((vs.drop o).take k) ((us.drop o).take k) f ∧ (∀ b ∈ f, b ∈ fp) ∧
      ∀ ws xs, Fit H fp f (fun H' f' => OwnL (OwnX I d) H' ws xs f') (fun H' fp' => OwnL (OwnX I d) H' (vs.take o ++ (ws ++ (vs.drop o).drop k)) (us.take o ++ (xs ++ (us.drop o).drop k)) fp') := by
  obtain ⟨f1, g1, p1, p2, p3, p4⟩ := h.split o
  obtain ⟨f2, f3, q1, q2, q3, q4⟩ := p2.split k
  have i1 : ∀ b ∈ f1, b ∈ fp := fun b hb => by rw [p4]; exact List.mem_append.2 (.inl hb)
  have i2 : ∀ b ∈ f2, b ∈ fp := fun b hb => by rw [p4, q4]; exact List.mem_append.2 (.inr (List.mem_append.2 (.inl hb)))
  have i3 : ∀ b ∈ f3, b ∈ fp := fun b hb => by rw [p4, q4]; exact List.mem_append.2 (.inr (List.mem_append.2 (.inr hb)))
  have n1 : ∀ b ∈ f1, b ∉ f2 := fun b hb h => p3 b hb (by rw [q4]; exact List.mem_append.2 (.inl h))
  have n13 : ∀ b ∈ f1, b ∉ f3 := fun b hb h => p3 b hb (by rw [q4]; exact List.mem_append.2 (.inr h))
  have n3 : ∀ b ∈ f3, b ∉ f2 := q3.symm
  refine ⟨f2, q1, i2, fun ws xs H' f' hi hk hs => ⟨f1 ++ (f' ++ f3), ?_, ?_⟩⟩
  · refine OwnL.append (p1.fr fun b hb => hk b (i1 b hb) (n1 b hb)) (OwnL.append hi (q2.fr fun b hb => hk b (i3 b hb) (n3 b hb)) fun b hb hb2 => ?_) fun b hb hb2 => ?_
    · rcases hs b hb with h | h
      · exact n3 b hb2 h
      · exact h (i3 b hb2)
    · rcases List.mem_append.1 hb2 with h | h
      · rcases hs b h with h | h
        · exact n1 b hb h
        · exact h (i1 b hb)
      · exact n13 b hb h
  · intro b hb
    rcases List.mem_append.1 hb with h | h
    · exact .inr ⟨i1 b h, n1 b h⟩
    · rcases List.mem_append.1 h with h | h
      · exact .inl h
      · exact .inr ⟨i3 b h, n3 b h⟩
end

/-- The cells of a slice that is owned are those of its elements. -/
theorem own_rows {α : Type} {f : α → AV} {n : Nat} (row : RowOf n f) (hn1 : n ≠ 1) : ∀ (l : List α) (us : List AV), us.length = l.length * n → l.map f = rows n l.length us → us = l.flatMap fun x => (f x).cells
  | [], us, h1, _ => by simp at h1; simp [h1]
  | y :: l, us, h1, h2 => by
    simp only [List.map_cons, List.length_cons, rows, List.cons.injEq] at h2
    have ry := row.2 y
    rw [if_neg hn1] at ry
    have e3 := h2.1
    rw [if_neg hn1, ry.2] at e3
    simp only [AV.agg.injEq] at e3
    have := own_rows row hn1 l (us.drop n) (by rw [List.length_drop, h1, List.length_cons, Nat.succ_mul]; omega) h2.2
    simp only [List.flatMap_cons]
    rw [← this, e3, List.take_append_drop]

theorem flat_at {α : Type} {f : α → AV} {n : Nat} (row : RowOf n f) {x : α} : ∀ {l : List α} {i : Nat}, l[i]? = some x →
    ((l.flatMap fun x => (f x).cells).drop (i * n)).take n = (f x).cells ∧ ∀ x', (l.set i x').flatMap (fun x => (f x).cells) = (l.flatMap fun x => (f x).cells).take (i * n) ++ ((f x').cells ++ ((l.flatMap fun x => (f x).cells).drop (i * n)).drop n)
  | [], i, h => by simp at h
  | y :: l, 0, h => by
    have ry := (row.2 y).1
    simp at h; subst h
    simp only [List.flatMap_cons, Nat.zero_mul, List.drop_zero, List.set_cons_zero, List.take_zero, List.nil_append]
    refine ⟨by rw [List.take_append_of_le_length (by omega), List.take_of_length_le (by omega)], fun x' => ?_⟩
    rw [List.drop_append, List.drop_of_length_le (by omega), List.nil_append, ry, Nat.sub_self, List.drop_zero]
  | y :: l, i + 1, h => by
    have ry := (row.2 y).1
    have ih := flat_at row (l := l) (i := i) (x := x) (by simpa using h)
    have e : (i + 1) * n = n + i * n := by rw [Nat.succ_mul]; omega
    have e1 : ((f y).cells ++ l.flatMap fun x => (f x).cells).drop ((i + 1) * n) = (l.flatMap fun x => (f x).cells).drop (i * n) := by
      rw [List.drop_append, List.drop_of_length_le (by omega), List.nil_append, ry, e, Nat.add_sub_cancel_left]
    simp only [List.flatMap_cons, List.set_cons_succ]
    rw [e1]
    refine ⟨ih.1, fun x' => ?_⟩
    rw [ih.2 x', e, List.take_append, List.take_of_length_le (l := (f y).cells) (by omega), ry, Nat.add_sub_cancel_left, List.append_assoc]

theorem splice_mid {cs ws : List AV} {off len n i : Nat} (hl : off + len * n ≤ cs.length) (hi : i < len) (hw : ws.length = n) :
    ((splice cs (off + i * n) ws).drop off).take (len * n) = ((cs.drop off).take (len * n)).take (i * n) ++ (ws ++ (((cs.drop off).take (len * n)).drop (i * n)).drop n) := by
  have hm : i * n + n ≤ len * n := by
    have : (i + 1) * n ≤ len * n := Nat.mul_le_mul_right _ hi
    rw [Nat.succ_mul] at this; exact this
  have e1 : (splice cs (off + i * n) ws).drop off = (cs.drop off).take (i * n) ++ (ws ++ cs.drop (off + i * n + n)) := by
    unfold splice
    rw [List.append_assoc, List.drop_append_of_le_length (by simp; omega), hw]
    congr 1
    rw [List.drop_take, Nat.add_sub_cancel_left]
  have hA : ((cs.drop off).take (i * n)).length = i * n := by simp; omega
  rw [e1, List.take_append, List.take_of_length_le (l := (cs.drop off).take (i * n)) (by omega), hA, List.take_append, List.take_of_length_le (l := ws) (by omega), hw, List.take_take, Nat.min_eq_left (by omega : i * n ≤ len * n)]
  congr 2
  rw [List.drop_drop, List.drop_take, List.drop_drop, show off + (i * n + n) = off + i * n + n by omega, show len * n - i * n - n = len * n - (i * n + n) by omega]

/-- What stands in a slice's block at an element. -/
def ElemIn {α : Type} (d : Nat) (f : α → AV) (n b o : Nat) (cs : List AV) (x : α) (H : AHeap) (fp : List Nat) : Prop :=
  ∃ ws g, H.cells b = some (splice cs o ws) ∧ ws.length = n ∧ OwnL (OwnX false d) H ws (f x).cells g ∧ b ∉ g ∧ fp = b :: g

theorem own_elem_fit {α : Type} {f : α → AV} {d n : Nat} {H : AHeap} {v : AV} {s : Sl α} {fp : List Nat} {i : Nat} {x : α} (row : RowOf n f) (hn1 : n ≠ 1) (h : OwnX false (d + 1) H v (slm f s) fp) (hi : s.l[i]? = some x) :
    ∃ b off cap cs fp2, v = .slice b off s.l.length cap n ∧ H.cells b = some cs ∧ off + i * n + n ≤ cs.length ∧ b ∈ fp ∧ b ∉ fp2 ∧ (∀ c ∈ fp2, c ∈ fp) ∧ OwnL (OwnX false d) H ((cs.drop (off + i * n)).take n) (f x).cells fp2 ∧
      ∀ x', Fit H fp (b :: fp2) (ElemIn d f n b (off + i * n) cs x') (fun H' fp' => OwnX false (d + 1) H' v (slm f (some (s.l.set i x'))) fp') := by
  have hlt : i < s.l.length := (List.getElem?_eq_some_iff.1 hi).1
  obtain ⟨b0, off0, cap0, cs0, fp0, e0, e1, e2, e3, e4, e5⟩ := own_elem row hn1 h hi
  subst e0
  have hs : s = some s.l := by cases s with
    | none => simp [Sl.l] at hi
    | some l => rfl
  rw [hs] at h
  simp only [l_some] at h
  simp only [OwnX] at h
  rcases h with ⟨h0, _, _⟩ | ⟨cs, us, fp', h1, h2, h3, h4, h5, h6, hq, h7, h8⟩
  · omega
  rw [e1] at h1; cases h1
  simp only [slm, AV.imm.injEq] at h7
  have hul : us.length = s.l.length * n := by
    have := h5.len
    simp only [List.length_take, List.length_drop] at this
    omega
  have hmap := own_rows row hn1 s.l us hul h7
  have hm : i * n + n ≤ s.l.length * n := by
    have : (i + 1) * n ≤ s.l.length * n := Nat.mul_le_mul_right _ hlt
    rw [Nat.succ_mul] at this; exact this
  obtain ⟨fp2, q1, q2, q3⟩ := h5.fitR (i * n) n
  obtain ⟨fl1, fl2⟩ := flat_at row hi
  refine ⟨b0, off0, cap0, cs0, fp2, rfl, e1, by omega, by rw [h8]; simp, fun hb => h6 (q2 _ hb), fun c hc => by rw [h8]; exact List.mem_cons_of_mem _ (q2 c hc), ?_, ?_⟩
  · rw [hmap, fl1] at q1
    have e1 : (((cs0.drop off0).take (s.l.length * n)).drop (i * n)).take n = (cs0.drop (off0 + i * n)).take n := by
      rw [List.drop_take, List.take_take, List.drop_drop, Nat.min_eq_left (by omega)]
    rw [e1] at q1
    exact q1
  · intro x' H' f' hIn hk hs'
    obtain ⟨ws, g, k1, k2, k3, k4, rfl⟩ := hIn
    obtain ⟨fp'', r1, r2⟩ := q3 ws (f x').cells H' g k3 (fun c hc hc2 => hk c (by rw [h8]; exact List.mem_cons_of_mem _ hc) (fun h => by
      rcases List.mem_cons.1 h with rfl | h
      · exact h6 hc
      · exact hc2 h)) (fun c hc => by
      rcases hs' c (List.mem_cons_of_mem _ hc) with h | h
      · rcases List.mem_cons.1 h with rfl | h
        · exact absurd hc k4
        · exact .inl h
      · exact .inr fun h2 => h (by rw [h8]; exact List.mem_cons_of_mem _ h2))
    rw [hmap, ← fl2 x'] at r1
    have nb : b0 ∉ fp'' := fun hb => by
      rcases r2 _ hb with h | ⟨h, _⟩
      · exact k4 h
      · exact h6 h
    refine ⟨b0 :: fp'', ?_, fun c hc => ?_⟩
    · simp only [OwnX]
      refine .inr ⟨_, (s.l.set i x').flatMap (fun x => (f x).cells), fp'', k1, h2, h3, ?_, ?_, nb, row_one row, ?_, rfl⟩
      · rw [splice_len2 (by omega)]; exact h4
      · rw [splice_mid h4 hlt k2]; exact r1
      · have e := rows_map row (s.l.set i x')
        rw [List.length_set] at e
        rw [e]; rfl
    · rcases List.mem_cons.1 hc with rfl | hc
      · exact .inl (by simp)
      · rcases r2 c hc with h | ⟨h, h2⟩
        · exact .inl (List.mem_cons_of_mem _ h)
        · refine .inr ⟨by rw [h8]; exact List.mem_cons_of_mem _ h, fun hc2 => ?_⟩
          rcases List.mem_cons.1 hc2 with rfl | hc2
          · exact h6 h
          · exact h2 hc2

theorem splice_same {cs : List AV} {o n : Nat} (h : o + n ≤ cs.length) : splice cs o ((cs.drop o).take n) = cs := by
  unfold splice
  have e : ((cs.drop o).take n).length = n := by simp; omega
  rw [e, ← List.drop_drop, List.append_assoc, List.take_append_drop, List.take_append_drop]

/-- One step down: an element's field. -/
theorem own_step {α : Type} {f : α → AV} {d n : Nat} {H : AHeap} {v u : AV} {s : Sl α} {fp : List Nat} {i j : Nat} {x : α} (row : RowOf n f) (hn1 : n ≠ 1) (h : OwnX false (d + 1) H v (slm f s) fp) (hi : s.l[i]? = some x) (hj : (f x).cells[j]? = some u) :
    ∃ b off cap cs w fp2, v = .slice b off s.l.length cap n ∧ H.cells b = some cs ∧ off + i * n + j + 1 ≤ cs.length ∧ cs[off + i * n + j]? = some w ∧ OwnX false d H w u fp2 ∧ (∀ c ∈ fp2, c ∈ fp) ∧ b ∈ fp ∧ b ∉ fp2 ∧
      ∀ u' x', (f x').cells = (f x).cells.set j u' → Fit H fp fp2 (fun H' f' => OwnX false d H' w u' f') (fun H' fp' => OwnX false (d + 1) H' v (slm f (some (s.l.set i x'))) fp') := by
  obtain ⟨b, off, cap, cs, fp1, h1, h2, h3, h4, h5, h6, h7, h8⟩ := own_elem_fit row hn1 h hi
  obtain ⟨w, fp2, g1, g2, g3, g4⟩ := h7.fit hj
  have h10 : cs[off + i * n + j]? = some w := by
    rw [List.getElem?_take] at g1
    split at g1
    · rw [List.getElem?_drop] at g1; exact g1
    · cases g1
  have hlt := (List.getElem?_eq_some_iff.1 h10).1
  refine ⟨b, off, cap, cs, w, fp2, h1, h2, by omega, h10, g2, fun c hc => h6 c (g3 c hc), h4, fun hb => h5 (g3 b hb), fun u' x' hx => ?_⟩
  refine Fit.trans (h8 x') ?_ (fun c hc => ?_) (fun c hc => List.mem_cons_of_mem _ (g3 c hc))
  · intro H' f' hi' hk hs
    have nb2 : b ∉ fp2 := fun hb => h5 (g3 b hb)
    obtain ⟨g, a1, a2⟩ := g4 w u' H' f' hi' (fun c hc hc2 => hk c (List.mem_cons_of_mem _ hc) hc2) (fun c hc => (hs c hc).imp id fun h h' => h (List.mem_cons_of_mem _ h'))
    have nbg : b ∉ g := fun hb => by
      rcases a2 b hb with h | ⟨h, _⟩
      · rcases hs b h with h | h
        · exact nb2 h
        · exact h (by simp)
      · exact h5 h
    refine ⟨b :: g, ⟨(cs.drop (off + i * n)).take n, g, ?_, by simp; omega, ?_, nbg, rfl⟩, fun c hc => ?_⟩
    · rw [hk b (by simp) nb2, h2, splice_same h3]
    · rw [hx]
      have e : ((cs.drop (off + i * n)).take n).set j w = (cs.drop (off + i * n)).take n := by
        apply List.ext_getElem?
        intro q
        rw [List.getElem?_set]
        by_cases e : j = q
        · subst e; rw [if_pos rfl, g1]
          have := (List.getElem?_eq_some_iff.1 g1).1
          rw [if_pos this]
        · rw [if_neg e]
      rw [e] at a1
      exact a1
    · rcases List.mem_cons.1 hc with rfl | hc
      · exact .inr ⟨by simp, nb2⟩
      · rcases a2 c hc with h | ⟨h, h2⟩
        · exact .inl h
        · exact .inr ⟨List.mem_cons_of_mem _ h, h2⟩
  · rcases List.mem_cons.1 hc with rfl | hc
    · exact h4
    · exact h6 c hc
end Go.Hem
/- Walks: known, by running it. -/
set_option maxRecDepth 10000
namespace Go.Hem
def pures : List Nat := [33, 25, 14, 15, 16, 17, 18, 20, 21, 22, 23, 24, 26, 27, 28, 31, 35, 36, 37, 38, 41, 46, 49, 50, 51, 58, 59, 68, 71, 72, 79, 80, 81, 82, 96, 99, 100, 106, 113, 19]
def okTrue : XR AV → Bool
  | .ok (.sc (.bool b)) => b
  | _ => false
theorem okTrue_spec {r : XR AV} (h : okTrue r = true) : r = .ok (.sc (.bool true)) := by
  unfold okTrue at h
  split at h
  · subst h; rfl
  · cases h
end Go.Hem
/- What is copied is equal; what is short is tame. -/
set_option maxRecDepth 10000
set_option linter.unusedSimpArgs false
set_option linter.unusedVariables false
namespace Go.Hem
theorem sl_take_len {α : Type} {s : Sl α} {n : Nat} : Sl.l (s.map fun x => x.take n) = s.l.take n := by cases s <;> simp [Sl.l]
theorem Event.tame_short (e : Event) : e.short.tame := by
  have e1 : e.short.heads.l = e.heads.l.take 12 := sl_take_len
  have e2 : e.short.graces.l = e.graces.l.take 12 := sl_take_len
  have e3 : e.short.lyrics.l = (e.lyrics.l.take 6).map Syllable.short := l_of
  refine ⟨by rw [e1, List.length_take]; omega, by rw [e2, List.length_take]; omega, by rw [e3]; simp; omega⟩
theorem Voice.tame_short (v : Voice) : v.short.tame := by
  have e : v.short.events.l = (v.events.l.take 5).map Event.short := l_of
  refine ⟨by rw [e]; simp; omega, ?_, fun x hx => ?_⟩
  · have : v.short.tuplets.l = v.tuplets.l.take 3 := sl_take_len
    rw [this, List.length_take]; omega
  · rw [e] at hx
    obtain ⟨w, _, rfl⟩ := List.mem_map.1 hx
    exact w.tame_short
theorem Cell.tame_short (v : Cell) : v.short.tame := by
  have e : v.short.voices.l = (v.voices.l.take 3).map Voice.short := l_of
  refine ⟨?_, by rw [e]; simp; omega, fun x hx => ?_⟩
  · have : v.short.clefs.l = v.clefs.l.take 3 := sl_take_len
    rw [this, List.length_take]; omega
  · rw [e] at hx
    obtain ⟨w, _, rfl⟩ := List.mem_map.1 hx
    exact w.tame_short
theorem Measure.tame_short (v : Measure) : v.short.tame := by
  have e : v.short.cells.l = (v.cells.l.take 6).map Cell.short := l_of
  refine ⟨?_, by rw [e]; simp; omega, fun x hx => ?_⟩
  · have : v.short.tempi.l = v.tempi.l.take 3 := sl_take_len
    rw [this, List.length_take]; omega
  · rw [e] at hx
    obtain ⟨w, _, rfl⟩ := List.mem_map.1 hx
    exact w.tame_short
theorem Score.tame_short (s : Score) : s.short.tame := by
  have e1 : s.short.parts.l = (s.parts.l.take 4).map Part.short := l_of
  have e2 : s.short.measures.l = (s.measures.l.take 5).map Measure.short := l_of
  have e3 : s.short.spanners.l = s.spanners.l.take 6 := sl_take_len
  have e4 : s.short.last.l = s.last.l.take 4 := sl_take_len
  refine ⟨by rw [e1]; simp; omega, fun p hp => ?_, by rw [e2]; simp; omega, fun m hm => ?_, by rw [e3, List.length_take]; omega, by rw [e4, List.length_take]; omega⟩
  · rw [e1] at hp
    obtain ⟨w, _, rfl⟩ := List.mem_map.1 hp
    have : w.short.staves.l = w.staves.l.take 3 := sl_take_len
    unfold Part.tame
    rw [this, List.length_take]; omega
  · rw [e2] at hm
    obtain ⟨w, _, rfl⟩ := List.mem_map.1 hm
    exact w.tame_short
/-- What owns without immutable lists owns. -/
theorem OwnX.up {I : Bool} {H : AHeap} : ∀ {d : Nat} {v u : AV} {fp : List Nat}, OwnX I d H v u fp → Own d H v u fp
  | 0, _, _, _, h => h.elim
  | d + 1, v, u, fp, h => by
    cases v <;> simp only [OwnX] at h ⊢
    case sc => exact h
    case imm => exact ⟨trivial, h.2⟩
    case agg cs =>
      obtain ⟨us, h1, h2⟩ := h
      exact ⟨us, h1, h2.le fun _ _ _ a => OwnX.up a⟩
    case slice b off len cap n =>
      rcases h with h | ⟨cs, us, fp', h1, h2, h3, h4, h5, h6, hq, h7, rfl⟩
      · exact .inl h
      · exact .inr ⟨cs, us, fp', h1, h2, h3, h4, h5.le fun _ _ _ a => OwnX.up a, h6, hq, h7, rfl⟩
def pures8 : List Nat := [40, 86, 87, 88, 89, 90, 91, 92, 125, 126, 127, 128, 138, 139, 140, 145, 146, 147, 149, 150, 151, 152, 153] ++ pures
end Go.Hem
/- The law ScoreEquals, by the interpreter. -/
set_option maxRecDepth 10000
set_option maxHeartbeats 4000000
set_option linter.unusedSimpArgs false
set_option linter.unusedVariables false
namespace Go.Hem
theorem own6 {I : Bool} {d : Nat} {H : AHeap} {cs : List AV} {s : Score} {fp : List Nat} (h : OwnL (OwnX I (d + 1)) H cs s.enc.cells fp) : ∃ v2 v3 v4 v5 f2 f3 f4 f5, cs = [.sc (.str s.title), .sc (.bool s.written), v2, v3, v4, v5] ∧
    OwnX I (d + 1) H v2 (slm Part.enc s.parts) f2 ∧ OwnX I (d + 1) H v3 (slm Measure.enc s.measures) f3 ∧ OwnX I (d + 1) H v4 (slm Spanner.enc s.spanners) f4 ∧ OwnX I (d + 1) H v5 (slm ID.enc s.last) f5 ∧
    (∀ b ∈ f2, b ∈ fp) ∧ (∀ b ∈ f3, b ∈ fp) ∧ (∀ b ∈ f4, b ∈ fp) ∧ (∀ b ∈ f5, b ∈ fp) := by
  have hl := h.len
  obtain ⟨v0, f0, e0, h0, s0⟩ := h.cell (j := 0) (u := .sc (.str s.title)) rfl
  obtain ⟨v1, f1, e1, h1, s1⟩ := h.cell (j := 1) (u := .sc (.bool s.written)) rfl
  obtain ⟨v2, f2, e2, h2, s2⟩ := h.cell (j := 2) (u := slm Part.enc s.parts) rfl
  obtain ⟨v3, f3, e3, h3, s3⟩ := h.cell (j := 3) (u := slm Measure.enc s.measures) rfl
  obtain ⟨v4, f4, e4, h4, s4⟩ := h.cell (j := 4) (u := slm Spanner.enc s.spanners) rfl
  obtain ⟨v5, f5, e5, h5, s5⟩ := h.cell (j := 5) (u := slm ID.enc s.last) rfl
  have sc_of : ∀ {v : AV} {x : Sc} {f : List Nat}, OwnX I (d + 1) H v (.sc x) f → v = .sc x := by
    intro v x f h
    cases v <;> simp only [OwnX] at h
    case sc y => obtain ⟨e, _⟩ := h; exact e.symm
    case imm => obtain ⟨_, e, _⟩ := h; cases e
    case agg => obtain ⟨_, e, _⟩ := h; cases e
    case slice => rcases h with ⟨_, e, _⟩ | ⟨_, _, _, _, _, _, _, _, _, _, e, _⟩ <;> cases e
  have e0' := sc_of h0
  have e1' := sc_of h1
  subst e0' e1'
  refine ⟨v2, v3, v4, v5, f2, f3, f4, f5, ?_, h2, h3, h4, h5, s2, s3, s4, s5⟩
  match cs, hl with
  | [a, b, c, d, e, f], _ =>
    simp only [List.getElem?_cons_zero, List.getElem?_cons_succ, Option.some.injEq] at e0 e1 e2 e3 e4 e5
    subst e0 e1 e2 e3 e4 e5; rfl
end Go.Hem
/- Walks: what visit yields over a score that is owned. -/
set_option maxRecDepth 10000
set_option maxHeartbeats 4000000
set_option linter.unusedSimpArgs false
set_option linter.unusedVariables false
namespace Go.Hem
variable {pol : Pol}
inductive Pos where
  | part (i : Nat)
  | staff (i k st : Nat)
  | measure (m : Nat)
  | event (m c v e : Nat)
  | spanner (i : Nat)
  deriving DecidableEq
def Pos.place : Pos → Place
  | .part i => ⟨1, i, 0, 0, 0, 0, 0⟩
  | .staff _ _ st => ⟨2, 0, st, 0, 0, 0, 0⟩
  | .measure m => ⟨3, 0, 0, m, 0, 0, 0⟩
  | .event m c v e => ⟨4, 0, c, m, v, e, 0⟩
  | .spanner i => ⟨5, 0, 0, 0, 0, 0, i⟩
def posStaves (i k st : Nat) : List Staff → List Pos
  | [] => []
  | _ :: r => .staff i k st :: posStaves i (k + 1) (st + 1) r
def posParts (i st : Nat) : List Part → List Pos
  | [] => []
  | p :: r => .part i :: (posStaves i 0 st p.staves.l ++ posParts (i + 1) (st + p.staves.l.length) r)
def posEvents (m c v e : Nat) : List Event → List Pos
  | [] => []
  | _ :: r => .event m c v e :: posEvents m c v (e + 1) r
def posVoices (m c v : Nat) : List Voice → List Pos
  | [] => []
  | x :: r => posEvents m c v 0 x.events.l ++ posVoices m c (v + 1) r
def posCells (m c : Nat) : List Cell → List Pos
  | [] => []
  | x :: r => posVoices m c 0 x.voices.l ++ posCells m (c + 1) r
def posMeasures (m : Nat) : List Measure → List Pos
  | [] => []
  | x :: r => .measure m :: (posCells m 0 x.cells.l ++ posMeasures (m + 1) r)
def posSpanners (i : Nat) : List Spanner → List Pos
  | [] => []
  | _ :: r => .spanner i :: posSpanners (i + 1) r
def poss (s : Score) : List Pos := posParts 0 0 s.parts.l ++ (posMeasures 0 s.measures.l ++ posSpanners 0 s.spanners.l)

/-! ### Changes at a place -/
def Score.setP (a : Score) (i : Nat) (x : Part) : Score := { a with parts := some (a.parts.l.set i x) }
def Part.setS (a : Part) (i : Nat) (x : Staff) : Part := { a with staves := some (a.staves.l.set i x) }
def Score.setM (a : Score) (i : Nat) (x : Measure) : Score := { a with measures := some (a.measures.l.set i x) }
def Measure.setC (a : Measure) (i : Nat) (x : Cell) : Measure := { a with cells := some (a.cells.l.set i x) }
def Cell.setV (a : Cell) (i : Nat) (x : Voice) : Cell := { a with voices := some (a.voices.l.set i x) }
def Voice.setE (a : Voice) (i : Nat) (x : Event) : Voice := { a with events := some (a.events.l.set i x) }
def Score.setX (a : Score) (i : Nat) (x : Spanner) : Score := { a with spanners := some (a.spanners.l.set i x) }
/-- The id at a place is x, and b is the score with d there. -/
inductive IdAt (a : Score) : Pos → ID → (ID → Score) → Prop
  | part {i : Nat} {p : Part} : a.parts.l[i]? = some p → IdAt a (.part i) p.id fun d => a.setP i { p with id := d }
  | staff {i k st : Nat} {p : Part} {q : Staff} : a.parts.l[i]? = some p → p.staves.l[k]? = some q → IdAt a (.staff i k st) q.id fun d => a.setP i (p.setS k { q with id := d })
  | measure {m : Nat} {y : Measure} : a.measures.l[m]? = some y → IdAt a (.measure m) y.id fun d => a.setM m { y with id := d }
  | event {m c v e : Nat} {y : Measure} {q : Cell} {z : Voice} {w : Event} : a.measures.l[m]? = some y → y.cells.l[c]? = some q → q.voices.l[v]? = some z → z.events.l[e]? = some w →
      IdAt a (.event m c v e) w.id fun d => a.setM m (y.setC c (q.setV v (z.setE e { w with id := d })))
  | spanner {i : Nat} {y : Spanner} : a.spanners.l[i]? = some y → IdAt a (.spanner i) y.id fun d => a.setX i { y with id := d }

/-- A score in a block, what lies below in blocks of a list. -/
def OwnScore (H : AHeap) (bS : Nat) (R : List Nat) (a : Score) : Prop := ∃ cs fp, H.cells bS = some cs ∧ OwnL (OwnX false 7) H cs a.enc.cells fp ∧ ∀ b ∈ fp, b ∈ R
/-- A pointer to an id. -/
def PtrTo (H : AHeap) (bS : Nat) (R : List Nat) (a : Score) (o : Pos) (p : AV) : Prop :=
  ∃ b off ds id g, p = .ptr b off ∧ b ∈ R ∧ H.cells b = some ds ∧ off + 2 ≤ ds.length ∧ ds[off]? = some (.sc (.int .i64 id.site)) ∧ ds[off + 1]? = some (.sc (.int .i64 id.number)) ∧ IdAt a o id g ∧
    (bS ∉ R → ∀ d : ID, OwnScore (H.put b (some (.cells (splice ds off [.sc (.int .i64 d.site), .sc (.int .i64 d.number)])))) bS R (g d))

theorem own_sc {I : Bool} {d : Nat} {H : AHeap} {v : AV} {x : Sc} {f : List Nat} (h : OwnX I d H v (.sc x) f) : v = .sc x ∧ f = [] := by
  cases d with
  | zero => exact h.elim
  | succ d =>
    cases v <;> simp only [OwnX] at h
    case sc => exact ⟨h.1.symm, h.2⟩
    case imm => simp at h
    case agg => obtain ⟨_, e, _⟩ := h; cases e
    case slice => rcases h with ⟨_, e, _⟩ | ⟨_, _, _, _, _, _, _, _, _, _, e, _⟩ <;> cases e
theorem ownL_cons {I : Bool} {d : Nat} {H : AHeap} {vs us : List AV} {u : AV} {fp : List Nat} (h : OwnL (OwnX I d) H vs (u :: us) fp) : ∃ v ws f g, vs = v :: ws ∧ OwnX I d H v u f ∧ OwnL (OwnX I d) H ws us g ∧ Apart f g ∧ fp = f ++ g := by
  cases h with
  | cons h1 h2 h3 => exact ⟨_, _, _, _, rfl, h1, h2, h3, rfl⟩
/-- The two numbers ahead. -/
theorem own_id {I : Bool} {d : Nat} {H : AHeap} {vs us : List AV} {x y : Sc} {fp : List Nat} (h : OwnL (OwnX I d) H vs (.sc x :: .sc y :: us) fp) (hd : d ≠ 0) :
    ∃ ws, vs = .sc x :: .sc y :: ws ∧ OwnL (OwnX I d) H ws us fp ∧ ∀ x' y' : Sc, OwnL (OwnX I d) H (.sc x' :: .sc y' :: ws) (.sc x' :: .sc y' :: us) fp := by
  obtain ⟨v1, w1, f1, g1, rfl, a1, a2, a3, rfl⟩ := ownL_cons h
  obtain ⟨v2, w2, f2, g2, rfl, b1, b2, b3, rfl⟩ := ownL_cons a2
  obtain ⟨rfl, rfl⟩ := own_sc a1
  obtain ⟨rfl, rfl⟩ := own_sc b1
  refine ⟨w2, rfl, by simpa using b2, fun x' y' => ?_⟩
  obtain ⟨d, rfl⟩ := Nat.exists_eq_succ_of_ne_zero hd
  exact .cons (f := []) OwnX.scal (.cons (f := []) OwnX.scal b2 Apart.nil_left) Apart.nil_left

theorem splice_splice {cs : List AV} {o n : Nat} {a b : AV} (h : o + n ≤ cs.length) (hn : 2 ≤ n) : splice cs o [a, b] = splice cs o (a :: b :: ((cs.drop o).take n).drop 2) := by
  have hl : (a :: b :: ((cs.drop o).take n).drop 2).length = n := by
    simp only [List.length_cons, List.length_drop, List.length_take]; omega
  have e1 : cs.drop (o + n) = (cs.drop (o + 2)).drop (n - 2) := by rw [List.drop_drop]; congr 1; omega
  have e2 : ((cs.drop o).take n).drop 2 = (cs.drop (o + 2)).take (n - 2) := by rw [List.drop_take, List.drop_drop]
  unfold splice
  rw [hl, e1, e2]
  simp only [List.append_assoc, List.cons_append, List.nil_append, List.take_append_drop, List.length_cons, List.length_nil]

theorem ptr_id {α : Type} {f : α → AV} {d n : Nat} {H : AHeap} {v : AV} {s : Sl α} {fp : List Nat} {i : Nat} {x : α} {id : ID} {us : List AV} (row : RowOf n f) (hn1 : 2 ≤ n) (h : OwnX false (d + 2) H v (slm f s) fp) (hi : s.l[i]? = some x)
    (hx : (f x).cells = .sc (.int .i64 id.site) :: .sc (.int .i64 id.number) :: us) (g : ID → α) (hg : ∀ d, (f (g d)).cells = .sc (.int .i64 d.site) :: .sc (.int .i64 d.number) :: us) :
    ∃ b off cap ds, v = .slice b off s.l.length cap n ∧ b ∈ fp ∧ H.cells b = some ds ∧ off + i * n + 2 ≤ ds.length ∧ ds[off + i * n]? = some (.sc (.int .i64 id.site)) ∧ ds[off + i * n + 1]? = some (.sc (.int .i64 id.number)) ∧
      ∀ d', ∃ fp', OwnX false (d + 2) (H.put b (some (.cells (splice ds (off + i * n) [.sc (.int .i64 d'.site), .sc (.int .i64 d'.number)])))) v (slm f (some (s.l.set i (g d')))) fp' ∧ ∀ c ∈ fp', c ∈ fp := by
  obtain ⟨b, off, cap, cs, fp1, h1, h2, h3, h4, h5, h6, h7, h8⟩ := own_elem_fit row (by omega) h hi
  rw [hx] at h7
  obtain ⟨ws, k1, k2, k3⟩ := own_id h7 (by omega)
  have c0 : cs[off + i * n]? = some (.sc (.int .i64 id.site)) := by
    have := congrArg (fun l => l[0]?) k1
    simp only [List.getElem?_take, List.getElem?_drop, List.getElem?_cons_zero, Nat.add_zero] at this
    rw [if_pos (by omega)] at this; exact this
  have c1 : cs[off + i * n + 1]? = some (.sc (.int .i64 id.number)) := by
    have := congrArg (fun l => l[1]?) k1
    simp only [List.getElem?_take, List.getElem?_drop, List.getElem?_cons_succ, List.getElem?_cons_zero] at this
    rw [if_pos (by omega)] at this; exact this
  refine ⟨b, off, cap, cs, h1, h4, h2, by omega, c0, c1, fun d' => ?_⟩
  have e1 : ((cs.drop (off + i * n)).take n).drop 2 = ws := by rw [k1]; rfl
  rw [splice_splice h3 hn1, e1]
  have lw : ws.length + 2 = n := by
    have := congrArg List.length k1
    simp only [List.length_take, List.length_drop, List.length_cons] at this
    omega
  have hk : ∀ c, c ≠ b → (H.put b (some (.cells (splice cs (off + i * n) (.sc (.int .i64 d'.site) :: .sc (.int .i64 d'.number) :: ws))))).cells c = H.cells c := fun c hc => c_put_ne hc
  obtain ⟨fp', r1, r2⟩ := h8 (g d') _ (b :: fp1) ⟨.sc (.int .i64 d'.site) :: .sc (.int .i64 d'.number) :: ws, fp1, h_put_self h2, by simp; omega, by rw [hg]; exact (k3 _ _).fr fun c hc => hk c fun e => h5 (e ▸ hc), h5, rfl⟩
    (fun c hc hc2 => hk c fun e => hc2 (by simp [e])) (fun c hc => .inl hc)
  refine ⟨fp', r1, fun c hc => ?_⟩
  rcases r2 c hc with h | ⟨h, _⟩
  · rcases List.mem_cons.1 h with rfl | h
    · exact h4
    · exact h6 c h
  · exact h

/-- One of the lists of a score, and how it is put anew. -/
def Foc (H : AHeap) (bS : Nat) (R : List Nat) (a : Score) (v : AV) (j : Nat) (u : AV) : Prop :=
  ∃ f, OwnX false 7 H v u f ∧ (∀ b ∈ f, b ∈ R) ∧ ∀ (a' : Score) (u' : AV), a'.enc.cells = a.enc.cells.set j u' → ∀ H' f' R', OwnX false 7 H' v u' f' → H'.cells bS = H.cells bS → (∀ b ∈ R, b ∉ f → H'.cells b = H.cells b) →
    (∀ b ∈ f', b ∈ f ∨ b ∉ R) → (∀ b ∈ R, b ∈ R') → (∀ b ∈ f', b ∈ R') → OwnScore H' bS R' a'
section
variable {H : AHeap} {bS : Nat} {R : List Nat} {a : Score}
theorem set_same {cs : List AV} {j : Nat} {v : AV} (hj : cs[j]? = some v) : cs.set j v = cs := by
  apply List.ext_getElem?
  intro q
  rw [List.getElem?_set]
  by_cases e : j = q
  · subst e; rw [if_pos rfl, hj]
    have := (List.getElem?_eq_some_iff.1 hj).1
    rw [if_pos this]
  · rw [if_neg e]
theorem own_foc {cs : List AV} {fp : List Nat} (hS : H.cells bS = some cs) (ho : OwnL (OwnX false 7) H cs a.enc.cells fp) (hR : ∀ b ∈ fp, b ∈ R) {j : Nat} {u : AV} (hu : a.enc.cells[j]? = some u) : ∃ v, cs[j]? = some v ∧ Foc H bS R a v j u := by
  obtain ⟨v, f, a1, a2, a3, a4⟩ := ho.fit hu
  refine ⟨v, a1, f, a2, fun b hb => hR b (a3 b hb), fun a' u' he H' f' R' q1 q2 q3 q4 q5 q6 => ?_⟩
  obtain ⟨fp', r1, r2⟩ := a4 v u' H' f' q1 (fun b hb hb2 => q3 b (hR b hb) hb2) (fun b hb => (q4 b hb).imp id fun h h2 => h (hR b h2))
  rw [set_same a1, ← he] at r1
  refine ⟨cs, fp', by rw [q2]; exact hS, r1, fun b hb => ?_⟩
  rcases r2 b hb with h | ⟨h, _⟩
  · exact q6 b h
  · exact q5 b (hR b h)
theorem own_open (h : OwnScore H bS R a) : ∃ v2 v3 v4 v5, H.cells bS = some [.sc (.str a.title), .sc (.bool a.written), v2, v3, v4, v5] ∧
    Foc H bS R a v2 2 (slm Part.enc a.parts) ∧ Foc H bS R a v3 3 (slm Measure.enc a.measures) ∧ Foc H bS R a v4 4 (slm Spanner.enc a.spanners) ∧ Foc H bS R a v5 5 (slm ID.enc a.last) := by
  obtain ⟨cs, fp, hS, ho, hR⟩ := h
  obtain ⟨v2, v3, v4, v5, f2, f3, f4, f5, rfl, c2, c3, c4, c5, s2, s3, s4, s5⟩ := own6 ho
  obtain ⟨w2, e2, g2⟩ := own_foc hS ho hR (j := 2) (u := slm Part.enc a.parts) rfl
  obtain ⟨w3, e3, g3⟩ := own_foc hS ho hR (j := 3) (u := slm Measure.enc a.measures) rfl
  obtain ⟨w4, e4, g4⟩ := own_foc hS ho hR (j := 4) (u := slm Spanner.enc a.spanners) rfl
  obtain ⟨w5, e5, g5⟩ := own_foc hS ho hR (j := 5) (u := slm ID.enc a.last) rfl
  cases e2; cases e3; cases e4; cases e5
  exact ⟨_, _, _, _, hS, g2, g3, g4, g5⟩
theorem Foc.len {α : Type} {f : α → AV} {v : AV} {j : Nat} {s : Sl α} (h : Foc H bS R a v j (slm f s)) : lenOf v = some (.sc (.int .i64 s.l.length)) := by
  obtain ⟨f, h, _⟩ := h; exact (own_len h).1
/-- The end of all that follows: an id is written. -/
theorem ptr_fin {α : Type} {f : α → AV} {v w : AV} {d n i : Nat} {g1 g2 : List Nat} {s : Sl α} {x : α} {id : ID} {us : List AV} {o : Pos} {gg : ID → Score} (row : RowOf n f) (hn1 : 2 ≤ n) (hw : OwnX false (d + 2) H w (slm f s) g2) (hi : s.l[i]? = some x)
    (hx : (f x).cells = .sc (.int .i64 id.site) :: .sc (.int .i64 id.number) :: us) (g : ID → α) (hg : ∀ d, (f (g d)).cells = .sc (.int .i64 d.site) :: .sc (.int .i64 d.number) :: us) (hI : IdAt a o id gg) (hg12 : ∀ b ∈ g2, b ∈ g1) (hg1 : ∀ b ∈ g1, b ∈ R)
    (U : ID → AV) (hF : ∀ d', Fit H g1 g2 (fun H' f' => OwnX false (d + 2) H' w (slm f (some (s.l.set i (g d')))) f') (fun H' f' => OwnX false 7 H' v (U d') f'))
    (hT : ∀ d' H' f' R', OwnX false 7 H' v (U d') f' → H'.cells bS = H.cells bS → (∀ b ∈ R, b ∉ g1 → H'.cells b = H.cells b) → (∀ b ∈ f', b ∈ g1 ∨ b ∉ R) → (∀ b ∈ R, b ∈ R') → (∀ b ∈ f', b ∈ R') → OwnScore H' bS R' (gg d')) :
    ∃ b off cap ds, w = .slice b off s.l.length cap n ∧ H.cells b = some ds ∧ off + i * n + 2 ≤ ds.length ∧ PtrTo H bS R a o (.ptr b (off + i * n)) := by
  obtain ⟨b, off, cap, ds, h1, h2, h3, h4, h5, h6, h7⟩ := ptr_id row hn1 hw hi hx g hg
  have hbR := hg1 b (hg12 b h2)
  refine ⟨b, off, cap, ds, h1, h3, h4, b, off + i * n, ds, id, gg, rfl, hbR, h3, h4, h5, h6, hI, fun hn d' => ?_⟩
  obtain ⟨fp', r1, r2⟩ := h7 d'
  have nb : bS ≠ b := fun e => hn (e ▸ hbR)
  obtain ⟨f', q1, q2⟩ := hF d' _ fp' r1 (fun c hc hc2 => c_put_ne fun e => hc2 (e ▸ h2)) (fun c hc => .inl (r2 c hc))
  have hsub : ∀ c ∈ f', c ∈ g1 := fun c hc => by
    rcases q2 c hc with h | ⟨h, _⟩
    · exact hg12 c (r2 c h)
    · exact h
  exact hT d' _ f' R q1 (c_put_ne nb) (fun c hc hc2 => c_put_ne fun e => hc2 (e ▸ hg12 b h2)) (fun c hc => .inl (hsub c hc)) (fun _ h => h) (fun c hc => hg1 c (hsub c hc))
theorem Fit.refl {H : AHeap} {f : List Nat} {A : AHeap → List Nat → Prop} : Fit H f f A A := fun H' f' hi _ _ => ⟨f', hi, fun b hb => .inl hb⟩

theorem ptr_part {v : AV} {i : Nat} {p : Part} (h : Foc H bS R a v 2 (slm Part.enc a.parts)) (hp : a.parts.l[i]? = some p) :
    ∃ b off cap ds, v = .slice b off a.parts.l.length cap 6 ∧ H.cells b = some ds ∧ off + i * 6 + 2 ≤ ds.length ∧ PtrTo H bS R a (.part i) (.ptr b (off + i * 6)) := by
  obtain ⟨f, h1, h2, h3⟩ := h
  exact ptr_fin (d := 5) row_Part (by decide) h1 hp rfl (fun d => { p with id := d }) (fun _ => rfl) (IdAt.part hp) (fun _ h => h) h2 _ (fun _ => Fit.refl) (fun d' => h3 _ _ rfl)
theorem ptr_measure {v : AV} {i : Nat} {p : Measure} (h : Foc H bS R a v 3 (slm Measure.enc a.measures)) (hp : a.measures.l[i]? = some p) :
    ∃ b off cap ds, v = .slice b off a.measures.l.length cap 22 ∧ H.cells b = some ds ∧ off + i * 22 + 2 ≤ ds.length ∧ PtrTo H bS R a (.measure i) (.ptr b (off + i * 22)) := by
  obtain ⟨f, h1, h2, h3⟩ := h
  exact ptr_fin (d := 5) row_Measure (by decide) h1 hp rfl (fun d => { p with id := d }) (fun _ => rfl) (IdAt.measure hp) (fun _ h => h) h2 _ (fun _ => Fit.refl) (fun d' => h3 _ _ rfl)
theorem ptr_spanner {v : AV} {i : Nat} {p : Spanner} (h : Foc H bS R a v 4 (slm Spanner.enc a.spanners)) (hp : a.spanners.l[i]? = some p) :
    ∃ b off cap ds, v = .slice b off a.spanners.l.length cap 7 ∧ H.cells b = some ds ∧ off + i * 7 + 2 ≤ ds.length ∧ PtrTo H bS R a (.spanner i) (.ptr b (off + i * 7)) := by
  obtain ⟨f, h1, h2, h3⟩ := h
  exact ptr_fin (d := 5) row_Spanner (by decide) h1 hp rfl (fun d => { p with id := d }) (fun _ => rfl) (IdAt.spanner hp) (fun _ h => h) h2 _ (fun _ => Fit.refl) (fun d' => h3 _ _ rfl)
theorem ptr_staff {v : AV} {i k st : Nat} {p : Part} {q : Staff} (h : Foc H bS R a v 2 (slm Part.enc a.parts)) (hp : a.parts.l[i]? = some p) (hq : p.staves.l[k]? = some q) :
    ∃ b1 o1 p1 z1 w b off cap ds, v = .slice b1 o1 a.parts.l.length p1 6 ∧ H.cells b1 = some z1 ∧ o1 + i * 6 + 5 + 1 ≤ z1.length ∧ z1[o1 + i * 6 + 5]? = some w ∧ w = .slice b off p.staves.l.length cap 3 ∧ H.cells b = some ds ∧ off + k * 3 + 2 ≤ ds.length ∧ PtrTo H bS R a (.staff i k st) (.ptr b (off + k * 3)) := by
  obtain ⟨f, h1, h2, h3⟩ := h
  obtain ⟨b1, o1, p1, z1, w, f2, a1, a2, a3, a4, a5, a6, a7, a8, a9⟩ := own_step row_Part (by decide) h1 hp (show (Part.enc p).cells[5]? = some (slm Staff.enc p.staves) from rfl)
  obtain ⟨b, off, cap, ds, g1, g2, g3, g4⟩ := ptr_fin (d := 4) (g1 := f) row_Staff' (by decide) a5 hq rfl (fun d => { q with id := d }) (fun _ => rfl) (IdAt.staff (st := st) hp hq) a6 h2 _ (fun d' => a9 _ (p.setS k { q with id := d' }) rfl) (fun d' => h3 _ _ rfl)
  exact ⟨b1, o1, p1, z1, w, b, off, cap, ds, a1, a2, a3, a4, g1, g2, g3, g4⟩
theorem ptr_event {v : AV} {m c vv e : Nat} {y : Measure} {q : Cell} {z : Voice} {x : Event} (h : Foc H bS R a v 3 (slm Measure.enc a.measures)) (hy : a.measures.l[m]? = some y) (hq : y.cells.l[c]? = some q) (hz : q.voices.l[vv]? = some z) (hx : z.events.l[e]? = some x) :
    ∃ b1 o1 p1 z1 w1 b2 o2 p2 z2 w2 b3 o3 p3 z3 w3 b off cap ds, v = .slice b1 o1 a.measures.l.length p1 22 ∧ H.cells b1 = some z1 ∧ z1[o1 + m * 22 + 21]? = some w1 ∧ w1 = .slice b2 o2 y.cells.l.length p2 2 ∧ H.cells b2 = some z2 ∧ z2[o2 + c * 2 + 1]? = some w2 ∧
      w2 = .slice b3 o3 q.voices.l.length p3 2 ∧ H.cells b3 = some z3 ∧ z3[o3 + vv * 2]? = some w3 ∧ w3 = .slice b off z.events.l.length cap 13 ∧ H.cells b = some ds ∧ off + e * 13 + 2 ≤ ds.length ∧ PtrTo H bS R a (.event m c vv e) (.ptr b (off + e * 13)) := by
  obtain ⟨f, h1, h2, h3⟩ := h
  obtain ⟨b1, o1, p1, z1, w1, f1, a1, a2, a3, a4, a5, a6, a7, a8, a9⟩ := own_step row_Measure (by decide) h1 hy (show (Measure.enc y).cells[21]? = some (slm Cell.enc y.cells) from rfl)
  obtain ⟨b2, o2, p2, z2, w2, f2, d1, d2, d3, d4, d5, d6, d7, d8, d9⟩ := own_step row_Cell (by decide) a5 hq (show (Cell.enc q).cells[1]? = some (slm Voice.enc q.voices) from rfl)
  obtain ⟨b3, o3, p3, z3, w3, f3, e1, e2, e3, e4, e5, e6, e7, e8, e9⟩ := own_step row_Voice (by decide) d5 hz (show (Voice.enc z).cells[0]? = some (slm Event.enc z.events) from rfl)
  have s2 : ∀ b ∈ f3, b ∈ f1 := fun b hb => d6 b (e6 b hb)
  obtain ⟨b, off, cap, ds, g1, g2, g3, g4⟩ := ptr_fin (d := 2) (g1 := f) row_Event (by decide) e5 hx rfl (fun d => { x with id := d }) (fun _ => rfl) (IdAt.event hy hq hz hx) (fun b hb => a6 b (s2 b hb)) h2 _
    (fun d' => Fit.trans (a9 _ (y.setC c (q.setV vv (z.setE e { x with id := d' }))) rfl) (Fit.trans (d9 _ (q.setV vv (z.setE e { x with id := d' })) rfl) (e9 _ (z.setE e { x with id := d' }) rfl) d6 e6) a6 s2) (fun d' => h3 _ _ rfl)
  exact ⟨b1, o1, p1, z1, w1, b2, o2, p2, z2, w2, b3, o3, p3, z3, w3, b, off, cap, ds, a1, a2, a4, d1, d2, d4, e1, e2, by simpa using e4, g1, g2, g3, g4⟩
end
end Go.Hem
/- Walks: what visit yields over a score that is owned. -/
set_option maxRecDepth 10000
set_option maxHeartbeats 4000000
set_option linter.unusedSimpArgs false
set_option linter.unusedVariables false
namespace Go.Hem
variable {pol : Pol}
structure SameShape (a s : Score) : Prop where
  parts : a.parts.l.length = s.parts.l.length
  staves : ∀ (i : Nat) p q, s.parts.l[i]? = some p → a.parts.l[i]? = some q → q.staves.l.length = p.staves.l.length
  measures : a.measures.l.length = s.measures.l.length
  cells : ∀ (m : Nat) y y', s.measures.l[m]? = some y → a.measures.l[m]? = some y' → y'.cells.l.length = y.cells.l.length
  voices : ∀ (m : Nat) y y' (c : Nat) q q', s.measures.l[m]? = some y → a.measures.l[m]? = some y' → y.cells.l[c]? = some q → y'.cells.l[c]? = some q' → q'.voices.l.length = q.voices.l.length
  events : ∀ (m : Nat) y y' (c : Nat) q q' (v : Nat) z z', s.measures.l[m]? = some y → a.measures.l[m]? = some y' → y.cells.l[c]? = some q → y'.cells.l[c]? = some q' → q.voices.l[v]? = some z → q'.voices.l[v]? = some z' → z'.events.l.length = z.events.l.length
  spanners : a.spanners.l.length = s.spanners.l.length
theorem same_at {α : Type} {l : List α} {x y : α} {i : Nat} (h : l[i]? = some x) (k : l[i]? = some y) : y = x := by rw [h] at k; cases k; rfl
theorem SameShape.refl (s : Score) : SameShape s s := by
  refine ⟨rfl, fun i p q h k => by rw [same_at h k], rfl, fun m y y' h k => by rw [same_at h k], fun m y y' c q q' h k h2 k2 => ?_, fun m y y' c q q' v z z' h k h2 k2 h3 k3 => ?_, rfl⟩
  · have := same_at h k; subst this; rw [same_at h2 k2]
  · have := same_at h k; subst this
    have := same_at h2 k2; subst this
    rw [same_at h3 k3]
theorem at_len {α β : Type} {l : List α} {l' : List β} {i : Nat} {x : α} (h : l'.length = l.length) (hx : l[i]? = some x) : ∃ y, l'[i]? = some y := ⟨_, List.getElem?_eq_getElem (by have := (List.getElem?_eq_some_iff.1 hx).1; omega)⟩
section
variable {a s : Score} (h : SameShape a s)
include h
theorem SameShape.getP {i : Nat} {p : Part} (hp : s.parts.l[i]? = some p) : ∃ q, a.parts.l[i]? = some q ∧ q.staves.l.length = p.staves.l.length := by
  obtain ⟨q, hq⟩ := at_len h.parts hp
  exact ⟨q, hq, h.staves _ _ _ hp hq⟩
theorem SameShape.getM {i : Nat} {p : Measure} (hp : s.measures.l[i]? = some p) : ∃ q, a.measures.l[i]? = some q ∧ q.cells.l.length = p.cells.l.length := by
  obtain ⟨q, hq⟩ := at_len h.measures hp
  exact ⟨q, hq, h.cells _ _ _ hp hq⟩
theorem SameShape.getC {m c : Nat} {y y' : Measure} {q : Cell} (hy : s.measures.l[m]? = some y) (hy' : a.measures.l[m]? = some y') (hq : y.cells.l[c]? = some q) : ∃ q', y'.cells.l[c]? = some q' ∧ q'.voices.l.length = q.voices.l.length := by
  obtain ⟨q', hq'⟩ := at_len (h.cells _ _ _ hy hy') hq
  exact ⟨q', hq', h.voices _ _ _ _ _ _ hy hy' hq hq'⟩
theorem SameShape.getV {m c v : Nat} {y y' : Measure} {q q' : Cell} {z : Voice} (hy : s.measures.l[m]? = some y) (hy' : a.measures.l[m]? = some y') (hq : y.cells.l[c]? = some q) (hq' : y'.cells.l[c]? = some q') (hz : q.voices.l[v]? = some z) : ∃ z', q'.voices.l[v]? = some z' ∧ z'.events.l.length = z.events.l.length := by
  obtain ⟨z', hz'⟩ := at_len (h.voices _ _ _ _ _ _ hy hy' hq hq') hz
  exact ⟨z', hz', h.events _ _ _ _ _ _ _ _ _ hy hy' hq hq' hz hz'⟩
end
section
variable {H : AHeap} {bS : Nat} {R : List Nat} {a : Score}
theorem foc_part {v : AV} {i : Nat} {p : Part} (h : Foc H bS R a v 2 (slm Part.enc a.parts)) (hp : a.parts.l[i]? = some p) :
    ∃ b o c z w, v = .slice b o a.parts.l.length c 6 ∧ H.cells b = some z ∧ z[o + i * 6 + 5]? = some w ∧ lenOf w = some (.sc (.int .i64 p.staves.l.length)) := by
  obtain ⟨f, h1, h2, h3⟩ := h
  obtain ⟨b1, o1, p1, z1, w, f2, a1, a2, a3, a4, a5, a6, a7, a8, a9⟩ := own_step row_Part (by decide) h1 hp (show (Part.enc p).cells[5]? = some (slm Staff.enc p.staves) from rfl)
  exact ⟨b1, o1, p1, z1, w, a1, a2, a4, (own_len a5).1⟩
theorem foc_meas {v : AV} {i : Nat} {p : Measure} (h : Foc H bS R a v 3 (slm Measure.enc a.measures)) (hp : a.measures.l[i]? = some p) :
    ∃ b o c z w, v = .slice b o a.measures.l.length c 22 ∧ H.cells b = some z ∧ z[o + i * 22 + 21]? = some w ∧ lenOf w = some (.sc (.int .i64 p.cells.l.length)) := by
  obtain ⟨f, h1, h2, h3⟩ := h
  obtain ⟨b1, o1, p1, z1, w, f2, a1, a2, a3, a4, a5, a6, a7, a8, a9⟩ := own_step row_Measure (by decide) h1 hp (show (Measure.enc p).cells[21]? = some (slm Cell.enc p.cells) from rfl)
  exact ⟨b1, o1, p1, z1, w, a1, a2, a4, (own_len a5).1⟩
theorem foc_cell {v : AV} {m c : Nat} {y : Measure} {q : Cell} (h : Foc H bS R a v 3 (slm Measure.enc a.measures)) (hy : a.measures.l[m]? = some y) (hq : y.cells.l[c]? = some q) :
    ∃ b1 o1 p1 z1 w1 b2 o2 p2 z2 w2, v = .slice b1 o1 a.measures.l.length p1 22 ∧ H.cells b1 = some z1 ∧ z1[o1 + m * 22 + 21]? = some w1 ∧ w1 = .slice b2 o2 y.cells.l.length p2 2 ∧ H.cells b2 = some z2 ∧ z2[o2 + c * 2 + 1]? = some w2 ∧ lenOf w2 = some (.sc (.int .i64 q.voices.l.length)) := by
  obtain ⟨f, h1, h2, h3⟩ := h
  obtain ⟨b1, o1, p1, z1, w1, f1, a1, a2, a3, a4, a5, a6, a7, a8, a9⟩ := own_step row_Measure (by decide) h1 hy (show (Measure.enc y).cells[21]? = some (slm Cell.enc y.cells) from rfl)
  obtain ⟨b2, o2, p2, z2, w2, f2, d1, d2, d3, d4, d5, d6, d7, d8, d9⟩ := own_step row_Cell (by decide) a5 hq (show (Cell.enc q).cells[1]? = some (slm Voice.enc q.voices) from rfl)
  exact ⟨b1, o1, p1, z1, w1, b2, o2, p2, z2, w2, a1, a2, a4, d1, d2, d4, (own_len d5).1⟩
theorem foc_voice {v : AV} {m c vv : Nat} {y : Measure} {q : Cell} {z : Voice} (h : Foc H bS R a v 3 (slm Measure.enc a.measures)) (hy : a.measures.l[m]? = some y) (hq : y.cells.l[c]? = some q) (hz : q.voices.l[vv]? = some z) :
    ∃ b1 o1 p1 z1 w1 b2 o2 p2 z2 w2 b3 o3 p3 z3 w3, v = .slice b1 o1 a.measures.l.length p1 22 ∧ H.cells b1 = some z1 ∧ z1[o1 + m * 22 + 21]? = some w1 ∧ w1 = .slice b2 o2 y.cells.l.length p2 2 ∧ H.cells b2 = some z2 ∧ z2[o2 + c * 2 + 1]? = some w2 ∧
      w2 = .slice b3 o3 q.voices.l.length p3 2 ∧ H.cells b3 = some z3 ∧ z3[o3 + vv * 2]? = some w3 ∧ lenOf w3 = some (.sc (.int .i64 z.events.l.length)) := by
  obtain ⟨f, h1, h2, h3⟩ := h
  obtain ⟨b1, o1, p1, z1, w1, f1, a1, a2, a3, a4, a5, a6, a7, a8, a9⟩ := own_step row_Measure (by decide) h1 hy (show (Measure.enc y).cells[21]? = some (slm Cell.enc y.cells) from rfl)
  obtain ⟨b2, o2, p2, z2, w2, f2, d1, d2, d3, d4, d5, d6, d7, d8, d9⟩ := own_step row_Cell (by decide) a5 hq (show (Cell.enc q).cells[1]? = some (slm Voice.enc q.voices) from rfl)
  obtain ⟨b3, o3, p3, z3, w3, f3, e1, e2, e3, e4, e5, e6, e7, e8, e9⟩ := own_step row_Voice (by decide) d5 hz (show (Voice.enc z).cells[0]? = some (slm Event.enc z.events) from rfl)
  exact ⟨b1, o1, p1, z1, w1, b2, o2, p2, z2, w2, b3, o3, p3, z3, w3, a1, a2, a4, d1, d2, d4, e1, e2, by simpa using e4, (own_len e5).1⟩
end
theorem visit_own (s : Score) (hT : Tame s) (l bs bS : Nat) (R : List Nat) (S : List Pos → Score) (J : List Pos → AHeap → Prop) (D : AHeap → Prop)
    (hJ : ∀ r H, J r H → H.cells bs = some [.ptr bS 0] ∧ OwnScore H bS R (S r) ∧ SameShape (S r) s)
    (hy : ∀ o r H p, J (o :: r) H → PtrTo H bS R (S (o :: r)) o p → Ev prog pol (.yield l [o.place.enc, p]) H fun q H' => (q = .val (.sc (.bool true)) ∧ J r H') ∨ (q = .val (.sc (.bool false)) ∧ D H'))
    {H : AHeap} (h0 : J (poss s) H) : Ev prog pol (.call 110 [.yield l, .ptr bs 0]) H fun q H' => ∃ v, q = .val v ∧ (J [] H' ∨ D H') := by
  obtain ⟨hs, hst, hl1, hl2, hl3, hT1, hT2, hT3⟩ := hT
  have fin : ∀ t H', J [] H' ∨ D H' → ∃ v, cresults t H' [] = some v ∧ (J [] H' ∨ D H') := fun t H' h => ⟨_, rfl, h⟩
  refine wpF_ok ok110 (Q := fun v H' => J [] H' ∨ D H') ?_
  obtain ⟨hB, hO, hSh⟩ := hJ _ _ h0
  obtain ⟨v2, v3, v4, v5, hS, F2, F3, F4, F5⟩ := own_open hO
  have L2 := F2.len
  have L3 := F3.len
  have L4 := F4.len
  rw [hSh.parts] at L2
  rw [hSh.measures] at L3
  rw [hSh.spanners] at L4
  simp -implicitDefEqProofs (maxDischargeDepth := 12) only [wpF, cf110, WW,List.replicate,e_splice,if_true,if_false,ite_true,ite_false,true_or,ne_eq,seval,h_putc,beq_self_eq_true,eq_self,exists_eq_left,exists_eq_left', hB, hS, L2]
  refine wp_loop (Inv := fun k t H => ∃ (i : Nat), i + k = s.parts.l.length ∧ J (posParts i (stavesOf (s.parts.l.take i)) (s.parts.l.drop i) ++ (posMeasures 0 s.measures.l ++ posSpanners 0 s.spanners.l)) H ∧
    ∃ x : Nat → AV, t = [.yield l, .ptr bs 0, x 2, .sc (.int .i64 (stavesOf (s.parts.l.take i))), x 4, x 5, x 6, x 7, x 8, x 9, x 10, x 11, x 12, x 13, x 14, .sc (.int .i64 s.parts.l.length), .sc (.int .i64 i), x 17, x 18, x 19, x 20, x 21, x 22, x 23, x 24, x 25, x 26, x 27, x 28, x 29, x 30, x 31, x 32, x 33, x 34, x 35, x 36, x 37, x 38, x 39, x 40, x 41, x 42, x 43, x 44, x 45, x 46, x 47, x 48, x 49, x 50, x 51, x 52, x 53, x 54, x 55, x 56, x 57, x 58, x 59, x 60, x 61, x 62, x 63, x 64, x 65, x 66, x 67, x 68, x 69, x 70, x 71, x 72, x 73, x 74, x 75, x 76, x 77, x 78, x 79, x 80, x 81, x 82, x 83, x 84, x 85, x 86, x 87, x 88, x 89, x 90, x 91, x 92, x 93, x 94, x 95, x 96, x 97, x 98, x 99, x 100, x 101, x 102, x 103, x 104, x 105, x 106, x 107, x 108, x 109, x 110, x 111, x 112, x 113, x 114, x 115, x 116, x 117, x 118, x 119, x 120, x 121, x 122, x 123, x 124, x 125, x 126, x 127, x 128, x 129, x 130, x 131, x 132, x 133, x 134, x 135, x 136, x 137, x 138, x 139, x 140, x 141, x 142, x 143, x 144, x 145, x 146, x 147, x 148, x 149, x 150, x 151, x 152, x 153, x 154, x 155, x 156, x 157, x 158, x 159, x 160, x 161, x 162, x 163, x 164, x 165, x 166, x 167, x 168, x 169, x 170, x 171, x 172, x 173, x 174, x 175, x 176, x 177, x 178, x 179, x 180, x 181, x 182]) (k := s.parts.l.length) ?_
    ⟨0, by omega, h0, ex_x rfl⟩
  clear h0 hB hO hSh hS F2 F3 F4 F5 L2 L3 L4 v2 v3 v4 v5
  rintro k t H ⟨i, hk, h0, x, rfl⟩
  obtain ⟨hB, hO, hSh⟩ := hJ _ _ h0
  obtain ⟨v2, v3, v4, v5, hS, F2, F3, F4, F5⟩ := own_open hO
  have L2 := F2.len
  have L3 := F3.len
  have L4 := F4.len
  rw [hSh.parts] at L2
  rw [hSh.measures] at L3
  rw [hSh.spanners] at L4
  by_cases h1 : (i : Int) < (s.parts.l.length : Int)
  · obtain ⟨p, hp⟩ : ∃ y, s.parts.l[i]? = some y := ⟨_, List.getElem?_eq_getElem (by omega)⟩
    have e2 : IntKind.i64.wrap ((i : Int) + 1) = ((i + 1 : Nat) : Int) := by rw [w64 (by omega) (by omega)]; omega
    have n1 : i < s.parts.l.length := by omega
    have hst2 := stavesOf_at hp
    rw [drop_cons hp, posParts] at h0 hO hSh F2 F3 F4 F5
    obtain ⟨p', hp', hpl⟩ := hSh.getP hp
    obtain ⟨b, o, c, ds, e, hd, hl, hPt⟩ := ptr_part F2 hp'
    rw [hSh.parts] at e
    simp -implicitDefEqProofs (maxDischargeDepth := 12) only [WW,List.replicate,e_splice,if_true,if_false,ite_true,ite_false,true_or,ne_eq,seval,h_putc,beq_self_eq_true,eq_self,exists_eq_left,exists_eq_left', hB, hS, h1, n1, e, e_cally]
    clear hp' hpl hd hl e
    refine wA_yield ((hy (.part i) _ _ _ h0 hPt).mono fun q H' h => ?_)
    rcases h with ⟨rfl, h⟩ | ⟨rfl, h⟩
    rotate_left
    · refine ⟨_, rfl, by simp only [k_nil], ?_⟩
      simp -implicitDefEqProofs (maxDischargeDepth := 12) only [WW,List.replicate,e_splice,if_true,if_false,ite_true,ite_false,true_or,ne_eq,seval,h_putc,beq_self_eq_true,eq_self,exists_eq_left,exists_eq_left', cr_nil]
      exact .inr h
    refine ⟨_, rfl, by simp only [k_nil], ?_⟩
    clear hPt h0 hB hO hSh hS F2 F3 F4 F5 L2 L3 L4
    obtain ⟨hB, hO, hSh⟩ := hJ _ _ h
    obtain ⟨v2, v3, v4, v5, hS, F2, F3, F4, F5⟩ := own_open hO
    have L2 := F2.len
    have L3 := F3.len
    have L4 := F4.len
    rw [hSh.parts] at L2
    rw [hSh.measures] at L3
    rw [hSh.spanners] at L4
    obtain ⟨p', hp', hpl⟩ := hSh.getP hp
    obtain ⟨b, o, c, ds, w, e, hd, hw, hwl⟩ := foc_part F2 hp'
    rw [hSh.parts] at e
    rw [hpl] at hwl
    simp -implicitDefEqProofs (maxDischargeDepth := 12) only [WW,List.replicate,e_splice,if_true,if_false,ite_true,ite_false,true_or,ne_eq,seval,h_putc,beq_self_eq_true,eq_self,exists_eq_left,exists_eq_left', hB, hS, n1, e, hd, hw, hwl]
    refine wp_loop (Inv := fun k t H => ∃ (j : Nat), j + k = p.staves.l.length ∧ J (posStaves i j (stavesOf (s.parts.l.take i) + j) (p.staves.l.drop j) ++ posParts (i + 1) (stavesOf (s.parts.l.take i) + p.staves.l.length) (s.parts.l.drop (i + 1)) ++ (posMeasures 0 s.measures.l ++ posSpanners 0 s.spanners.l)) H ∧
      ∃ x : Nat → AV, t = [.yield l, .ptr bs 0, x 2, .sc (.int .i64 ((stavesOf (s.parts.l.take i) + j : Nat) : Int)), .sc (.int .i64 i), x 5, x 6, x 7, x 8, x 9, x 10, x 11, x 12, x 13, x 14, .sc (.int .i64 s.parts.l.length), .sc (.int .i64 i), x 17, x 18, x 19, x 20, x 21, x 22, x 23, x 24, x 25, x 26, x 27, x 28, x 29, x 30, x 31, x 32, x 33, x 34, x 35, x 36, x 37, x 38, .sc (.int .i64 p.staves.l.length), .sc (.int .i64 j), x 41, x 42, x 43, x 44, x 45, x 46, x 47, x 48, x 49, x 50, x 51, x 52, x 53, x 54, x 55, x 56, x 57, x 58, x 59, x 60, x 61, x 62, x 63, x 64, x 65, x 66, x 67, x 68, x 69, x 70, x 71, x 72, x 73, x 74, x 75, x 76, x 77, x 78, x 79, x 80, x 81, x 82, x 83, x 84, x 85, x 86, x 87, x 88, x 89, x 90, x 91, x 92, x 93, x 94, x 95, x 96, x 97, x 98, x 99, x 100, x 101, x 102, x 103, x 104, x 105, x 106, x 107, x 108, x 109, x 110, x 111, x 112, x 113, x 114, x 115, x 116, x 117, x 118, x 119, x 120, x 121, x 122, x 123, x 124, x 125, x 126, x 127, x 128, x 129, x 130, x 131, x 132, x 133, x 134, x 135, x 136, x 137, x 138, x 139, x 140, x 141, x 142, x 143, x 144, x 145, x 146, x 147, x 148, x 149, x 150, x 151, x 152, x 153, x 154, x 155, x 156, x 157, x 158, x 159, x 160, x 161, x 162, x 163, x 164, x 165, x 166, x 167, x 168, x 169, x 170, x 171, x 172, x 173, x 174, x 175, x 176, x 177, x 178, x 179, x 180, x 181, x 182]) (k := p.staves.l.length) ?_
      ⟨0, by omega, by simpa using h, ex_x rfl⟩
    clear h hB hO hSh hS F2 F3 F4 F5 L2 L3 L4 v2 v3 v4 v5 x p' hp' hpl b o c ds w e hd hw hwl
    rintro k' t H ⟨j, hk', h0, x, rfl⟩
    obtain ⟨hB, hO, hSh⟩ := hJ _ _ h0
    obtain ⟨v2, v3, v4, v5, hS, F2, F3, F4, F5⟩ := own_open hO
    have L2 := F2.len
    have L3 := F3.len
    have L4 := F4.len
    rw [hSh.parts] at L2
    rw [hSh.measures] at L3
    rw [hSh.spanners] at L4
    by_cases h3 : (j : Int) < (p.staves.l.length : Int)
    · obtain ⟨q, hq⟩ : ∃ y, p.staves.l[j]? = some y := ⟨_, List.getElem?_eq_getElem (by omega)⟩
      have n3 : j < p.staves.l.length := by omega
      have e3 : IntKind.i64.wrap ((j : Int) + 1) = ((j + 1 : Nat) : Int) := by rw [w64 (by omega) (by omega)]; omega
      have e4 : IntKind.i64.wrap (((stavesOf (s.parts.l.take i) + j : Nat) : Int) + 1) = ((stavesOf (s.parts.l.take i) + (j + 1) : Nat) : Int) := by rw [w64 (by omega) (by omega)]; omega
      rw [drop_cons hq, posStaves] at h0 hO hSh F2 F3 F4 F5
      obtain ⟨p', hp', hpl⟩ := hSh.getP hp
      obtain ⟨q', hq'⟩ := at_len hpl hq
      obtain ⟨b1, o1, c1, z1, w, b, o, c, ds, e, hz1, hl1, hw, hwe, hd, hl, hPt⟩ := ptr_staff (st := stavesOf (s.parts.l.take i) + j) F2 hp' hq'
      rw [hSh.parts] at e
      rw [hpl] at hwe
      simp -implicitDefEqProofs (maxDischargeDepth := 12) only [WW,List.replicate,e_splice,if_true,if_false,ite_true,ite_false,true_or,ne_eq,seval,h_putc,beq_self_eq_true,eq_self,exists_eq_left,exists_eq_left', hB, hS, h3, n1, n3, e, hz1, hw, hwe, e_cally]
      clear hp' hpl hq' e hz1 hl1 hw hwe hd hl
      refine wA_yield ((hy (.staff i j (stavesOf (s.parts.l.take i) + j)) _ _ _ h0 hPt).mono fun q H' h => ?_)
      rcases h with ⟨rfl, h⟩ | ⟨rfl, h⟩
      rotate_left
      · refine ⟨_, rfl, by simp only [k_nil], ?_⟩
        simp -implicitDefEqProofs (maxDischargeDepth := 12) only [WW,List.replicate,e_splice,if_true,if_false,ite_true,ite_false,true_or,ne_eq,seval,h_putc,beq_self_eq_true,eq_self,exists_eq_left,exists_eq_left', cr_nil]
        exact .inr h
      refine ⟨_, rfl, by simp only [k_nil], ?_⟩
      clear hPt h0 hB hO hSh hS F2 F3 F4 F5 L2 L3 L4
      obtain ⟨hB, hO, hSh⟩ := hJ _ _ h
      obtain ⟨v2, v3, v4, v5, hS, F2, F3, F4, F5⟩ := own_open hO
      have L2 := F2.len
      have L3 := F3.len
      have L4 := F4.len
      rw [hSh.parts] at L2
      rw [hSh.measures] at L3
      rw [hSh.spanners] at L4
      simp -implicitDefEqProofs (maxDischargeDepth := 12) only [WW,List.replicate,e_splice,if_true,if_false,ite_true,ite_false,true_or,ne_eq,seval,h_putc,beq_self_eq_true,eq_self,exists_eq_left,exists_eq_left', e3, e4]
      exact ⟨k' - 1, by omega, j + 1, by omega, by simpa [Nat.add_assoc] using h, ex_x rfl⟩
    · have hj : j = p.staves.l.length := by omega
      simp -implicitDefEqProofs (maxDischargeDepth := 12) only [WW,List.replicate,e_splice,if_true,if_false,ite_true,ite_false,true_or,ne_eq,seval,h_putc,beq_self_eq_true,eq_self,exists_eq_left,exists_eq_left', h3, e2]
      rw [drop_end h3] at h0
      simp only [posStaves, List.nil_append] at h0
      rw [hj, ← stavesOf_take hp]
      rw [← stavesOf_take hp] at h0
      exact ⟨k - 1, by omega, i + 1, by omega, h0, ex_x rfl⟩
  · rw [drop_end h1] at h0
    simp only [posParts, List.nil_append] at h0
    simp -implicitDefEqProofs (maxDischargeDepth := 12) only [WW,List.replicate,e_splice,if_true,if_false,ite_true,ite_false,true_or,ne_eq,seval,h_putc,beq_self_eq_true,eq_self,exists_eq_left,exists_eq_left', hB, hS, h1, L3]
    refine wp_loop (Inv := fun k t H => ∃ (m : Nat), m + k = s.measures.l.length ∧ J (posMeasures m (s.measures.l.drop m) ++ posSpanners 0 s.spanners.l) H ∧
      ∃ x : Nat → AV, t = [.yield l, .ptr bs 0, x 2, x 3, x 4, x 5, x 6, x 7, x 8, x 9, x 10, x 11, x 12, x 13, x 14, x 15, x 16, x 17, x 18, x 19, x 20, x 21, x 22, x 23, x 24, x 25, x 26, x 27, x 28, x 29, x 30, x 31, x 32, x 33, x 34, x 35, x 36, x 37, x 38, x 39, x 40, x 41, x 42, x 43, x 44, x 45, x 46, x 47, x 48, x 49, x 50, x 51, x 52, x 53, x 54, x 55, x 56, x 57, x 58, x 59, x 60, x 61, x 62, x 63, x 64, x 65, x 66, .sc (.int .i64 s.measures.l.length), .sc (.int .i64 m), x 69, x 70, x 71, x 72, x 73, x 74, x 75, x 76, x 77, x 78, x 79, x 80, x 81, x 82, x 83, x 84, x 85, x 86, x 87, x 88, x 89, x 90, x 91, x 92, x 93, x 94, x 95, x 96, x 97, x 98, x 99, x 100, x 101, x 102, x 103, x 104, x 105, x 106, x 107, x 108, x 109, x 110, x 111, x 112, x 113, x 114, x 115, x 116, x 117, x 118, x 119, x 120, x 121, x 122, x 123, x 124, x 125, x 126, x 127, x 128, x 129, x 130, x 131, x 132, x 133, x 134, x 135, x 136, x 137, x 138, x 139, x 140, x 141, x 142, x 143, x 144, x 145, x 146, x 147, x 148, x 149, x 150, x 151, x 152, x 153, x 154, x 155, x 156, x 157, x 158, x 159, x 160, x 161, x 162, x 163, x 164, x 165, x 166, x 167, x 168, x 169, x 170, x 171, x 172, x 173, x 174, x 175, x 176, x 177, x 178, x 179, x 180, x 181, x 182]) (k := s.measures.l.length) ?_
      ⟨0, by omega, by simpa using h0, ex_x rfl⟩
    clear h0 hB hO hSh hS F2 F3 F4 F5 L2 L3 L4 v2 v3 v4 v5 x h1 hk
    rintro k t H ⟨m, hk, h0, x, rfl⟩
    obtain ⟨hB, hO, hSh⟩ := hJ _ _ h0
    obtain ⟨v2, v3, v4, v5, hS, F2, F3, F4, F5⟩ := own_open hO
    have L2 := F2.len
    have L3 := F3.len
    have L4 := F4.len
    rw [hSh.parts] at L2
    rw [hSh.measures] at L3
    rw [hSh.spanners] at L4
    by_cases h1 : (m : Int) < (s.measures.l.length : Int)
    · obtain ⟨y, hy'⟩ : ∃ y, s.measures.l[m]? = some y := ⟨_, List.getElem?_eq_getElem (by omega)⟩
      have n1 : m < s.measures.l.length := by omega
      have e2 : IntKind.i64.wrap ((m : Int) + 1) = ((m + 1 : Nat) : Int) := by rw [w64 (by omega) (by omega)]; omega
      have b1 := hT1 _ _ hy'
      rw [drop_cons hy', posMeasures] at h0 hO hSh F2 F3 F4 F5
      obtain ⟨y', hq, hql⟩ := hSh.getM hy'
      obtain ⟨b, o, c, ds, e, hd, hl, hPt⟩ := ptr_measure F3 hq
      rw [hSh.measures] at e
      simp -implicitDefEqProofs (maxDischargeDepth := 12) only [WW,List.replicate,e_splice,if_true,if_false,ite_true,ite_false,true_or,ne_eq,seval,h_putc,beq_self_eq_true,eq_self,exists_eq_left,exists_eq_left', hB, hS, h1, n1, e, e_cally]
      clear hq hql hd hl e
      refine wA_yield ((hy (.measure m) _ _ _ h0 hPt).mono fun q H' h => ?_)
      rcases h with ⟨rfl, h⟩ | ⟨rfl, h⟩
      rotate_left
      · refine ⟨_, rfl, by simp only [k_nil], ?_⟩
        simp -implicitDefEqProofs (maxDischargeDepth := 12) only [WW,List.replicate,e_splice,if_true,if_false,ite_true,ite_false,true_or,ne_eq,seval,h_putc,beq_self_eq_true,eq_self,exists_eq_left,exists_eq_left', cr_nil]
        exact .inr h
      refine ⟨_, rfl, by simp only [k_nil], ?_⟩
      clear hPt h0 hB hO hSh hS F2 F3 F4 F5 L2 L3 L4
      obtain ⟨hB, hO, hSh⟩ := hJ _ _ h
      obtain ⟨v2, v3, v4, v5, hS, F2, F3, F4, F5⟩ := own_open hO
      have L2 := F2.len
      have L3 := F3.len
      have L4 := F4.len
      rw [hSh.parts] at L2
      rw [hSh.measures] at L3
      rw [hSh.spanners] at L4
      obtain ⟨y', hq, hql⟩ := hSh.getM hy'
      obtain ⟨b, o, c, ds, w, e, hd, hw, hwl⟩ := foc_meas F3 hq
      rw [hSh.measures] at e
      rw [hql] at hwl
      simp -implicitDefEqProofs (maxDischargeDepth := 12) only [WW,List.replicate,e_splice,if_true,if_false,ite_true,ite_false,true_or,ne_eq,seval,h_putc,beq_self_eq_true,eq_self,exists_eq_left,exists_eq_left', hB, hS, n1, e, hd, hw, hwl]
      refine wp_loop (Inv := fun k t H => ∃ (c : Nat), c + k = y.cells.l.length ∧ J (posCells m c (y.cells.l.drop c) ++ posMeasures (m + 1) (s.measures.l.drop (m + 1)) ++ posSpanners 0 s.spanners.l) H ∧
        ∃ x : Nat → AV, t = [.yield l, .ptr bs 0, x 2, x 3, x 4, x 5, .sc (.int .i64 m), x 7, x 8, x 9, x 10, x 11, x 12, x 13, x 14, x 15, x 16, x 17, x 18, x 19, x 20, x 21, x 22, x 23, x 24, x 25, x 26, x 27, x 28, x 29, x 30, x 31, x 32, x 33, x 34, x 35, x 36, x 37, x 38, x 39, x 40, x 41, x 42, x 43, x 44, x 45, x 46, x 47, x 48, x 49, x 50, x 51, x 52, x 53, x 54, x 55, x 56, x 57, x 58, x 59, x 60, x 61, x 62, x 63, x 64, x 65, x 66, .sc (.int .i64 s.measures.l.length), .sc (.int .i64 m), x 69, x 70, x 71, x 72, x 73, x 74, x 75, x 76, x 77, x 78, x 79, x 80, x 81, x 82, x 83, x 84, x 85, x 86, x 87, x 88, x 89, x 90, .sc (.int .i64 y.cells.l.length), .sc (.int .i64 c), x 93, x 94, x 95, x 96, x 97, x 98, x 99, x 100, x 101, x 102, x 103, x 104, x 105, x 106, x 107, x 108, x 109, x 110, x 111, x 112, x 113, x 114, x 115, x 116, x 117, x 118, x 119, x 120, x 121, x 122, x 123, x 124, x 125, x 126, x 127, x 128, x 129, x 130, x 131, x 132, x 133, x 134, x 135, x 136, x 137, x 138, x 139, x 140, x 141, x 142, x 143, x 144, x 145, x 146, x 147, x 148, x 149, x 150, x 151, x 152, x 153, x 154, x 155, x 156, x 157, x 158, x 159, x 160, x 161, x 162, x 163, x 164, x 165, x 166, x 167, x 168, x 169, x 170, x 171, x 172, x 173, x 174, x 175, x 176, x 177, x 178, x 179, x 180, x 181, x 182]) (k := y.cells.l.length) ?_
        ⟨0, by omega, by simpa using h, ex_x rfl⟩
      clear h hB hO hSh hS F2 F3 F4 F5 L2 L3 L4 v2 v3 v4 v5 x y' hq hql b o c ds w e hd hw hwl
      rintro k' t H ⟨c, hk', h0, x, rfl⟩
      obtain ⟨hB, hO, hSh⟩ := hJ _ _ h0
      obtain ⟨v2, v3, v4, v5, hS, F2, F3, F4, F5⟩ := own_open hO
      have L2 := F2.len
      have L3 := F3.len
      have L4 := F4.len
      rw [hSh.parts] at L2
      rw [hSh.measures] at L3
      rw [hSh.spanners] at L4
      by_cases h3 : (c : Int) < (y.cells.l.length : Int)
      · obtain ⟨q, hq⟩ : ∃ q, y.cells.l[c]? = some q := ⟨_, List.getElem?_eq_getElem (by omega)⟩
        have n3 : c < y.cells.l.length := by omega
        have e3 : IntKind.i64.wrap ((c : Int) + 1) = ((c + 1 : Nat) : Int) := by rw [w64 (by omega) (by omega)]; omega
        have b2 := hT2 _ _ _ _ hy' hq
        rw [drop_cons hq, posCells] at h0 hO hSh F2 F3 F4 F5
        obtain ⟨y', hyy, hyl⟩ := hSh.getM hy'
        obtain ⟨q', hqq, hqql⟩ := hSh.getC hy' hyy hq
        obtain ⟨d1, o1, p1, z1, w1, d2, o2, p2, z2, w2, r1, r2, r3, r4, r5, r6, r7⟩ := foc_cell F3 hyy hqq
        rw [hSh.measures] at r1
        rw [hyl] at r4
        rw [hqql] at r7
        simp -implicitDefEqProofs (maxDischargeDepth := 12) only [WW,List.replicate,e_splice,if_true,if_false,ite_true,ite_false,true_or,ne_eq,seval,h_putc,beq_self_eq_true,eq_self,exists_eq_left,exists_eq_left', hB, hS, h3, n1, n3, r1, r2, r3, r4, r5, r6, r7]
        refine wp_loop (Inv := fun k t H => ∃ (v : Nat), v + k = q.voices.l.length ∧ J (posVoices m c v (q.voices.l.drop v) ++ posCells m (c + 1) (y.cells.l.drop (c + 1)) ++ posMeasures (m + 1) (s.measures.l.drop (m + 1)) ++ posSpanners 0 s.spanners.l) H ∧
          ∃ x : Nat → AV, t = [.yield l, .ptr bs 0, x 2, x 3, x 4, x 5, .sc (.int .i64 m), .sc (.int .i64 c), x 8, x 9, x 10, x 11, x 12, x 13, x 14, x 15, x 16, x 17, x 18, x 19, x 20, x 21, x 22, x 23, x 24, x 25, x 26, x 27, x 28, x 29, x 30, x 31, x 32, x 33, x 34, x 35, x 36, x 37, x 38, x 39, x 40, x 41, x 42, x 43, x 44, x 45, x 46, x 47, x 48, x 49, x 50, x 51, x 52, x 53, x 54, x 55, x 56, x 57, x 58, x 59, x 60, x 61, x 62, x 63, x 64, x 65, x 66, .sc (.int .i64 s.measures.l.length), .sc (.int .i64 m), x 69, x 70, x 71, x 72, x 73, x 74, x 75, x 76, x 77, x 78, x 79, x 80, x 81, x 82, x 83, x 84, x 85, x 86, x 87, x 88, x 89, x 90, .sc (.int .i64 y.cells.l.length), .sc (.int .i64 c), x 93, x 94, x 95, x 96, x 97, x 98, x 99, x 100, x 101, x 102, x 103, x 104, x 105, x 106, .sc (.int .i64 q.voices.l.length), .sc (.int .i64 v), x 109, x 110, x 111, x 112, x 113, x 114, x 115, x 116, x 117, x 118, x 119, x 120, x 121, x 122, x 123, x 124, x 125, x 126, x 127, x 128, x 129, x 130, x 131, x 132, x 133, x 134, x 135, x 136, x 137, x 138, x 139, x 140, x 141, x 142, x 143, x 144, x 145, x 146, x 147, x 148, x 149, x 150, x 151, x 152, x 153, x 154, x 155, x 156, x 157, x 158, x 159, x 160, x 161, x 162, x 163, x 164, x 165, x 166, x 167, x 168, x 169, x 170, x 171, x 172, x 173, x 174, x 175, x 176, x 177, x 178, x 179, x 180, x 181, x 182]) (k := q.voices.l.length) ?_
          ⟨0, by omega, by simpa using h0, ex_x rfl⟩
        clear h0 hB hO hSh hS F2 F3 F4 F5 L2 L3 L4 v2 v3 v4 v5 x y' hyy hyl q' hqq hqql d1 o1 p1 z1 w1 d2 o2 p2 z2 w2 r1 r2 r3 r4 r5 r6 r7
        rintro k2 t H ⟨v, hk2, h0, x, rfl⟩
        obtain ⟨hB, hO, hSh⟩ := hJ _ _ h0
        obtain ⟨v2, v3, v4, v5, hS, F2, F3, F4, F5⟩ := own_open hO
        have L2 := F2.len
        have L3 := F3.len
        have L4 := F4.len
        rw [hSh.parts] at L2
        rw [hSh.measures] at L3
        rw [hSh.spanners] at L4
        by_cases h5 : (v : Int) < (q.voices.l.length : Int)
        · obtain ⟨z, hz⟩ : ∃ z, q.voices.l[v]? = some z := ⟨_, List.getElem?_eq_getElem (by omega)⟩
          have n5 : v < q.voices.l.length := by omega
          have e4 : IntKind.i64.wrap ((v : Int) + 1) = ((v + 1 : Nat) : Int) := by rw [w64 (by omega) (by omega)]; omega
          have b3 := hT3 _ _ _ _ _ _ hy' hq hz
          rw [drop_cons hz, posVoices] at h0 hO hSh F2 F3 F4 F5
          obtain ⟨y', hyy, hyl⟩ := hSh.getM hy'
          obtain ⟨q', hqq, hqql⟩ := hSh.getC hy' hyy hq
          obtain ⟨z', hzz, hzl⟩ := hSh.getV hy' hyy hq hqq hz
          obtain ⟨d1, o1, p1, z1, w1, d2, o2, p2, z2, w2, d3, o3, p3, z3, w3, r1, r2, r3, r4, r5, r6, r7, r8, r9, r10⟩ := foc_voice F3 hyy hqq hzz
          rw [hSh.measures] at r1
          rw [hyl] at r4
          rw [hqql] at r7
          rw [hzl] at r10
          simp -implicitDefEqProofs (maxDischargeDepth := 12) only [WW,List.replicate,e_splice,if_true,if_false,ite_true,ite_false,true_or,ne_eq,seval,h_putc,beq_self_eq_true,eq_self,exists_eq_left,exists_eq_left', hB, hS, h5, n1, n3, n5, r1, r2, r3, r4, r5, r6, r7, r8, r9, r10]
          refine wp_loop (Inv := fun k t H => ∃ (e : Nat), e + k = z.events.l.length ∧ J (posEvents m c v e (z.events.l.drop e) ++ posVoices m c (v + 1) (q.voices.l.drop (v + 1)) ++ posCells m (c + 1) (y.cells.l.drop (c + 1)) ++ posMeasures (m + 1) (s.measures.l.drop (m + 1)) ++ posSpanners 0 s.spanners.l) H ∧
            ∃ x : Nat → AV, t = [.yield l, .ptr bs 0, x 2, x 3, x 4, x 5, .sc (.int .i64 m), .sc (.int .i64 c), .sc (.int .i64 v), x 9, x 10, x 11, x 12, x 13, x 14, x 15, x 16, x 17, x 18, x 19, x 20, x 21, x 22, x 23, x 24, x 25, x 26, x 27, x 28, x 29, x 30, x 31, x 32, x 33, x 34, x 35, x 36, x 37, x 38, x 39, x 40, x 41, x 42, x 43, x 44, x 45, x 46, x 47, x 48, x 49, x 50, x 51, x 52, x 53, x 54, x 55, x 56, x 57, x 58, x 59, x 60, x 61, x 62, x 63, x 64, x 65, x 66, .sc (.int .i64 s.measures.l.length), .sc (.int .i64 m), x 69, x 70, x 71, x 72, x 73, x 74, x 75, x 76, x 77, x 78, x 79, x 80, x 81, x 82, x 83, x 84, x 85, x 86, x 87, x 88, x 89, x 90, .sc (.int .i64 y.cells.l.length), .sc (.int .i64 c), x 93, x 94, x 95, x 96, x 97, x 98, x 99, x 100, x 101, x 102, x 103, x 104, x 105, x 106, .sc (.int .i64 q.voices.l.length), .sc (.int .i64 v), x 109, x 110, x 111, x 112, x 113, x 114, x 115, x 116, x 117, x 118, x 119, x 120, x 121, x 122, x 123, x 124, x 125, x 126, .sc (.int .i64 z.events.l.length), .sc (.int .i64 e), x 129, x 130, x 131, x 132, x 133, x 134, x 135, x 136, x 137, x 138, x 139, x 140, x 141, x 142, x 143, x 144, x 145, x 146, x 147, x 148, x 149, x 150, x 151, x 152, x 153, x 154, x 155, x 156, x 157, x 158, x 159, x 160, x 161, x 162, x 163, x 164, x 165, x 166, x 167, x 168, x 169, x 170, x 171, x 172, x 173, x 174, x 175, x 176, x 177, x 178, x 179, x 180, x 181, x 182]) (k := z.events.l.length) ?_
            ⟨0, by omega, by simpa using h0, ex_x rfl⟩
          clear h0 hB hO hSh hS F2 F3 F4 F5 L2 L3 L4 v2 v3 v4 v5 x y' hyy hyl q' hqq hqql z' hzz hzl d1 o1 p1 z1 w1 d2 o2 p2 z2 w2 d3 o3 p3 z3 w3 r1 r2 r3 r4 r5 r6 r7 r8 r9 r10
          rintro k3 t H ⟨e, hk3, h0, x, rfl⟩
          obtain ⟨hB, hO, hSh⟩ := hJ _ _ h0
          obtain ⟨v2, v3, v4, v5, hS, F2, F3, F4, F5⟩ := own_open hO
          have L2 := F2.len
          have L3 := F3.len
          have L4 := F4.len
          rw [hSh.parts] at L2
          rw [hSh.measures] at L3
          rw [hSh.spanners] at L4
          by_cases h7 : (e : Int) < (z.events.l.length : Int)
          · obtain ⟨w, hw⟩ : ∃ w, z.events.l[e]? = some w := ⟨_, List.getElem?_eq_getElem (by omega)⟩
            have n7 : e < z.events.l.length := by omega
            have e5 : IntKind.i64.wrap ((e : Int) + 1) = ((e + 1 : Nat) : Int) := by rw [w64 (by omega) (by omega)]; omega
            rw [drop_cons hw, posEvents] at h0 hO hSh F2 F3 F4 F5
            obtain ⟨y', hyy, hyl⟩ := hSh.getM hy'
            obtain ⟨q', hqq, hqql⟩ := hSh.getC hy' hyy hq
            obtain ⟨z', hzz, hzl⟩ := hSh.getV hy' hyy hq hqq hz
            obtain ⟨w', hww⟩ := at_len hzl hw
            obtain ⟨d1, o1, p1, z1, w1, d2, o2, p2, z2, w2, d3, o3, p3, z3, w3, b, o, cc, ds, r1, r2, r3, r4, r5, r6, r7, r8, r9, r10, hd, hl, hPt⟩ := ptr_event F3 hyy hqq hzz hww
            rw [hSh.measures] at r1
            rw [hyl] at r4
            rw [hqql] at r7
            rw [hzl] at r10
            simp -implicitDefEqProofs (maxDischargeDepth := 12) only [WW,List.replicate,e_splice,if_true,if_false,ite_true,ite_false,true_or,ne_eq,seval,h_putc,beq_self_eq_true,eq_self,exists_eq_left,exists_eq_left', hB, hS, h7, n1, n3, n5, n7, r1, r2, r3, r4, r5, r6, r7, r8, r9, r10, e_cally]
            clear hyy hyl hqq hqql hzz hzl hww r1 r2 r3 r4 r5 r6 r7 r8 r9 r10 hd hl
            refine wA_yield ((hy (.event m c v e) _ _ _ h0 hPt).mono fun q H' h => ?_)
            rcases h with ⟨rfl, h⟩ | ⟨rfl, h⟩
            rotate_left
            · refine ⟨_, rfl, by simp only [k_nil], ?_⟩
              simp -implicitDefEqProofs (maxDischargeDepth := 12) only [WW,List.replicate,e_splice,if_true,if_false,ite_true,ite_false,true_or,ne_eq,seval,h_putc,beq_self_eq_true,eq_self,exists_eq_left,exists_eq_left', cr_nil]
              exact .inr h
            refine ⟨_, rfl, by simp only [k_nil], ?_⟩
            clear hPt h0 hB hO hSh hS F2 F3 F4 F5 L2 L3 L4
            obtain ⟨hB, hO, hSh⟩ := hJ _ _ h
            obtain ⟨v2, v3, v4, v5, hS, F2, F3, F4, F5⟩ := own_open hO
            have L2 := F2.len
            have L3 := F3.len
            have L4 := F4.len
            rw [hSh.parts] at L2
            rw [hSh.measures] at L3
            rw [hSh.spanners] at L4
            simp -implicitDefEqProofs (maxDischargeDepth := 12) only [WW,List.replicate,e_splice,if_true,if_false,ite_true,ite_false,true_or,ne_eq,seval,h_putc,beq_self_eq_true,eq_self,exists_eq_left,exists_eq_left', e5]
            exact ⟨k3 - 1, by omega, e + 1, by omega, by simpa using h, ex_x rfl⟩
          · rw [drop_end h7] at h0
            simp only [posEvents, List.nil_append] at h0
            simp -implicitDefEqProofs (maxDischargeDepth := 12) only [WW,List.replicate,e_splice,if_true,if_false,ite_true,ite_false,true_or,ne_eq,seval,h_putc,beq_self_eq_true,eq_self,exists_eq_left,exists_eq_left', h7, e4]
            exact ⟨k2 - 1, by omega, v + 1, by omega, h0, ex_x rfl⟩
        · rw [drop_end h5] at h0
          simp only [posVoices, List.nil_append] at h0
          simp -implicitDefEqProofs (maxDischargeDepth := 12) only [WW,List.replicate,e_splice,if_true,if_false,ite_true,ite_false,true_or,ne_eq,seval,h_putc,beq_self_eq_true,eq_self,exists_eq_left,exists_eq_left', h5, e3]
          exact ⟨k' - 1, by omega, c + 1, by omega, h0, ex_x rfl⟩
      · rw [drop_end h3] at h0
        simp only [posCells, List.nil_append] at h0
        simp -implicitDefEqProofs (maxDischargeDepth := 12) only [WW,List.replicate,e_splice,if_true,if_false,ite_true,ite_false,true_or,ne_eq,seval,h_putc,beq_self_eq_true,eq_self,exists_eq_left,exists_eq_left', h3, e2]
        exact ⟨k - 1, by omega, m + 1, by omega, h0, ex_x rfl⟩
    · rw [drop_end h1] at h0
      simp only [posMeasures, List.nil_append] at h0
      simp -implicitDefEqProofs (maxDischargeDepth := 12) only [WW,List.replicate,e_splice,if_true,if_false,ite_true,ite_false,true_or,ne_eq,seval,h_putc,beq_self_eq_true,eq_self,exists_eq_left,exists_eq_left', hB, hS, h1, L4]
      refine wp_loop (Inv := fun k t H => ∃ (i : Nat), i + k = s.spanners.l.length ∧ J (posSpanners i (s.spanners.l.drop i)) H ∧
        ∃ x : Nat → AV, t = [.yield l, .ptr bs 0, x 2, x 3, x 4, x 5, x 6, x 7, x 8, x 9, x 10, x 11, x 12, x 13, x 14, x 15, x 16, x 17, x 18, x 19, x 20, x 21, x 22, x 23, x 24, x 25, x 26, x 27, x 28, x 29, x 30, x 31, x 32, x 33, x 34, x 35, x 36, x 37, x 38, x 39, x 40, x 41, x 42, x 43, x 44, x 45, x 46, x 47, x 48, x 49, x 50, x 51, x 52, x 53, x 54, x 55, x 56, x 57, x 58, x 59, x 60, x 61, x 62, x 63, x 64, x 65, x 66, x 67, x 68, x 69, x 70, x 71, x 72, x 73, x 74, x 75, x 76, x 77, x 78, x 79, x 80, x 81, x 82, x 83, x 84, x 85, x 86, x 87, x 88, x 89, x 90, x 91, x 92, x 93, x 94, x 95, x 96, x 97, x 98, x 99, x 100, x 101, x 102, x 103, x 104, x 105, x 106, x 107, x 108, x 109, x 110, x 111, x 112, x 113, x 114, x 115, x 116, x 117, x 118, x 119, x 120, x 121, x 122, x 123, x 124, x 125, x 126, x 127, x 128, x 129, x 130, x 131, x 132, x 133, x 134, x 135, x 136, x 137, x 138, x 139, x 140, x 141, x 142, x 143, x 144, x 145, x 146, x 147, x 148, x 149, x 150, x 151, x 152, x 153, x 154, x 155, x 156, x 157, x 158, x 159, x 160, x 161, x 162, x 163, x 164, x 165, .sc (.int .i64 s.spanners.l.length), .sc (.int .i64 i), x 168, x 169, x 170, x 171, x 172, x 173, x 174, x 175, x 176, x 177, x 178, x 179, x 180, x 181, x 182]) (k := s.spanners.l.length) ?_
        ⟨0, by omega, by simpa using h0, ex_x rfl⟩
      clear h0 hB hO hSh hS F2 F3 F4 F5 L2 L3 L4 v2 v3 v4 v5 x
      rintro k t H ⟨i, hk, h0, x, rfl⟩
      obtain ⟨hB, hO, hSh⟩ := hJ _ _ h0
      obtain ⟨v2, v3, v4, v5, hS, F2, F3, F4, F5⟩ := own_open hO
      have L2 := F2.len
      have L3 := F3.len
      have L4 := F4.len
      rw [hSh.parts] at L2
      rw [hSh.measures] at L3
      rw [hSh.spanners] at L4
      by_cases h1 : (i : Int) < (s.spanners.l.length : Int)
      · obtain ⟨y, hy'⟩ : ∃ y, s.spanners.l[i]? = some y := ⟨_, List.getElem?_eq_getElem (by omega)⟩
        have n1 : i < s.spanners.l.length := by omega
        have e2 : IntKind.i64.wrap ((i : Int) + 1) = ((i + 1 : Nat) : Int) := by rw [w64 (by omega) (by omega)]; omega
        rw [drop_cons hy', posSpanners] at h0 hO hSh F2 F3 F4 F5
        obtain ⟨y', hq⟩ := at_len hSh.spanners hy'
        obtain ⟨b, o, c, ds, e, hd, hl, hPt⟩ := ptr_spanner F4 hq
        rw [hSh.spanners] at e
        simp -implicitDefEqProofs (maxDischargeDepth := 12) only [WW,List.replicate,e_splice,if_true,if_false,ite_true,ite_false,true_or,ne_eq,seval,h_putc,beq_self_eq_true,eq_self,exists_eq_left,exists_eq_left', hB, hS, h1, n1, e, e_cally]
        clear hq hd hl e
        refine wA_yield ((hy (.spanner i) _ _ _ h0 hPt).mono fun q H' h => ?_)
        rcases h with ⟨rfl, h⟩ | ⟨rfl, h⟩
        rotate_left
        · refine ⟨_, rfl, by simp only [k_nil], ?_⟩
          simp -implicitDefEqProofs (maxDischargeDepth := 12) only [WW,List.replicate,e_splice,if_true,if_false,ite_true,ite_false,true_or,ne_eq,seval,h_putc,beq_self_eq_true,eq_self,exists_eq_left,exists_eq_left', cr_nil]
          exact .inr h
        refine ⟨_, rfl, by simp only [k_nil], ?_⟩
        clear hPt h0 hB hO hSh hS F2 F3 F4 F5 L2 L3 L4
        obtain ⟨hB, hO, hSh⟩ := hJ _ _ h
        obtain ⟨v2, v3, v4, v5, hS, F2, F3, F4, F5⟩ := own_open hO
        have L2 := F2.len
        have L3 := F3.len
        have L4 := F4.len
        rw [hSh.parts] at L2
        rw [hSh.measures] at L3
        rw [hSh.spanners] at L4
        simp -implicitDefEqProofs (maxDischargeDepth := 12) only [WW,List.replicate,e_splice,if_true,if_false,ite_true,ite_false,true_or,ne_eq,seval,h_putc,beq_self_eq_true,eq_self,exists_eq_left,exists_eq_left', e2]
        exact ⟨k - 1, by omega, i + 1, by omega, by simpa using h, ex_x rfl⟩
      · rw [drop_end h1] at h0
        simp only [posSpanners] at h0
        simp -implicitDefEqProofs (maxDischargeDepth := 12) only [WW,List.replicate,e_splice,if_true,if_false,ite_true,ite_false,true_or,ne_eq,seval,h_putc,beq_self_eq_true,eq_self,exists_eq_left,exists_eq_left', h1, cr_nil]
        exact .inl h0
end Go.Hem
/- Walks: IndexFunc and DeleteFunc over the spanners of a copy. -/
set_option maxRecDepth 10000
set_option maxHeartbeats 4000000
set_option linter.unusedSimpArgs false
set_option linter.unusedVariables false
namespace Go.Hem
variable {pol : Pol}
theorem own_scs {I : Bool} {d : Nat} {H : AHeap} {vs us : List AV} {fp : List Nat} (h : OwnL (OwnX I d) H vs us fp) : (∀ u ∈ us, ∃ x, u = .sc x) → vs = us ∧ fp = [] := by
  induction h with
  | nil => intro _; exact ⟨rfl, rfl⟩
  | cons h1 h2 h3 ih =>
    rename_i v u vs us f g
    intro k
    obtain ⟨x, rfl⟩ := k u (by simp)
    obtain ⟨rfl, rfl⟩ := own_sc h1
    obtain ⟨rfl, rfl⟩ := ih fun u hu => k u (by simp [hu])
    exact ⟨rfl, rfl⟩
theorem sp_scs (x : Spanner) : ∀ u ∈ (Spanner.enc x).cells, ∃ y, u = .sc y := by
  intro u hu
  simp only [x.enc_eq, c_agg, List.mem_cons, List.not_mem_nil, or_false] at hu
  rcases hu with rfl | rfl | rfl | rfl | rfl | rfl | rfl <;> exact ⟨_, rfl⟩
theorem own_sp {H : AHeap} {v : AV} {d i : Nat} {s : Sl Spanner} {fp : List Nat} {x : Spanner} (h : OwnX false (d + 1) H v (slm Spanner.enc s) fp) (hi : s.l[i]? = some x) :
    ∃ b off cap cs, v = .slice b off s.l.length cap 7 ∧ H.cells b = some cs ∧ off + s.l.length * 7 ≤ cs.length ∧ b ∈ fp ∧ (cs.drop (off + i * 7)).take 7 = x.enc.cells := by
  obtain ⟨b, off, cap, cs, fp', h1, h2, h3, h4, h5, h6⟩ := own_elem row_Spanner (by decide) h hi
  exact ⟨b, off, cap, cs, h1, h2, h3, h4, (own_scs h5 (sp_scs x)).1⟩
end Go.Hem
/- Walks: DeleteFunc over the spanners of a copy. -/
set_option maxRecDepth 10000
set_option maxHeartbeats 4000000
set_option linter.unusedSimpArgs false
set_option linter.unusedVariables false
namespace Go.Hem
variable {pol : Pol}
end Go.Hem
/- What a copy lists; the ids of events. -/
set_option linter.unusedSimpArgs false
set_option linter.unusedVariables false
namespace Go.Hem
theorem objVoices_cl (m c : Nat) : ∀ (l : List Voice) (v : Nat), objVoices m c v (l.map Voice.cl) = objVoices m c v l
  | [], _ => rfl
  | x :: l, v => by
    have e : x.cl.events.l = x.events.l := l_of
    simp only [List.map_cons, objVoices, objVoices_cl m c l, e]
theorem objCells_cl (m : Nat) : ∀ (l : List Cell) (c : Nat), objCells m c (l.map Cell.cl) = objCells m c l
  | [], _ => rfl
  | x :: l, c => by
    have e : x.cl.voices.l = x.voices.l.map Voice.cl := l_of
    simp only [List.map_cons, objCells, objCells_cl m l, e, objVoices_cl]
theorem objMeasures_cl : ∀ (l : List Measure) (m : Nat), objMeasures m (l.map Measure.cl) = objMeasures m l
  | [], _ => rfl
  | x :: l, m => by
    have e : x.cl.cells.l = x.cells.l.map Cell.cl := l_of
    have e2 : oMeasure m x.cl = oMeasure m x := rfl
    simp only [List.map_cons, objMeasures, objMeasures_cl l, e, e2, objCells_cl]
theorem objs_cl (s : Score) : objs s.cl = objs s := by
  have e : s.cl.measures.l = s.measures.l.map Measure.cl := rfl
  have e2 : s.cl.parts.l = s.parts.l := rfl
  have e3 : s.cl.spanners = s.spanners := rfl
  unfold objs
  rw [e, e2, e3, objMeasures_cl]
theorem map_at {α β : Type} {f : α → β} {l : List α} {i : Nat} {y : β} (h : (l.map f)[i]? = some y) : ∃ x, l[i]? = some x ∧ y = f x := by
  rw [List.getElem?_map] at h
  cases hx : l[i]? with
  | none => rw [hx] at h; cases h
  | some x => rw [hx] at h; cases h; exact ⟨x, rfl, rfl⟩
theorem Tame_cl {s : Score} (h : Tame s) : Tame s.cl := by
  have e : s.cl.measures.l = s.measures.l.map Measure.cl := rfl
  have ec : ∀ y : Measure, y.cl.cells.l = y.cells.l.map Cell.cl := fun y => l_of
  have ev : ∀ y : Cell, y.cl.voices.l = y.voices.l.map Voice.cl := fun y => l_of
  have ee : ∀ y : Voice, y.cl.events.l = y.events.l := fun y => l_of
  refine ⟨by rw [objs_cl]; exact h.objs, h.staves, h.parts, by rw [e, List.length_map]; exact h.measures, h.spanners, fun m y hy => ?_, fun m y c q hy hq => ?_, fun m y c q v z hy hq hz => ?_⟩
  · rw [e] at hy
    obtain ⟨y0, h0, rfl⟩ := map_at hy
    rw [ec, List.length_map]; exact h.cells _ _ h0
  · rw [e] at hy
    obtain ⟨y0, h0, rfl⟩ := map_at hy
    rw [ec] at hq
    obtain ⟨q0, h1, rfl⟩ := map_at hq
    rw [ev, List.length_map]; exact h.voices _ _ _ _ h0 h1
  · rw [e] at hy
    obtain ⟨y0, h0, rfl⟩ := map_at hy
    rw [ec] at hq
    obtain ⟨q0, h1, rfl⟩ := map_at hq
    rw [ev] at hz
    obtain ⟨z0, h2, rfl⟩ := map_at hz
    rw [ee]; exact h.events _ _ _ _ _ _ h0 h1 h2

section
variable (a : Score)
end
end Go.Hem
/- Walks: what visit yields. -/
set_option maxRecDepth 10000
set_option maxHeartbeats 4000000
set_option linter.unusedSimpArgs false
set_option linter.unusedVariables false
namespace Go.Hem
variable {pol : Pol}
end Go.Hem
/- Walks: score.IDs. -/
set_option maxRecDepth 10000
set_option maxHeartbeats 4000000
set_option linter.unusedSimpArgs false
set_option linter.unusedVariables false
namespace Go.Hem
variable {pol : Pol}
theorem callee110 (args : List AV) : acallee prog 110 args = some (.call 110 args) := by kernel_rfl
theorem visit0_ok (H : AHeap) (v : AV) (hv : v.one = true) (hc : v.cells = [v]) {Q : Out → AHeap → Prop} (h : Q (.val (.func (.func 110) [] [.ptr H.next 0])) (H.alloc (.cells [v]))) : Ev prog pol (.call 63 [v]) H Q := by
  refine (wpF_ok ok63 (Q := fun u H' => u = .func (.func 110) [] [.ptr H.next 0] ∧ H' = H.alloc (.cells [v])) ?_).mono ?_
  · simp -implicitDefEqProofs (maxDischargeDepth := 12) only [wpF, cf63, WW,List.replicate,e_splice,if_true,if_false,ite_true,ite_false,true_or,ne_eq,seval,h_putc,beq_self_eq_true,eq_self,exists_eq_left,exists_eq_left', hv, hc]
  · rintro o H' ⟨u, rfl, rfl, rfl⟩; exact h
end Go.Hem
/- Walks: score.Prune. -/
set_option maxRecDepth 10000
set_option maxHeartbeats 4000000
set_option linter.unusedSimpArgs false
set_option linter.unusedVariables false
namespace Go.Hem
variable {pol : Pol}
theorem o_map {b : Nat} : AV.one (.map b) = true := rfl
theorem c_map {b : Nat} : AV.cells (.map b) = [.map b] := rfl
theorem splice_full {z cs : List AV} (h : z.length = cs.length) : splice z 0 cs = cs := by
  unfold splice
  rw [List.take_zero, List.nil_append, List.drop_of_length_le (by omega), List.append_nil]
theorem map_of_get {H H' : AHeap} {b : Nat} (h : H'.get b = H.get b) : H'.map b = H.map b := by unfold AHeap.map; rw [h]
theorem get_of_map {H : AHeap} {b : Nat} {l : List (AV × AV)} (h : H.map b = some l) : H.get b = some (.map l) := by
  unfold AHeap.map at h
  split at h
  · rename_i q; cases h; exact q
  · cases h
theorem get_two {cs : List AV} {off : Nat} {x y : AV} (h1 : cs[off]? = some x) (h2 : cs[off + 1]? = some y) : (cs.drop off).take 2 = [x, y] := by
  obtain ⟨l1, e1⟩ := List.getElem?_eq_some_iff.1 h1
  obtain ⟨l2, e2⟩ := List.getElem?_eq_some_iff.1 h2
  rw [List.drop_eq_getElem_cons l1, List.take_succ_cons, List.drop_eq_getElem_cons l2, List.take_succ_cons, List.take_zero, e1, e2]
end Go.Hem
/- Walks: with, and the closures of SetMeasure and SetCell. -/
set_option maxRecDepth 10000
set_option maxHeartbeats 4000000
set_option linter.unusedSimpArgs false
set_option linter.unusedVariables false
namespace Go.Hem
variable {pol : Pol}
section
variable {H : AHeap} {bS : Nat} {R : List Nat}
/-- The end of a path: an element is written. -/
theorem store_fin {α : Type} {f : α → AV} {v w : AV} {d n i : Nat} {g1 g2 : List Nat} {s : Sl α} {x : α} (row : RowOf n f) (hn1 : n ≠ 1) (hw : OwnX false (d + 1) H w (slm f s) g2) (hi : s.l[i]? = some x) (hg12 : ∀ b ∈ g2, b ∈ g1) (hg1 : ∀ b ∈ g1, b ∈ R) (hRS : bS ∉ R) :
    ∃ b off cap ds, w = .slice b off s.l.length cap n ∧ H.cells b = some ds ∧ off + i * n + n ≤ ds.length ∧ b ∈ R ∧ ∀ (x' : α) (U : AV) (a' : Score),
      Fit H g1 g2 (fun H' f' => OwnX false (d + 1) H' w (slm f (some (s.l.set i x'))) f') (fun H' f' => OwnX false 7 H' v U f') →
      (∀ H' f' R', OwnX false 7 H' v U f' → H'.cells bS = H.cells bS → (∀ b ∈ R, b ∉ g1 → H'.cells b = H.cells b) → (∀ b ∈ f', b ∈ g1 ∨ b ∉ R) → (∀ b ∈ R, b ∈ R') → (∀ b ∈ f', b ∈ R') → OwnScore H' bS R' a') →
      ∀ H1 ws g, (∀ c ∈ R, H1.cells c = H.cells c) → H1.cells bS = H.cells bS → ws.length = n → OwnL (OwnX false d) H1 ws (f x').cells g → (∀ c ∈ g, c ∉ R) → OwnScore (H1.put b (some (.cells (splice ds (off + i * n) ws)))) bS (R ++ g) a' := by
  obtain ⟨b, off, cap, cs, fp1, h1, h2, h3, h4, h5, h6, h7, h8⟩ := own_elem_fit row hn1 hw hi
  have hbR := hg1 b (hg12 b h4)
  have nb : bS ≠ b := fun e => hRS (e ▸ hbR)
  refine ⟨b, off, cap, cs, h1, h2, h3, hbR, fun x' U a' hF hT H1 ws g k1 k2 k3 k4 k5 => ?_⟩
  have hb1 : H1.cells b = some cs := (k1 b hbR).trans h2
  have hgb : b ∉ g := fun h => k5 b h hbR
  obtain ⟨f', r1, r2⟩ := h8 x' (H1.put b (some (.cells (splice cs (off + i * n) ws)))) (b :: g) ⟨ws, g, h_put_self hb1, k3, k4.fr fun c hc => c_put_ne fun e => hgb (e ▸ hc), hgb, rfl⟩
    (fun c hc hc2 => by rw [c_put_ne fun e => hc2 (by simp [e]), k1 c (hg1 c (hg12 c hc))]) (fun c hc => by
      rcases List.mem_cons.1 hc with rfl | hc
      · exact .inl (by simp)
      · exact .inr fun h => k5 c hc (hg1 c (hg12 c h)))
  have hf' : ∀ c ∈ f', c ∈ g2 ∨ c ∈ g := fun c hc => by
    rcases r2 c hc with h | ⟨h, _⟩
    · rcases List.mem_cons.1 h with rfl | h
      · exact .inl h4
      · exact .inr h
    · exact .inl h
  have hk : ∀ c, c ∈ R → c ≠ b → (H1.put b (some (.cells (splice cs (off + i * n) ws)))).cells c = H.cells c := fun c hc hcb => by rw [c_put_ne hcb, k1 c hc]
  obtain ⟨f'', q1, q2⟩ := hF _ f' r1 (fun c hc hc2 => hk c (hg1 c hc) fun e => hc2 (e ▸ h4)) (fun c hc => by
    rcases hf' c hc with h | h
    · exact .inl h
    · exact .inr fun h2 => k5 c h (hg1 c h2))
  have hf'' : ∀ c ∈ f'', c ∈ g1 ∨ c ∈ g := fun c hc => by
    rcases q2 c hc with h | ⟨h, _⟩
    · exact (hf' c h).imp (hg12 c) id
    · exact .inl h
  refine hT _ f'' (R ++ g) q1 (by rw [c_put_ne nb, k2]) (fun c hc hc2 => hk c hc fun e => hc2 (e ▸ hg12 b h4)) (fun c hc => (hf'' c hc).imp id (k5 c)) (fun c hc => List.mem_append.2 (.inl hc)) (fun c hc => ?_)
  rcases hf'' c hc with h | h
  · exact List.mem_append.2 (.inl (hg1 c h))
  · exact List.mem_append.2 (.inr h)

end
end Go.Hem
/- Walks: SetMeasure and SetCell. -/
set_option maxRecDepth 10000
set_option maxHeartbeats 4000000
set_option linter.unusedSimpArgs false
set_option linter.unusedVariables false
namespace Go.Hem
variable {pol : Pol}
def Score.none : Score := ⟨⟨#[]⟩, false, Option.none, Option.none, Option.none, Option.none⟩
end Go.Hem
/- Walks: score.Find. -/
set_option maxRecDepth 10000
set_option maxHeartbeats 4000000
set_option linter.unusedSimpArgs false
set_option linter.unusedVariables false
namespace Go.Hem
variable {pol : Pol}
end Go.Hem
/- The law ScoreObjects, by the interpreter. -/
set_option maxRecDepth 10000
set_option maxHeartbeats 4000000
set_option linter.unusedSimpArgs false
set_option linter.unusedVariables false
namespace Go.Hem
/-- What is short is tame. -/
theorem tame_short (s : Score) : Tame s.short := by
  have e1 : s.short.parts.l = (s.parts.l.take 4).map Part.short := l_of
  have e2 : s.short.measures.l = (s.measures.l.take 5).map Measure.short := l_of
  have len_map : ∀ {α : Type} {x : Sl α} {n : Nat}, Sl.l (x.map (·.take n)) = x.l.take n := by intro α x n; cases x <;> simp [Sl.l]
  have e3 : s.short.spanners.l = s.spanners.l.take 6 := len_map
  have mm : ∀ (m : Nat) y, s.short.measures.l[m]? = some y → ∃ x : Measure, y = x.short := by
    intro m y h
    rw [e2, List.getElem?_map] at h
    cases hx : (s.measures.l.take 5)[m]? with
    | none => rw [hx] at h; cases h
    | some x => rw [hx] at h; cases h; exact ⟨x, rfl⟩
  have cc : ∀ (x : Measure) (c : Nat) q, x.short.cells.l[c]? = some q → ∃ y : Cell, q = y.short := by
    intro x c q h
    rw [show x.short.cells.l = (x.cells.l.take 6).map Cell.short from l_of, List.getElem?_map] at h
    cases hx : (x.cells.l.take 6)[c]? with
    | none => rw [hx] at h; cases h
    | some x => rw [hx] at h; cases h; exact ⟨x, rfl⟩
  have vv : ∀ (x : Cell) (c : Nat) q, x.short.voices.l[c]? = some q → ∃ y : Voice, q = y.short := by
    intro x c q h
    rw [show x.short.voices.l = (x.voices.l.take 3).map Voice.short from l_of, List.getElem?_map] at h
    cases hx : (x.voices.l.take 3)[c]? with
    | none => rw [hx] at h; cases h
    | some x => rw [hx] at h; cases h; exact ⟨x, rfl⟩
  have b1 : ∀ x : Measure, x.short.cells.l.length ≤ 6 := fun x => by rw [show x.short.cells.l = (x.cells.l.take 6).map Cell.short from l_of]; simp; omega
  have b2 : ∀ x : Cell, x.short.voices.l.length ≤ 3 := fun x => by rw [show x.short.voices.l = (x.voices.l.take 3).map Voice.short from l_of]; simp; omega
  have b3 : ∀ x : Voice, x.short.events.l.length ≤ 5 := fun x => by rw [show x.short.events.l = (x.events.l.take 5).map Event.short from l_of]; simp; omega
  have b4 : ∀ x : Part, x.short.staves.l.length ≤ 3 := fun x => by rw [show x.short.staves.l = x.staves.l.take 3 from len_map]; simp; omega
  have l1 : ∀ (l : List Staff) st, (objStaves st l).length = l.length := by intro l; induction l with
    | nil => intro _; rfl
    | cons x l ih => intro st; simp [objStaves, ih]
  have l2 : ∀ (l : List Part) i st, (objParts i st (l.map Part.short)).length ≤ 4 * l.length := by intro l; induction l with
    | nil => intro _ _; simp [objParts]
    | cons x l ih => intro i st; have := ih (i + 1) (st + x.short.staves.l.length); have := b4 x; simp [objParts, l1]; omega
  have l3 : ∀ (l : List Event) m c v e, (objEvents m c v e l).length = l.length := by intro l; induction l with
    | nil => intro _ _ _ _; rfl
    | cons x l ih => intro m c v e; simp [objEvents, ih]
  have l4 : ∀ (l : List Voice) m c v, (objVoices m c v (l.map Voice.short)).length ≤ 5 * l.length := by intro l; induction l with
    | nil => intro _ _ _; simp [objVoices]
    | cons x l ih => intro m c v; have := ih m c (v + 1); have := b3 x; simp [objVoices, l3]; omega
  have l5 : ∀ (l : List Cell) m c, (objCells m c (l.map Cell.short)).length ≤ 15 * l.length := by intro l; induction l with
    | nil => intro _ _; simp [objCells]
    | cons x l ih =>
      intro m c; have h1 := ih m (c + 1); have h2 := l4 (x.voices.l.take 3) m c 0
      rw [← show x.short.voices.l = (x.voices.l.take 3).map Voice.short from l_of] at h2
      simp only [List.length_take] at h2
      simp only [List.map_cons, objCells, List.length_append, List.length_cons]; omega
  have l6 : ∀ (l : List Measure) m, (objMeasures m (l.map Measure.short)).length ≤ 91 * l.length := by intro l; induction l with
    | nil => intro _; simp [objMeasures]
    | cons x l ih =>
      intro m; have h1 := ih (m + 1); have h2 := l5 (x.cells.l.take 6) m 0
      rw [← show x.short.cells.l = (x.cells.l.take 6).map Cell.short from l_of] at h2
      simp only [List.length_take] at h2
      simp only [List.map_cons, objMeasures, List.length_append, List.length_cons]; omega
  have l7 : ∀ (l : List Spanner) i, (objSpanners i l).length = l.length := by intro l; induction l with
    | nil => intro _; rfl
    | cons x l ih => intro i; simp [objSpanners, ih]
  have b5 : stavesOf s.short.parts.l ≤ 12 := by
    have : ∀ l : List Part, stavesOf (l.map Part.short) ≤ 3 * l.length := by
      intro l; induction l with
      | nil => simp [stavesOf]
      | cons p l ih =>
        have e : stavesOf ((p :: l).map Part.short) = p.short.staves.l.length + stavesOf (l.map Part.short) := by simp [stavesOf]
        have := b4 p; simp only [List.length_cons]; omega
    rw [e1]; have := this (s.parts.l.take 4); simp only [List.length_take] at this; omega
  refine ⟨?_, by omega, by rw [e1]; simp; omega, by rw [e2]; simp; omega, by rw [e3]; simp; omega, ?_, ?_, ?_⟩
  · unfold objs
    have h2 := l2 (s.parts.l.take 4) 0 0
    have h6 := l6 (s.measures.l.take 5) 0
    rw [← e1] at h2
    rw [← e2] at h6
    simp only [List.length_take] at h2 h6
    simp only [List.length_append, l7, e3, List.length_take]; omega
  · intro m y h; obtain ⟨x, rfl⟩ := mm m y h; have := b1 x; omega
  · intro m y c q h h'; obtain ⟨x, rfl⟩ := mm m y h; obtain ⟨z, rfl⟩ := cc _ _ _ h'; have := b2 z; omega
  · intro m y c q v z h h' h''; obtain ⟨x, rfl⟩ := mm m y h; obtain ⟨u, rfl⟩ := cc _ _ _ h'; obtain ⟨w, rfl⟩ := vv _ _ _ h''; have := b3 w; omega
end Go.Hem
/- What is small is tame; what is equal up to the kind of an empty list. -/
set_option linter.unusedSimpArgs false
set_option linter.unusedVariables false
namespace Go.Hem
def Voice.small (v : Voice) : Prop := v.events.l.length ≤ 5 ∧ v.tuplets.l.length ≤ 10 ∧ ∀ e ∈ v.events.l, e.tame
def Cell.small (c : Cell) : Prop := c.clefs.l.length ≤ 10 ∧ c.voices.l.length ≤ 3 ∧ ∀ v ∈ c.voices.l, v.small
def Measure.small (m : Measure) : Prop := m.tempi.l.length ≤ 10 ∧ m.cells.l.length ≤ 50 ∧ ∀ c ∈ m.cells.l, c.small
structure Score.small (s : Score) : Prop where
  parts : s.parts.l.length ≤ 40
  staves : ∀ p ∈ s.parts.l, p.staves.l.length ≤ 10
  measures : s.measures.l.length ≤ 20
  meas : ∀ m ∈ s.measures.l, m.small
  spanners : s.spanners.l.length ≤ 10
  last : s.last.l.length ≤ 10
theorem Voice.small.tame {v : Voice} (h : v.small) : v.tame := ⟨by have := h.1; omega, by have := h.2.1; omega, h.2.2⟩
theorem Cell.small.tame {v : Cell} (h : v.small) : v.tame := ⟨by have := h.1; omega, by have := h.2.1; omega, fun v hv => (h.2.2 v hv).tame⟩
theorem Measure.small.tame {v : Measure} (h : v.small) : v.tame := ⟨by have := h.1; omega, by have := h.2.1; omega, fun v hv => (h.2.2 v hv).tame⟩
theorem Score.small.tame {s : Score} (h : s.small) : s.tame := by
  obtain ⟨h1, h2, h3, h4, h5, h6⟩ := h
  exact ⟨by omega, fun p hp => by have := h2 p hp; unfold Part.tame; omega, by omega, fun m hm => (h4 m hm).tame, by omega, by omega⟩
theorem len_staves : ∀ (l : List Staff) st, (objStaves st l).length = l.length
  | [], _ => rfl
  | x :: l, st => by simp [objStaves, len_staves l]
theorem len_parts : ∀ (l : List Part) i st, (∀ p ∈ l, p.staves.l.length ≤ 10) → (objParts i st l).length ≤ 11 * l.length
  | [], _, _, _ => by simp [objParts]
  | x :: l, i, st, h => by
    have := len_parts l (i + 1) (st + x.staves.l.length) fun p hp => h p (by simp [hp])
    have := h x (by simp)
    simp only [objParts, List.length_cons, List.length_append, len_staves]; omega
theorem len_events : ∀ (l : List Event) m c v e, (objEvents m c v e l).length = l.length
  | [], _, _, _, _ => rfl
  | x :: l, m, c, v, e => by simp [objEvents, len_events l]
theorem len_voices : ∀ (l : List Voice) m c v, (∀ p ∈ l, p.small) → (objVoices m c v l).length ≤ 5 * l.length
  | [], _, _, _, _ => by simp [objVoices]
  | x :: l, m, c, v, h => by
    have := len_voices l m c (v + 1) fun p hp => h p (by simp [hp])
    have := (h x (by simp)).1
    simp only [objVoices, List.length_append, List.length_cons, len_events]; omega
theorem len_cells : ∀ (l : List Cell) m c, (∀ p ∈ l, p.small) → (objCells m c l).length ≤ 15 * l.length
  | [], _, _, _ => by simp [objCells]
  | x :: l, m, c, h => by
    have := len_cells l m (c + 1) fun p hp => h p (by simp [hp])
    obtain ⟨_, h1, h2⟩ := h x (by simp)
    have := len_voices x.voices.l m c 0 h2
    simp only [objCells, List.length_append, List.length_cons]; omega
theorem len_measures : ∀ (l : List Measure) m, (∀ p ∈ l, p.small) → (objMeasures m l).length ≤ 751 * l.length
  | [], _, _ => by simp [objMeasures]
  | x :: l, m, h => by
    have := len_measures l (m + 1) fun p hp => h p (by simp [hp])
    obtain ⟨_, h1, h2⟩ := h x (by simp)
    have := len_cells x.cells.l m 0 h2
    simp only [objMeasures, List.length_append, List.length_cons]; omega
theorem len_spanners : ∀ (l : List Spanner) i, (objSpanners i l).length = l.length
  | [], _ => rfl
  | x :: l, i => by simp [objSpanners, len_spanners l]
theorem staves_le : ∀ l : List Part, (∀ p ∈ l, p.staves.l.length ≤ 10) → stavesOf l ≤ 10 * l.length
  | [], _ => by simp [stavesOf]
  | p :: l, h => by
    have := staves_le l fun q hq => h q (by simp [hq])
    have := h p (by simp)
    have e : stavesOf (p :: l) = p.staves.l.length + stavesOf l := by simp [stavesOf]
    simp only [List.length_cons]; omega
theorem Score.small.Tame {s : Score} (h : s.small) : Tame s := by
  obtain ⟨h1, h2, h3, h4, h5, h6⟩ := h
  refine ⟨?_, by have := staves_le _ h2; omega, by omega, by omega, by omega, fun m y hy => ?_, fun m y c q hy hq => ?_, fun m y c q v z hy hq hz => ?_⟩
  · have := len_parts _ 0 0 h2
    have := len_measures _ 0 h4
    have := len_spanners s.spanners.l 0
    simp only [objs, List.length_append]; omega
  · have := (h4 y (List.mem_of_getElem? hy)).2.1; omega
  · have := ((h4 y (List.mem_of_getElem? hy)).2.2 q (List.mem_of_getElem? hq)).2.1; omega
  · have := (((h4 y (List.mem_of_getElem? hy)).2.2 q (List.mem_of_getElem? hq)).2.2 z (List.mem_of_getElem? hz)).1; omega
theorem Voice.small_short (v : Voice) : v.short.small := by
  have e : v.short.events.l = (v.events.l.take 5).map Event.short := l_of
  have e2 : v.short.tuplets.l = v.tuplets.l.take 3 := sl_take_len
  refine ⟨by rw [e]; simp; omega, by rw [e2]; simp; omega, fun x hx => ?_⟩
  rw [e] at hx
  obtain ⟨w, _, rfl⟩ := List.mem_map.1 hx
  exact w.tame_short
theorem Cell.small_short (v : Cell) : v.short.small := by
  have e : v.short.voices.l = (v.voices.l.take 3).map Voice.short := l_of
  have e2 : v.short.clefs.l = v.clefs.l.take 3 := sl_take_len
  refine ⟨by rw [e2]; simp; omega, by rw [e]; simp; omega, fun x hx => ?_⟩
  rw [e] at hx
  obtain ⟨w, _, rfl⟩ := List.mem_map.1 hx
  exact w.small_short
theorem Measure.small_short (v : Measure) : v.short.small := by
  have e : v.short.cells.l = (v.cells.l.take 6).map Cell.short := l_of
  have e2 : v.short.tempi.l = v.tempi.l.take 3 := sl_take_len
  refine ⟨by rw [e2]; simp; omega, by rw [e]; simp; omega, fun x hx => ?_⟩
  rw [e] at hx
  obtain ⟨w, _, rfl⟩ := List.mem_map.1 hx
  exact w.small_short
theorem Score.small_short (s : Score) : s.short.small := by
  have e1 : s.short.parts.l = (s.parts.l.take 4).map Part.short := l_of
  have e2 : s.short.measures.l = (s.measures.l.take 5).map Measure.short := l_of
  have e3 : s.short.spanners.l = s.spanners.l.take 6 := sl_take_len
  have e4 : s.short.last.l = s.last.l.take 4 := sl_take_len
  refine ⟨by rw [e1]; simp; omega, fun p hp => ?_, by rw [e2]; simp; omega, fun m hm => ?_, by rw [e3, List.length_take]; omega, by rw [e4, List.length_take]; omega⟩
  · rw [e1] at hp
    obtain ⟨w, _, rfl⟩ := List.mem_map.1 hp
    have : w.short.staves.l = w.staves.l.take 3 := sl_take_len
    rw [this, List.length_take]; omega
  · rw [e2] at hm
    obtain ⟨w, _, rfl⟩ := List.mem_map.1 hm
    exact w.small_short
theorem Voice.small_cl {v : Voice} (h : v.small) : v.cl.small := by
  obtain ⟨h1, h2, h3⟩ := h
  have e1 : v.cl.events.l = v.events.l := l_of
  have e2 : v.cl.tuplets.l = v.tuplets.l := l_of
  exact ⟨by rw [e1]; exact h1, by rw [e2]; exact h2, by rw [e1]; exact h3⟩
theorem Cell.small_cl {v : Cell} (h : v.small) : v.cl.small := by
  obtain ⟨h1, h2, h3⟩ := h
  have e1 : v.cl.voices.l = v.voices.l.map Voice.cl := l_of
  refine ⟨h1, by rw [e1, List.length_map]; exact h2, fun x hx => ?_⟩
  rw [e1] at hx
  obtain ⟨w, hw, rfl⟩ := List.mem_map.1 hx
  exact Voice.small_cl (h3 w hw)
theorem Measure.small_cl {v : Measure} (h : v.small) : v.cl.small := by
  obtain ⟨h1, h2, h3⟩ := h
  have e1 : v.cl.cells.l = v.cells.l.map Cell.cl := l_of
  refine ⟨h1, by rw [e1, List.length_map]; exact h2, fun x hx => ?_⟩
  rw [e1] at hx
  obtain ⟨w, hw, rfl⟩ := List.mem_map.1 hx
  exact Cell.small_cl (h3 w hw)
theorem Score.small_cl {v : Score} (h : v.small) : v.cl.small := by
  obtain ⟨h1, h2, h3, h4, h5, h6⟩ := h
  have e1 : v.cl.measures.l = v.measures.l.map Measure.cl := rfl
  refine ⟨h1, h2, by rw [e1, List.length_map]; exact h3, fun x hx => ?_, h5, h6⟩
  rw [e1] at hx
  obtain ⟨w, hw, rfl⟩ := List.mem_map.1 hx
  exact Measure.small_cl (h4 w hw)
/-! ### Equal up to the kind of an empty list -/
theorem objVoices_cn (m c : Nat) : ∀ (l : List Voice) (v : Nat), objVoices m c v (l.map Voice.cn) = objVoices m c v l
  | [], _ => rfl
  | x :: l, v => by
    have e : x.cn.events.l = x.events.l.map Event.cn := l_of
    have e2 : ∀ (l : List Event) i, objEvents m c v i (l.map Event.cn) = objEvents m c v i l := by
      intro l
      induction l with
      | nil => intro i; rfl
      | cons y l ih => intro i; simp only [List.map_cons, objEvents, ih]; rfl
    simp only [List.map_cons, objVoices, objVoices_cn m c l, e, e2]
theorem objCells_cn (m : Nat) : ∀ (l : List Cell) (c : Nat), objCells m c (l.map Cell.cn) = objCells m c l
  | [], _ => rfl
  | x :: l, c => by
    have e : x.cn.voices.l = x.voices.l.map Voice.cn := l_of
    simp only [List.map_cons, objCells, objCells_cn m l, e, objVoices_cn]
theorem objMeasures_cn : ∀ (l : List Measure) (m : Nat), objMeasures m (l.map Measure.cn) = objMeasures m l
  | [], _ => rfl
  | x :: l, m => by
    have e : x.cn.cells.l = x.cells.l.map Cell.cn := l_of
    have e2 : oMeasure m x.cn = oMeasure m x := rfl
    simp only [List.map_cons, objMeasures, objMeasures_cn l, e, e2, objCells_cn]
theorem objParts_cn : ∀ (l : List Part) (i st : Nat), objParts i st (l.map Part.cn) = objParts i st l
  | [], _, _ => rfl
  | x :: l, i, st => by
    have e : x.cn.staves.l = x.staves.l := l_of
    have e2 : oPart i x.cn = oPart i x := rfl
    simp only [List.map_cons, objParts, objParts_cn l, e, e2]
theorem objs_cn (s : Score) : objs s.cn = objs s := by
  have e : s.cn.measures.l = s.measures.l.map Measure.cn := l_of
  have e2 : s.cn.parts.l = s.parts.l.map Part.cn := l_of
  have e3 : s.cn.spanners.l = s.spanners.l := l_of
  unfold objs
  rw [e, e2, e3, objMeasures_cn, objParts_cn]
theorem Voice.cn_eq {a b : Voice} (h1 : a.events.l.map Event.cn = b.events.l.map Event.cn) (h2 : a.tuplets.l = b.tuplets.l) : a.cn = b.cn := by unfold Voice.cn; rw [h1, h2]
end Go.Hem
/- Scores with other ids: the objects by their numbers. -/
set_option linter.unusedSimpArgs false
set_option linter.unusedVariables false
namespace Go.Hem
/-! ### Sums -/
def upTo {α : Type} (f : α → Nat) (l : List α) (i : Nat) : Nat := ((l.take i).map f).sum
theorem upTo_succ {α : Type} {f : α → Nat} {l : List α} {i : Nat} {x : α} (h : l[i]? = some x) : upTo f l (i + 1) = upTo f l i + f x := by
  unfold upTo; rw [List.take_add_one, h]; simp
theorem upTo_mono {α : Type} {f : α → Nat} {l : List α} {i j : Nat} (h : i ≤ j) : upTo f l i ≤ upTo f l j := by
  induction h with
  | refl => exact Nat.le_refl _
  | step h ih =>
    rename_i m
    refine Nat.le_trans ih ?_
    cases hx : l[m]? with
    | none =>
      have := List.getElem?_eq_none_iff.1 hx
      unfold upTo
      rw [List.take_of_length_le this, List.take_of_length_le (by omega)]; exact Nat.le_refl _
    | some x => rw [upTo_succ hx]; omega
theorem upTo_lt {α : Type} {f : α → Nat} {l : List α} {i j : Nat} {x : α} (h : l[i]? = some x) (hij : i < j) : upTo f l i + f x ≤ upTo f l j := by
  rw [← upTo_succ h]; exact upTo_mono hij
theorem upTo_all {α : Type} {f : α → Nat} {l : List α} : (l.map f).sum = upTo f l l.length := by unfold upTo; rw [List.take_length]
theorem upTo_le {α : Type} {f : α → Nat} {l : List α} {i : Nat} {x : α} (h : l[i]? = some x) : upTo f l i + f x ≤ (l.map f).sum := by
  rw [upTo_all]; exact upTo_lt h (List.getElem?_eq_some_iff.1 h).1

def Part.sz (p : Part) : Nat := 1 + p.staves.l.length
def Voice.sz (z : Voice) : Nat := z.events.l.length
def Cell.sz (q : Cell) : Nat := (q.voices.l.map Voice.sz).sum
def Measure.sz (y : Measure) : Nat := 1 + (y.cells.l.map Cell.sz).sum
def Score.szP (a : Score) : Nat := (a.parts.l.map Part.sz).sum
def Score.szM (a : Score) : Nat := (a.measures.l.map Measure.sz).sum
def Score.sz (a : Score) : Nat := a.szP + a.szM + a.spanners.l.length

/-! ### Other ids -/
section
variable (φ : Nat → ID → ID)
def gPart (n : Nat) (p : Part) : Part := { p with id := φ n p.id, staves := p.staves.map fun l => l.mapIdx fun k q => { q with id := φ (n + 1 + k) q.id } }
def gVoice (n : Nat) (z : Voice) : Voice := { z with events := z.events.map fun l => l.mapIdx fun e w => { w with id := φ (n + e) w.id } }
def gCell (n : Nat) (q : Cell) : Cell := { q with voices := q.voices.map fun l => l.mapIdx fun v z => gVoice φ (n + upTo Voice.sz q.voices.l v) z }
def gMeas (n : Nat) (y : Measure) : Measure := { y with id := φ n y.id, cells := y.cells.map fun l => l.mapIdx fun c q => gCell φ (n + 1 + upTo Cell.sz y.cells.l c) q }
def gScore (a : Score) : Score := { a with
  parts := a.parts.map fun l => l.mapIdx fun i p => gPart φ (upTo Part.sz a.parts.l i) p
  measures := a.measures.map fun l => l.mapIdx fun m y => gMeas φ (a.szP + upTo Measure.sz a.measures.l m) y
  spanners := a.spanners.map fun l => l.mapIdx fun i x => { x with id := φ (a.szP + a.szM + i) x.id } }
end
def upd (φ : Nat → ID → ID) (k : Nat) (d : ID) : Nat → ID → ID := fun n x => if n = k then d else φ n x
theorem upd_ne {φ : Nat → ID → ID} {k n : Nat} {d x : ID} (h : n ≠ k) : upd φ k d n x = φ n x := by unfold upd; rw [if_neg h]
theorem upd_eq {φ : Nat → ID → ID} {k : Nat} {d x : ID} : upd φ k d k x = d := by unfold upd; rw [if_pos rfl]
theorem sl_map_l {α β : Type} {s : Sl α} {g : List α → List β} (h : g [] = []) : Sl.l (s.map g) = g s.l := by cases s <;> simp [Sl.l, h]
theorem mapIdx_congr' {α β : Type} {l : List α} {f g : Nat → α → β} (h : ∀ i x, l[i]? = some x → f i x = g i x) : l.mapIdx f = l.mapIdx g := by
  apply List.ext_getElem?
  intro i
  rw [List.getElem?_mapIdx, List.getElem?_mapIdx]
  cases hx : l[i]? with
  | none => rfl
  | some x => simp [h i x hx]
theorem map_congr_sl {α β : Type} {s : Sl α} {f g : List α → List β} (h : f s.l = g s.l) : s.map f = s.map g := by
  cases s with
  | none => rfl
  | some l => simpa [Sl.l] using h
theorem mapIdx_set {α β : Type} {l : List α} {f g : Nat → α → β} {i : Nat} {x : α} (hx : l[i]? = some x) (h : ∀ j y, j ≠ i → l[j]? = some y → g j y = f j y) : (l.mapIdx f).set i (g i x) = l.mapIdx g := by
  apply List.ext_getElem?
  intro j
  rw [List.getElem?_set, List.length_mapIdx]
  have hi := (List.getElem?_eq_some_iff.1 hx).1
  by_cases e : i = j
  · subst e
    rw [if_pos rfl, if_pos hi, List.getElem?_mapIdx, hx]; rfl
  · rw [if_neg e, List.getElem?_mapIdx, List.getElem?_mapIdx]
    cases hy : l[j]? with
    | none => rfl
    | some y => simp [h j y (fun q => e q.symm) hy]
section
variable {φ : Nat → ID → ID} {k : Nat} {d : ID}
theorem gPart_upd {n : Nat} {p : Part} (h : k < n ∨ n + p.sz ≤ k) : gPart (upd φ k d) n p = gPart φ n p := by
  unfold Part.sz at h
  unfold gPart
  have e1 : upd φ k d n p.id = φ n p.id := upd_ne (by omega)
  have e2 : (p.staves.map fun l => l.mapIdx fun j q => { q with id := upd φ k d (n + 1 + j) q.id }) = p.staves.map fun l => l.mapIdx fun j (q : Staff) => { q with id := φ (n + 1 + j) q.id } :=
    map_congr_sl (mapIdx_congr' fun j q hq => by rw [upd_ne (by have := (List.getElem?_eq_some_iff.1 hq).1; omega)])
  rw [e1, e2]
theorem gVoice_upd {n : Nat} {z : Voice} (h : k < n ∨ n + z.sz ≤ k) : gVoice (upd φ k d) n z = gVoice φ n z := by
  unfold Voice.sz at h
  unfold gVoice
  have e2 : (z.events.map fun l => l.mapIdx fun j w => { w with id := upd φ k d (n + j) w.id }) = z.events.map fun l => l.mapIdx fun j (w : Event) => { w with id := φ (n + j) w.id } :=
    map_congr_sl (mapIdx_congr' fun j q hq => by rw [upd_ne (by have := (List.getElem?_eq_some_iff.1 hq).1; omega)])
  rw [e2]
theorem gCell_upd {n : Nat} {q : Cell} (h : k < n ∨ n + q.sz ≤ k) : gCell (upd φ k d) n q = gCell φ n q := by
  unfold gCell
  have e2 : (q.voices.map fun l => l.mapIdx fun v z => gVoice (upd φ k d) (n + upTo Voice.sz q.voices.l v) z) = q.voices.map fun l => l.mapIdx fun v z => gVoice φ (n + upTo Voice.sz q.voices.l v) z :=
    map_congr_sl (mapIdx_congr' fun j z hz => gVoice_upd (by
      have := upTo_le (f := Voice.sz) hz
      unfold Cell.sz at h
      omega))
  rw [e2]
theorem gMeas_upd {n : Nat} {y : Measure} (h : k < n ∨ n + y.sz ≤ k) : gMeas (upd φ k d) n y = gMeas φ n y := by
  unfold Measure.sz at h
  unfold gMeas
  have e1 : upd φ k d n y.id = φ n y.id := upd_ne (by omega)
  have e2 : (y.cells.map fun l => l.mapIdx fun c q => gCell (upd φ k d) (n + 1 + upTo Cell.sz y.cells.l c) q) = y.cells.map fun l => l.mapIdx fun c q => gCell φ (n + 1 + upTo Cell.sz y.cells.l c) q :=
    map_congr_sl (mapIdx_congr' fun j z hz => gCell_upd (by
      have := upTo_le (f := Cell.sz) hz
      omega))
  rw [e1, e2]
theorem gParts_upd {a : Score} (h : a.szP ≤ k) : (a.parts.map fun l => l.mapIdx fun i p => gPart (upd φ k d) (upTo Part.sz a.parts.l i) p) = a.parts.map fun l => l.mapIdx fun i p => gPart φ (upTo Part.sz a.parts.l i) p :=
  map_congr_sl (mapIdx_congr' fun j z hz => gPart_upd (by have := upTo_le (f := Part.sz) hz; unfold Score.szP at h; omega))
theorem gMeass_upd {a : Score} (h : k < a.szP ∨ a.szP + a.szM ≤ k) : (a.measures.map fun l => l.mapIdx fun m y => gMeas (upd φ k d) (a.szP + upTo Measure.sz a.measures.l m) y) = a.measures.map fun l => l.mapIdx fun m y => gMeas φ (a.szP + upTo Measure.sz a.measures.l m) y :=
  map_congr_sl (mapIdx_congr' fun j z hz => gMeas_upd (by have := upTo_le (f := Measure.sz) hz; unfold Score.szM at h; omega))
theorem gSpans_upd {a : Score} (h : k < a.szP + a.szM) : (a.spanners.map fun l => l.mapIdx fun i x => { x with id := upd φ k d (a.szP + a.szM + i) x.id }) = a.spanners.map fun l => l.mapIdx fun i (x : Spanner) => { x with id := φ (a.szP + a.szM + i) x.id } :=
  map_congr_sl (mapIdx_congr' fun j q hq => by rw [upd_ne (by omega)])
end

/-! ### The number of a place -/
def Score.ix (a : Score) : Pos → Nat
  | .part i => upTo Part.sz a.parts.l i
  | .staff i k _ => upTo Part.sz a.parts.l i + 1 + k
  | .measure m => a.szP + upTo Measure.sz a.measures.l m
  | .event m c v e => a.szP + upTo Measure.sz a.measures.l m + 1 + upTo Cell.sz ((a.measures.l[m]?).getD default).cells.l c + upTo Voice.sz ((((a.measures.l[m]?).getD default).cells.l[c]?).getD default).voices.l v + e
  | .spanner i => a.szP + a.szM + i
/-- The id of a place. -/
def Score.idOf (a : Score) : Pos → ID
  | .part i => ((a.parts.l[i]?).getD default).id
  | .staff i k _ => ((((a.parts.l[i]?).getD default).staves.l[k]?).getD default).id
  | .measure m => ((a.measures.l[m]?).getD default).id
  | .event m c v e => ((((((((a.measures.l[m]?).getD default).cells.l[c]?).getD default).voices.l[v]?).getD default).events.l[e]?).getD default).id
  | .spanner i => ((a.spanners.l[i]?).getD default).id
theorem at_mapIdx {α β : Type} {s : Sl α} {f : Nat → α → β} {i : Nat} {y : β} (h : (Sl.l (s.map fun l => l.mapIdx f))[i]? = some y) : ∃ x, s.l[i]? = some x ∧ y = f i x := by
  rw [sl_map_l (by rfl), List.getElem?_mapIdx] at h
  cases hx : s.l[i]? with
  | none => rw [hx] at h; cases h
  | some x => rw [hx] at h; cases h; exact ⟨x, rfl, rfl⟩
theorem set_map {α : Type} {s : Sl α} {f g : Nat → α → α} {i : Nat} {x : α} (hx : s.l[i]? = some x) (h : ∀ j y, j ≠ i → s.l[j]? = some y → g j y = f j y) : (some ((Sl.l (s.map fun l => l.mapIdx f)).set i (g i x)) : Sl α) = s.map fun l => l.mapIdx g := by
  rw [sl_map_l (by rfl), mapIdx_set hx h]
  cases s with
  | none => simp [Sl.l] at hx
  | some l => rfl
end Go.Hem
/- Scores with other ids: one step, and the numbers of the places in order. -/
set_option linter.unusedSimpArgs false
set_option linter.unusedVariables false
namespace Go.Hem
theorem upTo_other {α : Type} {f : α → Nat} {l : List α} {i j : Nat} {x y : α} (hx : l[i]? = some x) (hy : l[j]? = some y) (h : j ≠ i) : upTo f l i + f x ≤ upTo f l j ∨ upTo f l j + f y ≤ upTo f l i := by
  rcases Nat.lt_or_gt_of_ne h with h | h
  · exact .inr (upTo_lt hy h)
  · exact .inl (upTo_lt hx h)
theorem gPart_at {φ : Nat → ID → ID} {n : Nat} {p : Part} {d : ID} : { gPart φ n p with id := d } = gPart (upd φ n d) n p := by
  unfold gPart
  have e2 : (p.staves.map fun l => l.mapIdx fun j q => { q with id := upd φ n d (n + 1 + j) q.id }) = p.staves.map fun l => l.mapIdx fun j (q : Staff) => { q with id := φ (n + 1 + j) q.id } :=
    map_congr_sl (mapIdx_congr' fun j q hq => by rw [upd_ne (by omega)])
  rw [e2, upd_eq]
theorem gMeas_at {φ : Nat → ID → ID} {n : Nat} {p : Measure} {d : ID} : { gMeas φ n p with id := d } = gMeas (upd φ n d) n p := by
  unfold gMeas
  have e2 : (p.cells.map fun l => l.mapIdx fun c q => gCell (upd φ n d) (n + 1 + upTo Cell.sz p.cells.l c) q) = p.cells.map fun l => l.mapIdx fun c q => gCell φ (n + 1 + upTo Cell.sz p.cells.l c) q :=
    map_congr_sl (mapIdx_congr' fun j z hz => gCell_upd (.inl (by omega)))
  rw [e2, upd_eq]
theorem getD_some {α : Type} [Inhabited α] {x : α} {o : Option α} (h : o = some x) : o.getD default = x := by rw [h]; rfl
theorem gPart_staff {φ : Nat → ID → ID} {n k : Nat} {p : Part} {q : Staff} {d : ID} (hq : p.staves.l[k]? = some q) : (gPart φ n p).setS k { { q with id := φ (n + 1 + k) q.id } with id := d } = gPart (upd φ (n + 1 + k) d) n p := by
  have e := set_map (s := p.staves) (f := fun j (q : Staff) => { q with id := φ (n + 1 + j) q.id }) (g := fun j (q : Staff) => { q with id := upd φ (n + 1 + k) d (n + 1 + j) q.id }) hq (fun j y hj _ => by rw [upd_ne (by omega)])
  simp only [upd_eq] at e
  unfold Part.setS gPart
  rw [upd_ne (show n ≠ n + 1 + k by omega)]
  simp only [Part.mk.injEq, true_and]
  exact e
theorem gVoice_event {φ : Nat → ID → ID} {n k : Nat} {p : Voice} {q : Event} {d : ID} (hq : p.events.l[k]? = some q) : (gVoice φ n p).setE k { { q with id := φ (n + k) q.id } with id := d } = gVoice (upd φ (n + k) d) n p := by
  have e := set_map (s := p.events) (f := fun j (q : Event) => { q with id := φ (n + j) q.id }) (g := fun j (q : Event) => { q with id := upd φ (n + k) d (n + j) q.id }) hq (fun j y hj _ => by rw [upd_ne (by omega)])
  simp only [upd_eq] at e
  unfold Voice.setE gVoice
  simp only [Voice.mk.injEq, and_true]
  exact e
theorem gCell_voice {φ : Nat → ID → ID} {n v k : Nat} {q : Cell} {z : Voice} {d : ID} (hz : q.voices.l[v]? = some z) (hk : n + upTo Voice.sz q.voices.l v ≤ k) (hk2 : k < n + upTo Voice.sz q.voices.l v + z.sz) : (gCell φ n q).setV v (gVoice (upd φ k d) (n + upTo Voice.sz q.voices.l v) z) = gCell (upd φ k d) n q := by
  have e := set_map (s := q.voices) (f := fun v z => gVoice φ (n + upTo Voice.sz q.voices.l v) z) (g := fun v z => gVoice (upd φ k d) (n + upTo Voice.sz q.voices.l v) z) hz (fun j y hj hy => gVoice_upd (by
    have := upTo_other (f := Voice.sz) hz hy hj; omega))
  unfold Cell.setV gCell
  simp only [Cell.mk.injEq, true_and]
  exact e
theorem gMeas_cell {φ : Nat → ID → ID} {n v k : Nat} {q : Measure} {z : Cell} {d : ID} (hz : q.cells.l[v]? = some z) (hk : n + 1 + upTo Cell.sz q.cells.l v ≤ k) (hk2 : k < n + 1 + upTo Cell.sz q.cells.l v + z.sz) : (gMeas φ n q).setC v (gCell (upd φ k d) (n + 1 + upTo Cell.sz q.cells.l v) z) = gMeas (upd φ k d) n q := by
  have e := set_map (s := q.cells) (f := fun v z => gCell φ (n + 1 + upTo Cell.sz q.cells.l v) z) (g := fun v z => gCell (upd φ k d) (n + 1 + upTo Cell.sz q.cells.l v) z) hz (fun j y hj hy => gCell_upd (by
    have := upTo_other (f := Cell.sz) hz hy hj; omega))
  unfold Measure.setC gMeas
  rw [upd_ne (show n ≠ k by omega)]
  simp only [Measure.mk.injEq, true_and]
  exact e
theorem gScore_part {φ : Nat → ID → ID} {a : Score} {i k : Nat} {p : Part} {d : ID} (hp : a.parts.l[i]? = some p) (hk : upTo Part.sz a.parts.l i ≤ k) (hk2 : k < upTo Part.sz a.parts.l i + p.sz) : (gScore φ a).setP i (gPart (upd φ k d) (upTo Part.sz a.parts.l i) p) = gScore (upd φ k d) a := by
  have e := set_map (s := a.parts) (f := fun i p => gPart φ (upTo Part.sz a.parts.l i) p) (g := fun i p => gPart (upd φ k d) (upTo Part.sz a.parts.l i) p) hp (fun j y hj hy => gPart_upd (by
    have := upTo_other (f := Part.sz) hp hy hj; omega))
  have hb : k < a.szP := by have := upTo_le (f := Part.sz) hp; unfold Score.szP; omega
  have e1 := gMeass_upd (φ := φ) (d := d) (a := a) (.inl hb)
  have e2 := gSpans_upd (φ := φ) (d := d) (a := a) (show k < a.szP + a.szM by omega)
  unfold Score.setP gScore
  rw [e1, e2]
  simp only [Score.mk.injEq, true_and, and_true]
  exact e
theorem gScore_meas {φ : Nat → ID → ID} {a : Score} {i k : Nat} {p : Measure} {d : ID} (hp : a.measures.l[i]? = some p) (hk : a.szP + upTo Measure.sz a.measures.l i ≤ k) (hk2 : k < a.szP + upTo Measure.sz a.measures.l i + p.sz) : (gScore φ a).setM i (gMeas (upd φ k d) (a.szP + upTo Measure.sz a.measures.l i) p) = gScore (upd φ k d) a := by
  have e := set_map (s := a.measures) (f := fun i p => gMeas φ (a.szP + upTo Measure.sz a.measures.l i) p) (g := fun i p => gMeas (upd φ k d) (a.szP + upTo Measure.sz a.measures.l i) p) hp (fun j y hj hy => gMeas_upd (by
    have := upTo_other (f := Measure.sz) hp hy hj; omega))
  have hb : k < a.szP + a.szM := by have := upTo_le (f := Measure.sz) hp; unfold Score.szM; omega
  have e1 := gParts_upd (φ := φ) (d := d) (a := a) (show a.szP ≤ k by omega)
  have e2 := gSpans_upd (φ := φ) (d := d) (a := a) hb
  unfold Score.setM gScore
  rw [e1, e2]
  simp only [Score.mk.injEq, true_and, and_true]
  exact e
theorem gScore_span {φ : Nat → ID → ID} {a : Score} {i : Nat} {p : Spanner} {d : ID} (hp : a.spanners.l[i]? = some p) : (gScore φ a).setX i { { p with id := φ (a.szP + a.szM + i) p.id } with id := d } = gScore (upd φ (a.szP + a.szM + i) d) a := by
  have e := set_map (s := a.spanners) (f := fun j (q : Spanner) => { q with id := φ (a.szP + a.szM + j) q.id }) (g := fun j (q : Spanner) => { q with id := upd φ (a.szP + a.szM + i) d (a.szP + a.szM + j) q.id }) hp (fun j y hj _ => by rw [upd_ne (by omega)])
  simp only [upd_eq] at e
  have e1 := gParts_upd (φ := φ) (d := d) (a := a) (show a.szP ≤ a.szP + a.szM + i by omega)
  have e2 := gMeass_upd (φ := φ) (d := d) (a := a) (k := a.szP + a.szM + i) (.inr (by omega))
  unfold Score.setX gScore
  rw [e1, e2]
  simp only [Score.mk.injEq, true_and, and_true]
  exact e
/-- One step: the id at a place, and what is there when it is written. -/
theorem idAt_g {a : Score} {φ : Nat → ID → ID} {o : Pos} {id : ID} {g : ID → Score} (h : IdAt (gScore φ a) o id g) : id = φ (a.ix o) (a.idOf o) ∧ ∀ d, g d = gScore (upd φ (a.ix o) d) a := by
  cases h with
  | part hp =>
    rename_i i p
    obtain ⟨p0, hp0, rfl⟩ := at_mapIdx hp
    have e : a.idOf (.part i) = p0.id := by show ((a.parts.l[i]?).getD default).id = _; rw [getD_some hp0]
    refine ⟨by rw [e]; rfl, fun d => ?_⟩
    exact (congrArg ((gScore φ a).setP i) gPart_at).trans (gScore_part hp0 (Nat.le_refl _) (by unfold Part.sz; omega))
  | staff hp hq =>
    rename_i i k st p q
    obtain ⟨p0, hp0, rfl⟩ := at_mapIdx hp
    obtain ⟨q0, hq0, rfl⟩ := at_mapIdx (s := p0.staves) (f := fun j (q : Staff) => { q with id := φ (upTo Part.sz a.parts.l i + 1 + j) q.id }) hq
    have e : a.idOf (.staff i k st) = q0.id := by
      show ((((a.parts.l[i]?).getD default).staves.l[k]?).getD default).id = _
      rw [getD_some hp0, getD_some hq0]
    refine ⟨by rw [e]; rfl, fun d => ?_⟩
    have hk := (List.getElem?_eq_some_iff.1 hq0).1
    exact (congrArg ((gScore φ a).setP i) (gPart_staff hq0)).trans (gScore_part hp0 (by omega) (by unfold Part.sz; omega))
  | measure hm =>
    rename_i m y
    obtain ⟨y0, hy0, rfl⟩ := at_mapIdx hm
    have e : a.idOf (.measure m) = y0.id := by show ((a.measures.l[m]?).getD default).id = _; rw [getD_some hy0]
    refine ⟨by rw [e]; rfl, fun d => ?_⟩
    exact (congrArg ((gScore φ a).setM m) gMeas_at).trans (gScore_meas hy0 (Nat.le_refl _) (by unfold Measure.sz; omega))
  | event hm hc hv he =>
    rename_i m c v e y q z w
    obtain ⟨y0, hy0, rfl⟩ := at_mapIdx hm
    obtain ⟨q0, hq0, rfl⟩ := at_mapIdx (s := y0.cells) (f := fun c q => gCell φ (a.szP + upTo Measure.sz a.measures.l m + 1 + upTo Cell.sz y0.cells.l c) q) hc
    obtain ⟨z0, hz0, rfl⟩ := at_mapIdx (s := q0.voices) (f := fun v z => gVoice φ (a.szP + upTo Measure.sz a.measures.l m + 1 + upTo Cell.sz y0.cells.l c + upTo Voice.sz q0.voices.l v) z) hv
    obtain ⟨w0, hw0, rfl⟩ := at_mapIdx (s := z0.events) (f := fun e (w : Event) => { w with id := φ (a.szP + upTo Measure.sz a.measures.l m + 1 + upTo Cell.sz y0.cells.l c + upTo Voice.sz q0.voices.l v + e) w.id }) he
    have e1 : a.idOf (.event m c v e) = w0.id := by
      show ((((((((a.measures.l[m]?).getD default).cells.l[c]?).getD default).voices.l[v]?).getD default).events.l[e]?).getD default).id = _
      rw [getD_some hy0, getD_some hq0, getD_some hz0, getD_some hw0]
    have e2 : a.ix (.event m c v e) = a.szP + upTo Measure.sz a.measures.l m + 1 + upTo Cell.sz y0.cells.l c + upTo Voice.sz q0.voices.l v + e := by
      show a.szP + upTo Measure.sz a.measures.l m + 1 + upTo Cell.sz ((a.measures.l[m]?).getD default).cells.l c + upTo Voice.sz ((((a.measures.l[m]?).getD default).cells.l[c]?).getD default).voices.l v + e = _
      rw [getD_some hy0, getD_some hq0]
    rw [e1, e2]
    refine ⟨rfl, fun d => ?_⟩
    have b1 := (List.getElem?_eq_some_iff.1 hw0).1
    have b2 := upTo_le (f := Voice.sz) hz0
    have b3 := upTo_le (f := Cell.sz) hq0
    have b4 : z0.sz = z0.events.l.length := rfl
    have b5 : q0.sz = (q0.voices.l.map Voice.sz).sum := rfl
    have b6 : y0.sz = 1 + (y0.cells.l.map Cell.sz).sum := rfl
    refine (congrArg (fun z => (gScore φ a).setM m ((gMeas φ _ y0).setC c ((gCell φ _ q0).setV v z))) (gVoice_event hw0)).trans ?_
    rw [gCell_voice hz0 (by omega) (by omega), gMeas_cell hq0 (by omega) (by omega)]
    exact gScore_meas hy0 (by omega) (by omega)
  | spanner hm =>
    rename_i i y
    obtain ⟨y0, hy0, rfl⟩ := at_mapIdx (s := a.spanners) (f := fun j (q : Spanner) => { q with id := φ (a.szP + a.szM + j) q.id }) hm
    have e : a.idOf (.spanner i) = y0.id := by show ((a.spanners.l[i]?).getD default).id = _; rw [getD_some hy0]
    refine ⟨by rw [e]; rfl, fun d => ?_⟩
    exact gScore_span hy0

/-! ### The numbers in order -/
theorem ix_staves (a : Score) (i : Nat) : ∀ (l : List Staff) (k st : Nat), (posStaves i k st l).map a.ix = List.range' (upTo Part.sz a.parts.l i + 1 + k) l.length
  | [], _, _ => rfl
  | x :: l, k, st => by rw [posStaves, List.map_cons, ix_staves a i l, List.length_cons, List.range'_succ]; rfl
theorem ix_parts (a : Score) : ∀ (l pre : List Part) (st : Nat), a.parts.l = pre ++ l → (posParts pre.length st l).map a.ix = List.range' ((pre.map Part.sz).sum) ((l.map Part.sz).sum)
  | [], _, _, _ => rfl
  | x :: l, pre, st, h => by
    have ih := ix_parts a l (pre ++ [x]) (st + x.staves.l.length) (by rw [h]; simp)
    have e : upTo Part.sz a.parts.l pre.length = (pre.map Part.sz).sum := by unfold upTo; rw [h]; simp
    have e1 : (pre ++ [x]).length = pre.length + 1 := by simp
    have e2 : ((pre ++ [x]).map Part.sz).sum = (pre.map Part.sz).sum + (1 + x.staves.l.length) := by simp [Part.sz]
    have e3 : ((x :: l).map Part.sz).sum = 1 + x.staves.l.length + (l.map Part.sz).sum := by simp [Part.sz]
    rw [e1, e2] at ih
    have e4 : a.ix (.part pre.length) = (pre.map Part.sz).sum := e
    rw [posParts, List.map_cons, List.map_append, ix_staves, ih, e, e4, Nat.add_zero, e3, show 1 + x.staves.l.length + (l.map Part.sz).sum = (x.staves.l.length + (l.map Part.sz).sum) + 1 by omega, List.range'_succ, show (pre.map Part.sz).sum + (1 + x.staves.l.length) = (pre.map Part.sz).sum + 1 + x.staves.l.length by omega, List.range'_append_1]
theorem ix_events (a : Score) (m c v B : Nat) (hB : ∀ e, a.ix (.event m c v e) = B + e) : ∀ (l : List Event) (e : Nat), (posEvents m c v e l).map a.ix = List.range' (B + e) l.length
  | [], _ => rfl
  | x :: l, e => by rw [posEvents, List.map_cons, ix_events a m c v B hB l, List.length_cons, List.range'_succ, hB]; rfl
theorem ix_voices (a : Score) (m c B : Nat) (vs : List Voice) (hB : ∀ v e, a.ix (.event m c v e) = B + upTo Voice.sz vs v + e) : ∀ (l pre : List Voice), vs = pre ++ l → (posVoices m c pre.length l).map a.ix = List.range' (B + (pre.map Voice.sz).sum) ((l.map Voice.sz).sum)
  | [], _, _ => rfl
  | x :: l, pre, h => by
    have ih := ix_voices a m c B vs hB l (pre ++ [x]) (by rw [h]; simp)
    have e : upTo Voice.sz vs pre.length = (pre.map Voice.sz).sum := by unfold upTo; rw [h]; simp
    have e1 : (pre ++ [x]).length = pre.length + 1 := by simp
    have e2 : ((pre ++ [x]).map Voice.sz).sum = (pre.map Voice.sz).sum + x.events.l.length := by simp [Voice.sz]
    have e3 : ((x :: l).map Voice.sz).sum = x.events.l.length + (l.map Voice.sz).sum := by simp [Voice.sz]
    rw [e1, e2] at ih
    rw [posVoices, List.map_append, ix_events a m c pre.length (B + (pre.map Voice.sz).sum) (fun e' => by rw [hB, e]), ih, e3, Nat.add_zero, ← Nat.add_assoc, List.range'_append_1]
theorem ix_cells (a : Score) (m B : Nat) (cs : List Cell) (hB : ∀ c q, cs[c]? = some q → ∀ v e, a.ix (.event m c v e) = B + upTo Cell.sz cs c + upTo Voice.sz q.voices.l v + e) : ∀ (l pre : List Cell), cs = pre ++ l → (posCells m pre.length l).map a.ix = List.range' (B + (pre.map Cell.sz).sum) ((l.map Cell.sz).sum)
  | [], _, _ => rfl
  | x :: l, pre, h => by
    have ih := ix_cells a m B cs hB l (pre ++ [x]) (by rw [h]; simp)
    have e : upTo Cell.sz cs pre.length = (pre.map Cell.sz).sum := by unfold upTo; rw [h]; simp
    have hx : cs[pre.length]? = some x := by rw [h]; simp
    have e1 : (pre ++ [x]).length = pre.length + 1 := by simp
    have e2 : ((pre ++ [x]).map Cell.sz).sum = (pre.map Cell.sz).sum + (x.voices.l.map Voice.sz).sum := by simp [Cell.sz]
    have e3 : ((x :: l).map Cell.sz).sum = (x.voices.l.map Voice.sz).sum + (l.map Cell.sz).sum := by simp [Cell.sz]
    rw [e1, e2] at ih
    have h0 := ix_voices a m pre.length (B + (pre.map Cell.sz).sum) x.voices.l (fun v e' => by rw [hB _ _ hx, e]) x.voices.l [] rfl
    simp only [List.length_nil, List.map_nil, List.sum_nil, Nat.add_zero] at h0
    rw [posCells, List.map_append, h0, ih, e3, ← Nat.add_assoc, List.range'_append_1]
theorem ix_measures (a : Score) : ∀ (l pre : List Measure), a.measures.l = pre ++ l → (posMeasures pre.length l).map a.ix = List.range' (a.szP + (pre.map Measure.sz).sum) ((l.map Measure.sz).sum)
  | [], _, _ => rfl
  | x :: l, pre, h => by
    have ih := ix_measures a l (pre ++ [x]) (by rw [h]; simp)
    have e : upTo Measure.sz a.measures.l pre.length = (pre.map Measure.sz).sum := by unfold upTo; rw [h]; simp
    have hx : a.measures.l[pre.length]? = some x := by rw [h]; simp
    have e1 : (pre ++ [x]).length = pre.length + 1 := by simp
    have e2 : ((pre ++ [x]).map Measure.sz).sum = (pre.map Measure.sz).sum + (1 + (x.cells.l.map Cell.sz).sum) := by simp [Measure.sz]
    have e3 : ((x :: l).map Measure.sz).sum = 1 + (x.cells.l.map Cell.sz).sum + (l.map Measure.sz).sum := by simp [Measure.sz]
    rw [e1, e2] at ih
    have h0 := ix_cells a pre.length (a.szP + (pre.map Measure.sz).sum + 1) x.cells.l (fun c q hq v e' => by
      show a.szP + upTo Measure.sz a.measures.l pre.length + 1 + upTo Cell.sz ((a.measures.l[pre.length]?).getD default).cells.l c + upTo Voice.sz ((((a.measures.l[pre.length]?).getD default).cells.l[c]?).getD default).voices.l v + e' = _
      rw [getD_some hx, getD_some hq, e]) x.cells.l [] rfl
    simp only [List.length_nil, List.map_nil, List.sum_nil, Nat.add_zero] at h0
    have e4 : a.ix (.measure pre.length) = a.szP + (pre.map Measure.sz).sum := by show a.szP + upTo Measure.sz a.measures.l pre.length = _; rw [e]
    rw [posMeasures, List.map_cons, List.map_append, h0, ih, e4, e3, show 1 + (x.cells.l.map Cell.sz).sum + (l.map Measure.sz).sum = ((x.cells.l.map Cell.sz).sum + (l.map Measure.sz).sum) + 1 by omega, List.range'_succ, show a.szP + ((pre.map Measure.sz).sum + (1 + (x.cells.l.map Cell.sz).sum)) = a.szP + (pre.map Measure.sz).sum + 1 + (x.cells.l.map Cell.sz).sum by omega, List.range'_append_1]
theorem ix_spanners (a : Score) : ∀ (l : List Spanner) (i : Nat), (posSpanners i l).map a.ix = List.range' (a.szP + a.szM + i) l.length
  | [], _ => rfl
  | x :: l, i => by rw [posSpanners, List.map_cons, ix_spanners a l, List.length_cons, List.range'_succ]; rfl
theorem ix_poss (a : Score) : (poss a).map a.ix = List.range' 0 a.sz := by
  have h1 := ix_parts a a.parts.l [] 0 rfl
  have h2 := ix_measures a a.measures.l [] rfl
  have h3 := ix_spanners a a.spanners.l 0
  simp only [List.length_nil, List.map_nil, List.sum_nil, Nat.add_zero] at h1 h2 h3
  unfold poss
  rw [List.map_append, List.map_append, h1, h2, h3]
  have e1 : (a.parts.l.map Part.sz).sum = a.szP := rfl
  have e2 : (a.measures.l.map Measure.sz).sum = a.szM := rfl
  rw [e1, e2, List.range'_append_1]
  have := List.range'_append_1 (s := 0) (m := a.szP) (n := a.szM + a.spanners.l.length)
  rw [Nat.zero_add] at this
  rw [this]
  unfold Score.sz
  rw [Nat.add_assoc]
theorem poss_len (a : Score) : (poss a).length = a.sz := by
  have := congrArg List.length (ix_poss a)
  simpa using this
/-- The number of the first place of those that are left. -/
theorem ix_head {a : Score} {pre r : List Pos} {o : Pos} (h : poss a = pre ++ o :: r) : a.ix o = pre.length := by
  have := ix_poss a
  rw [h, List.map_append, List.map_cons] at this
  have h2 := congrArg (fun l => l[pre.length]?) this
  simp only [List.getElem?_append_right (show (pre.map a.ix).length ≤ pre.length by simp), List.length_map, Nat.sub_self, List.getElem?_cons_zero] at h2
  have hl : pre.length < a.sz := by rw [← poss_len, h]; simp
  rw [List.getElem?_range' hl] at h2
  simpa using h2
end Go.Hem
