/- Walks. -/
import Derived.Test.YtnlhhjmheghnnaaWalks1
import Derived.Test.YtnlhhjmheghnnaaWalks0
/- Walks: score.Prune. -/
set_option maxRecDepth 10000
set_option maxHeartbeats 4000000
set_option linter.unusedSimpArgs false
set_option linter.unusedVariables false
namespace Go.Hem
variable {pol : Pol}
theorem o_map {b : Nat} : AV.one (.map b) = true := rfl
theorem c_map {b : Nat} : AV.cells (.map b) = [.map b] := rfl
theorem splice_full {z cs : List AV} (h : z.length = cs.length) : splice z 0 cs = cs := by
  unfold splice
  rw [List.take_zero, List.nil_append, List.drop_of_length_le (by omega), List.append_nil]
theorem map_of_get {H H' : AHeap} {b : Nat} (h : H'.get b = H.get b) : H'.map b = H.map b := by unfold AHeap.map; rw [h]
theorem get_of_map {H : AHeap} {b : Nat} {l : List (AV × AV)} (h : H.map b = some l) : H.get b = some (.map l) := by
  unfold AHeap.map at h
  split at h
  · rename_i q; cases h; exact q
  · cases h
theorem get_two {cs : List AV} {off : Nat} {x y : AV} (h1 : cs[off]? = some x) (h2 : cs[off + 1]? = some y) : (cs.drop off).take 2 = [x, y] := by
  obtain ⟨l1, e1⟩ := List.getElem?_eq_some_iff.1 h1
  obtain ⟨l2, e2⟩ := List.getElem?_eq_some_iff.1 h2
  rw [List.drop_eq_getElem_cons l1, List.take_succ_cons, List.drop_eq_getElem_cons l2, List.take_succ_cons, List.take_zero, e1, e2]
def PrPol (pol : Pol) : Prop := ClPol pol ∧ pol.pure 63 = false ∧ pol.pure 69 = false ∧ pol.pure 70 = false ∧ pol.pure 114 = false
theorem prune_pv (hp : PrPol pol) (s : Score) (hx : s.tame) (hT : Tame s) : Pv prog pol 29 [s.enc] (s.pr.enc) := by
  obtain ⟨hc, hp63, hp69, hp70, hp114⟩ := hp
  refine Pv_of' ok29 (by simp only [AV.closedBs, Score.enc_closed, Bool.and_self]) ?_
  simp -implicitDefEqProofs (maxDischargeDepth := 12) only [wpF, cf29, WW,List.replicate,e_splice,if_true,if_false,ite_true,ite_false,true_or,ne_eq,seval,h_putc,beq_self_eq_true,eq_self,exists_eq_left,exists_eq_left', s.enc_eq]
  rw [← s.enc_eq]
  refine wA_call (hc _ (by decide)) ((sClone_ok hc s hx _).mono ?_)
  rintro o H1 ⟨cs, fp, rfl, ho, hl, hones, hF, hN, hK⟩
  refine ⟨_, rfl, by simp only [k_nil], ?_⟩
  simp -implicitDefEqProofs (maxDischargeDepth := 12) only [WW,List.replicate,e_splice,if_true,if_false,ite_true,ite_false,true_or,ne_eq,seval,h_putc,beq_self_eq_true,eq_self,exists_eq_left,exists_eq_left'] at hF hN
  have g1 : H1.cells 1 = some [.sc (.str ⟨#[]⟩), .sc (.bool false), .sc .nils, .sc .nils, .sc .nils, .sc .nils] := (hK 1 (show 1 < 2 by decide)).trans (by simp -implicitDefEqProofs (maxDischargeDepth := 12) only [WW,List.replicate,e_splice,if_true,if_false,ite_true,ite_false,true_or,ne_eq,seval,h_putc,beq_self_eq_true,eq_self,exists_eq_left,exists_eq_left'])
  generalize hq : H1.next = q
  have hq2 : 2 ≤ q := by rw [← hq]; exact hN
  have hlt := ho.lts
  have hsp : splice [.sc (.str ⟨#[]⟩), .sc (.bool false), .sc .nils, .sc .nils, .sc .nils, .sc .nils] 0 cs = cs := splice_full hl.symm
  simp -implicitDefEqProofs (maxDischargeDepth := 12) only [WW,List.replicate,if_true,if_false,ite_true,ite_false,true_or,ne_eq,seval,beq_self_eq_true,eq_self,exists_eq_left,exists_eq_left', hones, hl, s_mkmap, hq, hsp, o_map, c_map]
  generalize hH2 : AHeap.put _ (q + 1 + 1) _ = H2
  have n2 : H2.next = q + 3 := by subst hH2; simp only [AHeap.next_put, AHeap.next_alloc, hq]
  have a0 : ∀ b, b < q → H2.cells b = H1.cells b := fun b hb => by
    subst hH2
    rw [c_put_ne (by omega), c_alloc_ne (by simp only [AHeap.next_put, AHeap.next_alloc, hq]; omega), c_alloc_ne (by simp only [AHeap.next_put, AHeap.next_alloc, hq]; omega), c_put_ne (by omega), c_alloc_ne (by omega)]
  have aq : H2.cells q = some cs := by
    subst hH2
    rw [c_put_ne (by omega), c_alloc_ne (by simp only [AHeap.next_put, AHeap.next_alloc, hq]; omega), c_alloc_ne (by simp only [AHeap.next_put, AHeap.next_alloc, hq]; omega)]
    refine h_put_self (y := [.sc (.str ⟨#[]⟩), .sc (.bool false), .sc .nils, .sc .nils, .sc .nils, .sc .nils]) ?_
    rw [h_alloc, if_pos hq.symm]
  have am : H2.map (q + 1) = some [] := by
    subst hH2
    rw [AHeap.map, g_put_ne (by omega), g_alloc_ne (by simp only [AHeap.next_put, AHeap.next_alloc, hq]; omega)]
    have e : q + 1 = ((H1.alloc (Blk.cells [AV.sc (Sc.str { data := #[] }), AV.sc (Sc.bool false), AV.sc Sc.nils, AV.sc Sc.nils, AV.sc Sc.nils, AV.sc Sc.nils])).put q (some (Blk.cells cs))).next := by simp only [AHeap.next_put, AHeap.next_alloc, hq]
    rw [e, g_alloc]
  have ab : H2.cells (q + 2) = some [.map (q + 1)] := by
    subst hH2
    refine h_put_self (y := [.sc .nilm]) ?_
    rw [h_alloc, if_pos (by simp only [AHeap.next_put, AHeap.next_alloc, hq])]
  clear hH2
  refine wA_call hp63 (visit0_ok _ _ rfl rfl ⟨_, rfl, by simp only [k_nil], ?_⟩)
  simp -implicitDefEqProofs (maxDischargeDepth := 12) only [WW,List.replicate,e_splice,if_true,if_false,ite_true,ite_false,true_or,ne_eq,seval,h_putc,beq_self_eq_true,eq_self,exists_eq_left,exists_eq_left', n2]
  refine ev_range rfl (callee110 _) ?_
  intro A B hA hB
  simp -implicitDefEqProofs (maxDischargeDepth := 12) only [WW,List.replicate,e_splice,if_true,if_false,ite_true,ite_false,true_or,ne_eq,seval,h_putc,beq_self_eq_true,eq_self,exists_eq_left,exists_eq_left', n2]
  have hTc := Tame_cl hT
  have hR : ∀ b ∈ fp, b < q := fun b hb => by have := hlt b hb; omega
  have hR2 : ∀ b ∈ fp, 2 ≤ b := hF
  generalize hLB : Blk.loop LoopState.ready none _ [11, 12] A B = LB
  refine Ev.mono (visit_own (pol := pol) s.cl hTc (q + 3 + 1) (q + 3) q fp (fun _ => s.cl) (fun r H => H.cells (q + 3) = some [.ptr q 0] ∧ (∀ b, b < q + 1 → H.cells b = H2.cells b) ∧ H.get (q + 3 + 1) = some LB ∧ H.cells (q + 2) = some [.map (q + 1)] ∧
      ∃ l, H.map (q + 1) = some (idsOf l) ∧ ∀ x, (x ∈ l ∨ x ∈ r.filterMap s.cl.evId) ↔ x ∈ (poss s.cl).filterMap s.cl.evId) (fun _ => False) ?_ ?_ ?_) ?_
  · rintro r H ⟨h1, h2, -, -, -⟩
    refine ⟨h1, ⟨cs, fp, by rw [h2 q (by omega)]; exact aq, ho.fr fun b hb => ?_, fun _ h => h⟩, SameShape.refl _⟩
    have := hR b hb
    rw [h2 b (by omega), a0 b this]
  · rintro o r H p ⟨h1, h2, hl, hb, l, hm, hx⟩ ⟨b, off, ds, id, g, rfl, hbR, hds, hl2, hs0, hs1, hI, -⟩
    subst hLB
    have hn := hg_lt hl
    have hbq := hR b hbR
    generalize hpl : o.place = pl
    have q1 : ¬ (b = H.next) := by omega
    have q2 : ¬ (H.next = q + 3 + 1) := by omega
    refine ev_round2 (t1 := ?t1) (H1 := ?H1) hl rfl hA hB ?_ ?_ ?_
    case t1 => exact ((([s.enc, .ptr 0 0, .ptr 1 0, .ptr q 0, .ptr (q + 1 + 1) 0, .sc .undef, .sc .undef, s.enc, .agg cs, .map (q + 1), .func (.func 110) [] [.ptr (q + 3) 0], .sc .undef, .sc .undef, .sc .undef, .sc .undef, .sc .undef, .sc .undef, .sc .undef, .sc .undef, .sc .undef, .sc .undef, .sc .undef, .sc .undef, .sc .undef, .sc .undef, .sc .undef].set 11 pl.enc).set 12 (AV.ptr b off)).set 5 (.ptr H.next 0)) |>.set 6 (.ptr b off)
    case H1 => exact (H.alloc (.cells [.sc (.int .i64 0), .sc (.int .i64 0), .sc (.int .i64 0), .sc (.int .i64 0), .sc (.int .i64 0), .sc (.int .i64 0), .sc (.int .i64 0)])).put H.next (some (.cells pl.enc.cells))
    · simp -implicitDefEqProofs (maxDischargeDepth := 12) only [WW,List.replicate,e_splice,if_true,if_false,ite_true,ite_false,true_or,ne_eq,seval,h_putc,beq_self_eq_true,eq_self,exists_eq_left,exists_eq_left', pl.enc_eq]
    · rw [g_put_ne (by omega), g_alloc_ne (by omega)]; exact hl
    generalize hH3 : AHeap.put (AHeap.alloc H _) _ _ = H3
    have k0 : ∀ c, c ≠ H.next → H3.get c = H.get c := fun c hc => by subst hH3; rw [g_put_ne hc, g_alloc_ne hc]
    have k1 : H3.cells H.next = some [.sc (.int .i64 pl.kind), .sc (.int .i64 pl.part), .sc (.int .i64 pl.staff), .sc (.int .i64 pl.measure), .sc (.int .i64 pl.voice), .sc (.int .i64 pl.event), .sc (.int .i64 pl.spanner)] := by
      subst hH3
      exact h_put_self (by rw [h_alloc, if_pos rfl])
    have k2 := (k0 (q + 3 + 1) (by omega)).trans hl
    have k3 : H3.cells b = some ds := (cells_of_get (k0 b (by omega))).trans hds
    have k4 : H3.cells (q + 1 + 1) = some [.map (q + 1)] := (cells_of_get (k0 (q + 2) (by omega))).trans hb
    have k5 : H3.map (q + 1) = some (idsOf l) := (map_of_get (k0 (q + 1) (by omega))).trans hm
    have k6 : ∀ c x, c ≠ q + 3 + 1 → (H3.put (q + 3 + 1) (some x)).get c = H3.get c := fun c x hc => g_put_ne hc
    clear hH3
    generalize hH4 : AHeap.put H3 _ _ = H4
    have m0 : ∀ c, c ≠ q + 3 + 1 → H4.get c = H3.get c := fun c hc => by subst hH4; exact g_put_ne hc
    have m1 : H4.get (q + 3 + 1) = some (.loop .busy none [s.enc, .ptr 0 0, .ptr 1 0, .ptr q 0, .ptr (q + 1 + 1) 0, .sc .undef, .sc .undef, s.enc, .agg cs, .map (q + 1), .func (.func 110) [] [.ptr (q + 3) 0], .sc .undef, .sc .undef, .sc .undef, .sc .undef, .sc .undef, .sc .undef, .sc .undef, .sc .undef, .sc .undef, .sc .undef, .sc .undef, .sc .undef, .sc .undef, .sc .undef, .sc .undef] [11, 12] A B) := by subst hH4; exact g_put k2
    have m2 := (cells_of_get (m0 H.next (by omega))).trans k1
    have m3 := (cells_of_get (m0 b (by omega))).trans k3
    have m4 := (cells_of_get (m0 (q + 1 + 1) (by omega))).trans k4
    have m5 := (map_of_get (m0 (q + 1) (by omega))).trans k5
    clear hH4
    have fin : ∀ (H5 : AHeap) (l' : List ID) (x : Blk), (∀ c, c ≠ q + 1 → c ≠ q + 3 + 1 → c ≠ H.next → H5.get c = H.get c) → H5.get (q + 3 + 1) = some x → H5.map (q + 1) = some (idsOf l') → (∀ x, (x ∈ l' ∨ x ∈ r.filterMap s.cl.evId) ↔ x ∈ (poss s.cl).filterMap s.cl.evId) →
      (H5.cells (q + 3) = some [.ptr q 0] ∧ (∀ b, b < q + 1 → H5.cells b = H2.cells b) ∧ H5.get (q + 3 + 1) = some x ∧ H5.cells (q + 2) = some [.map (q + 1)] ∧ ∃ l, H5.map (q + 1) = some (idsOf l) ∧ ∀ x, (x ∈ l ∨ x ∈ r.filterMap s.cl.evId) ↔ x ∈ (poss s.cl).filterMap s.cl.evId) := fun H5 l' x e1 e2 e3 e4 =>
      ⟨(cells_of_get (e1 _ (by omega) (by omega) (by omega))).trans h1, fun c hc => (cells_of_get (e1 _ (by omega) (by omega) (by omega))).trans (h2 c hc), e2, (cells_of_get (e1 _ (by omega) (by omega) (by omega))).trans hb, l', e3, e4⟩
    have hid : (ds.drop off).take 2 = [.sc (.int .i64 id.site), .sc (.int .i64 id.number)] := get_two hs0 hs1
    by_cases hk : pl.kind = 4
    · have hev : s.cl.evId o = some id := by
        cases o <;> first | exact idAt_event hI | (subst hpl; simp [Pos.place] at hk)
      rw [List.filterMap_cons, hev] at hx
      obtain ⟨l', hp1, hp2⟩ := put_ids m5 id
      simp only [id.enc_eq] at hp1
      simp -implicitDefEqProofs (maxDischargeDepth := 12) only [WW,List.replicate,if_true,if_false,ite_true,ite_false,true_or,ne_eq,seval,beq_self_eq_true,eq_self,exists_eq_left,exists_eq_left', m2, m3, m4, hk, hl2, hid, s_mpup, wA_memM, hp1]
      refine ⟨(g_put_ne (by omega)).trans m1, rfl, fin _ l' _ (fun c c1 c2 c3 => by rw [g_put_ne c2, g_put_ne c1, m0 c c2, k0 c c3]) (g_put ((g_put_ne (by omega)).trans m1)) ?_ fun x => ?_⟩
      · rw [AHeap.map, g_put_ne (by omega), g_put (get_of_map m5)]
      · rw [hp2 x, ← hx x]
        simp only [List.mem_cons, or_assoc]
    · have hev : s.cl.evId o = none := by
        cases o <;> first | rfl | (subst hpl; simp [Pos.place] at hk)
      rw [List.filterMap_cons, hev] at hx
      simp -implicitDefEqProofs (maxDischargeDepth := 12) only [WW,List.replicate,if_true,if_false,ite_true,ite_false,true_or,ne_eq,seval,beq_self_eq_true,eq_self,exists_eq_left,exists_eq_left', m2, hk]
      refine ⟨m1, rfl, fin _ l _ (fun c c1 c2 c3 => by rw [g_put_ne c2, m0 c c2, k0 c c3]) (g_put m1) ?_ hx⟩
      rw [AHeap.map, g_put_ne (by omega)]
      exact m5
  · refine ⟨?_, fun b hb => ?_, ?_, ?_, [], ?_, fun x => by simp⟩
    · rw [c_alloc_ne (by rw [AHeap.next_alloc, n2]; omega), h_alloc, if_pos n2.symm]
    · rw [c_alloc_ne (by rw [AHeap.next_alloc, n2]; omega), c_alloc_ne (by rw [n2]; omega)]
    · have e : q + 3 + 1 = (H2.alloc (.cells [.ptr q 0])).next := by rw [AHeap.next_alloc, n2]
      rw [e, g_alloc]
    · rw [c_alloc_ne (by rw [AHeap.next_alloc, n2]; omega), c_alloc_ne (by rw [n2]; omega)]; exact ab
    · rw [AHeap.map, g_alloc_ne (by rw [AHeap.next_alloc, n2]; omega), g_alloc_ne (by rw [n2]; omega)]; exact am
  · rintro o H' ⟨v, rfl, ⟨h1, h2, hl, hb, l, hm, hx⟩ | h⟩
    rotate_left
    · exact h.elim
    subst hLB
    have hn := hg_lt hl
    refine ⟨v, rfl, _, _, _, _, _, _, _, hl, by simp, rfl, ?_⟩
    generalize hH4 : AHeap.put H' _ _ = H4
    have m0 : ∀ c, c ≠ q + 3 + 1 → H4.get c = H'.get c := fun c hc => by subst hH4; exact g_put_ne hc
    have mn : H4.next = H'.next := by subst hH4; rw [AHeap.next_put]
    clear hH4
    have ho4 : OwnL (OwnX false 7) H4 cs s.cl.enc.cells fp := ho.fr fun b hb => by
      have := hR b hb
      rw [cells_of_get (m0 b (by omega)), h2 b (by omega), a0 b this]
    have hS : H4.cells q = some cs := by rw [cells_of_get (m0 q (by omega)), h2 q (by omega)]; exact aq
    have h14 := ((cells_of_get (m0 1 (by omega))).trans ((h2 1 (by omega)).trans (a0 1 (by omega)))).trans g1
    obtain ⟨v2, v3, v4, v5, f2, f3, f4, f5, rfl, c2, c3, c4, c5, s2, s3, s4, s5⟩ := own6 ho4
    obtain ⟨v, f4, e4, w1, w2, w3⟩ := ho4.fit (j := 4) (u := slm Spanner.enc s.cl.spanners) rfl
    cases e4
    simp -implicitDefEqProofs (maxDischargeDepth := 12) only [WW,List.replicate,if_true,if_false,ite_true,ite_false,true_or,ne_eq,seval,beq_self_eq_true,eq_self,exists_eq_left,exists_eq_left', hS]
    refine wA_call hp69 ((delete_own (d := 5) hp70 hp114 w1 (bq := q + 1 + 1) (m := q + 1) ((cells_of_get (m0 (q + 2) (by omega))).trans hb) (fun h => by have := hR _ (w2 _ h); omega) ((map_of_get (m0 (q + 1) (by omega))).trans hm) hTc.spanners).mono ?_)
    rintro o H5 ⟨v', rfl, f5, x1, x2, x3, x4, x5⟩
    refine ⟨_, rfl, by simp only [k_nil], ?_⟩
    obtain ⟨fp', y1, y2⟩ := w3 v' _ H5 f5 x1 (fun b hb hb2 => x3 b hb2 (by have := hR b hb; omega)) (fun b hb => .inl (x2 b hb))
    have hfp' : ∀ b ∈ fp', 2 ≤ b ∧ b < q := fun b hb => by
      rcases y2 b hb with h | ⟨h, _⟩
      · have := w2 b (x2 b h); exact ⟨hR2 b this, hR b this⟩
      · exact ⟨hR2 b h, hR b h⟩
    have z1 := (x3 q (fun h => by have := hR _ (w2 _ h); omega) (by omega)).trans hS
    have z2 := (x3 1 (fun h => by have := hR2 _ (w2 _ h); omega) (by omega)).trans h14
    have hbad : (fun x => !badSp l x) = fun x : Spanner => isEv (objs s) x.from_ && isEv (objs s) x.to := by
      have key : ∀ x, decide (x ∈ l) = isEv (objs s) x := fun x => by
        have e : x ∈ l ↔ isEv (objs s) x = true := by
          rw [isEv_iff, ← objs_cl s, ← ev_poss, ← hx x]
          simp
        cases hb : isEv (objs s) x with
        | true => simp [e.2 hb]
        | false => simp only [decide_eq_false_iff_not]; intro h; rw [e.1 h] at hb; cases hb
      funext x
      simp only [badSp, key, Bool.not_or, Bool.not_not]
    rw [hbad] at y1
    have nq : ¬ 1 = q := by omega
    simp -implicitDefEqProofs (maxDischargeDepth := 12) only [WW,List.replicate,e_splice,if_true,if_false,ite_true,ite_false,true_or,ne_eq,seval,h_putc,beq_self_eq_true,eq_self,exists_eq_left,exists_eq_left', z1, z2, nq, (own_len c2).2.1, (own_len c3).2.1, (own_len c4).2.1, (own_len c5).2.1, (own_len x1).2.1, (own_len x1).2.2]
    refine OwnX.frz (I := false) (d := 8) (fp := fp') ?_ (by decide)
    refine ⟨s.pr.enc.cells, rfl, ?_⟩
    refine (show OwnL (OwnX false 7) H5 _ s.pr.enc.cells fp' from y1).fr fun b hb => ?_
    have := hfp' b hb
    rw [c_put_ne (by omega), c_put_ne (by omega)]
end Go.Hem
/- Walks: with, and the closures of SetMeasure and SetCell. -/
set_option maxRecDepth 10000
set_option maxHeartbeats 4000000
set_option linter.unusedSimpArgs false
set_option linter.unusedVariables false
namespace Go.Hem
variable {pol : Pol}
section
variable {H : AHeap} {bS : Nat} {R : List Nat}
end
end Go.Hem
/- Walks: SetMeasure and SetCell. -/
set_option maxRecDepth 10000
set_option maxHeartbeats 4000000
set_option linter.unusedSimpArgs false
set_option linter.unusedVariables false
namespace Go.Hem
variable {pol : Pol}
def Score.none : Score := ⟨⟨#[]⟩, false, Option.none, Option.none, Option.none, Option.none⟩
def okAV (s : Score) : AV := .tup [s.enc, .sc (.int .i64 0)]
def erAV (e : Int) : AV := .tup [Score.none.enc, .sc (.int .i64 e)]
theorem plain_er (e : Int) : (erAV e).plain = true := rfl
end Go.Hem
/- Walks: score.Give. -/
set_option maxRecDepth 10000
set_option maxHeartbeats 4000000
set_option linter.unusedSimpArgs false
set_option linter.unusedVariables false
namespace Go.Hem
variable {pol : Pol}
/-- A value that is owned, and a number beside it. -/
theorem frz_tup {I : Bool} {d : Nat} {H : AHeap} {v u : AV} {fp : List Nat} {x : Sc} (h : OwnX I d H v u fp) (hd : d ≤ 19) : Frz (.tup [v, .sc x]) H (.tup [u, .sc x]) := by
  obtain ⟨H1, h1, h2, _⟩ := freezeV_own (h.mono hd)
  refine ⟨H1, ?_, ?_⟩
  · have e : ∀ k (l : List AV) H, freezeV (k + 1) (.tup l) H = (freezeL (freezeV k) l H).map fun r => (.tup r.1, r.2) := fun _ _ _ => rfl
    have e2 : ∀ k H, freezeV (k + 1) (.sc x) H = some (.sc x, H) := fun _ _ => rfl
    show freezeV (19 + 1) _ _ = _
    rw [e, freezeL, h1, Option.bind_some, freezeL, e2 18, Option.bind_some, freezeL]; rfl
  · simp only [AV.closedB, AV.closedBs, h2, Bool.and_self]
theorem ins67 : insB prog 67 = true := by decide +kernel
def Score.gv (s : Score) (st n : Int) : Score := { s.cl with last := some (giveL s.last.l st n) }
theorem giveL_some {l : List ID} {st n : Int} {i : Nat} (h : l.findIdx? (fun x => decide (x.site = st)) = some i) : giveL l st n = l.set i ⟨st, n⟩ := by
  have hs : hasS l st = true := by
    rw [List.findIdx?_eq_some_iff_getElem] at h
    obtain ⟨hi, h1, _⟩ := h
    rw [hasS, List.any_eq_true]
    exact ⟨_, List.getElem_mem hi, h1⟩
  rw [giveL, if_pos hs]
  clear hs
  induction l generalizing i with
  | nil => simp at h
  | cons y l ih =>
    rw [List.findIdx?_cons] at h
    by_cases hy : y.site = st
    · simp [hy] at h; subst h; simp [setL, hy]
    · simp [hy] at h
      obtain ⟨j, hj, rfl⟩ := h
      simp only [setL, if_neg hy, List.set_cons_succ, ih hj]
theorem giveL_none {l : List ID} {st n : Int} {j : Nat} (h : l.findIdx? (fun x => decide (x.site = st)) = none) (hj : j = (l.findIdx? (fun x => decide (st < x.site))).getD l.length) : j ≤ l.length ∧ giveL l st n = l.take j ++ [⟨st, n⟩] ++ l.drop j := by
  have hs : ¬ hasS l st = true := by
    intro hs
    rw [hasS, List.any_eq_true] at hs
    obtain ⟨x, hx, h2⟩ := hs
    rw [List.findIdx?_eq_none_iff] at h
    have := h x hx
    rw [this] at h2; cases h2
  rw [giveL, if_neg hs]
  cases hf : l.findIdx? (fun x => decide (st < x.site)) with
  | none =>
    rw [hf] at hj
    simp only [Option.getD_none] at hj
    subst hj
    rw [List.findIdx?_eq_none_iff] at hf
    refine ⟨Nat.le_refl _, insL_at (Nat.le_refl _) (fun k x _ hx => ?_) (fun x hx => ?_)⟩
    · have := hf x (List.mem_of_getElem? hx)
      simp only [decide_eq_false_iff_not] at this; omega
    · have := (List.getElem?_eq_some_iff.1 hx).1; omega
  | some i =>
    rw [hf] at hj
    simp only [Option.getD_some] at hj
    subst hj
    rw [List.findIdx?_eq_some_iff_getElem] at hf
    obtain ⟨hi, h1, h2⟩ := hf
    refine ⟨by omega, insL_at (by omega) (fun k x hk hx => ?_) (fun x hx => ?_)⟩
    · have := h2 k hk
      rw [(List.getElem?_eq_some_iff.1 hx).2] at this
      simp only [decide_eq_true_eq] at this; omega
    · rw [(List.getElem?_eq_some_iff.1 hx).2] at h1
      simp only [decide_eq_true_eq] at h1; omega
theorem give_er (s : Score) (st n : Int) (h : st < 0 ∨ 99 < st ∨ n < 1 ∨ 1073741824 < n) : Pv prog pol 25 [s.enc, .sc (.int .i64 st), .sc (.int .i64 n)] (erAV 2) := by
  refine Pv_of' ok25 (by simp only [AV.closedBs, Score.enc_closed, AV.closedB, Bool.and_self]) ?_
  by_cases h0 : st < 0
  · simp -implicitDefEqProofs (maxDischargeDepth := 12) only [wpF, cf25, WW,List.replicate,e_splice,if_true,if_false,ite_true,ite_false,true_or,ne_eq,seval,h_putc,beq_self_eq_true,eq_self,exists_eq_left,exists_eq_left', s.enc_eq, h0]
    exact frz_plain rfl (plain_er 2)
  by_cases h1 : 99 < st
  · simp -implicitDefEqProofs (maxDischargeDepth := 12) only [wpF, cf25, WW,List.replicate,e_splice,if_true,if_false,ite_true,ite_false,true_or,ne_eq,seval,h_putc,beq_self_eq_true,eq_self,exists_eq_left,exists_eq_left', s.enc_eq, h0, h1]
    exact frz_plain rfl (plain_er 2)
  by_cases h2 : n < 1
  · simp -implicitDefEqProofs (maxDischargeDepth := 12) only [wpF, cf25, WW,List.replicate,e_splice,if_true,if_false,ite_true,ite_false,true_or,ne_eq,seval,h_putc,beq_self_eq_true,eq_self,exists_eq_left,exists_eq_left', s.enc_eq, h0, h1, h2]
    exact frz_plain rfl (plain_er 2)
  have h3 : 1073741824 < n := by omega
  simp -implicitDefEqProofs (maxDischargeDepth := 12) only [wpF, cf25, WW,List.replicate,e_splice,if_true,if_false,ite_true,ite_false,true_or,ne_eq,seval,h_putc,beq_self_eq_true,eq_self,exists_eq_left,exists_eq_left', s.enc_eq, h0, h1, h2, h3]
  exact frz_plain rfl (plain_er 2)
theorem give_sq (h26 : pol.pure 26 = true) (s : Score) (hl : s.last.l.length < 1000000) (st n : Int) (h : ¬ (st < 0 ∨ 99 < st ∨ n < 1 ∨ 1073741824 < n)) (hn : n ≤ lastOf s.last.l st) : Pv prog pol 25 [s.enc, .sc (.int .i64 st), .sc (.int .i64 n)] (erAV 38) := by
  refine Pv_of' ok25 (by simp only [AV.closedBs, Score.enc_closed, AV.closedB, Bool.and_self]) ?_
  have h0 : ¬ st < 0 := by omega
  have h1 : ¬ 99 < st := by omega
  have h2 : ¬ n < 1 := by omega
  have h3 : ¬ 1073741824 < n := by omega
  simp -implicitDefEqProofs (maxDischargeDepth := 12) only [wpF, cf25, WW,List.replicate,e_splice,if_true,if_false,ite_true,ite_false,true_or,ne_eq,seval,h_putc,beq_self_eq_true,eq_self,exists_eq_left,exists_eq_left', s.enc_eq, h0, h1, h2, h3]
  rw [← s.enc_eq]
  refine wA_pure h26 (last_pv s hl st) ?_
  simp -implicitDefEqProofs (maxDischargeDepth := 12) only [WW,List.replicate,e_splice,if_true,if_false,ite_true,ite_false,true_or,ne_eq,seval,h_putc,beq_self_eq_true,eq_self,exists_eq_left,exists_eq_left', hn]
  exact frz_plain rfl (plain_er 38)
def GvPol (pol : Pol) : Prop := ClPol pol ∧ pol.pure 26 = true ∧ pol.pure 64 = false ∧ pol.pure 65 = false ∧ pol.pure 66 = false ∧ pol.pure 67 = false ∧ pol.eff = insPol
theorem give_ok (hp : GvPol pol) (s : Score) (hx : s.tame) (hl : s.last.l.length < 1000000) (st n : Int) (h : ¬ (st < 0 ∨ 99 < st ∨ n < 1 ∨ 1073741824 < n)) (hn : ¬ n ≤ lastOf s.last.l st) : Pv prog pol 25 [s.enc, .sc (.int .i64 st), .sc (.int .i64 n)] (okAV (s.gv st n)) := by
  obtain ⟨hc, h26, h64, h65, h66, h67, heff⟩ := hp
  refine Pv_of' ok25 (by simp only [AV.closedBs, Score.enc_closed, AV.closedB, Bool.and_self]) ?_
  have h0 : ¬ st < 0 := by omega
  have h1 : ¬ 99 < st := by omega
  have h2 : ¬ n < 1 := by omega
  have h3 : ¬ 1073741824 < n := by omega
  simp -implicitDefEqProofs (maxDischargeDepth := 12) only [wpF, cf25, WW,List.replicate,e_splice,if_true,if_false,ite_true,ite_false,true_or,ne_eq,seval,h_putc,beq_self_eq_true,eq_self,exists_eq_left,exists_eq_left', s.enc_eq, h0, h1, h2, h3]
  rw [← s.enc_eq]
  refine wA_pure h26 (last_pv s hl st) ?_
  simp -implicitDefEqProofs (maxDischargeDepth := 12) only [WW,List.replicate,e_splice,if_true,if_false,ite_true,ite_false,true_or,ne_eq,seval,h_putc,beq_self_eq_true,eq_self,exists_eq_left,exists_eq_left', hn, s.enc_eq]
  rw [← s.enc_eq]
  refine wA_call (hc _ (by decide)) ((sClone_ok hc s hx _).mono ?_)
  rintro o H1 ⟨cs, fp, rfl, ho, hlc, hones, hF, hN, hK⟩
  refine ⟨_, rfl, by simp only [k_nil], ?_⟩
  simp -implicitDefEqProofs (maxDischargeDepth := 12) only [WW,List.replicate,e_splice,if_true,if_false,ite_true,ite_false,true_or,ne_eq,seval,h_putc,beq_self_eq_true,eq_self,exists_eq_left,exists_eq_left'] at hF hN
  have g1 : H1.cells 1 = some [.sc (.int .i64 st)] := (hK 1 (show 1 < 3 by decide)).trans (by simp -implicitDefEqProofs (maxDischargeDepth := 12) only [WW,List.replicate,e_splice,if_true,if_false,ite_true,ite_false,true_or,ne_eq,seval,h_putc,beq_self_eq_true,eq_self,exists_eq_left,exists_eq_left'])
  have g2 : H1.cells 2 = some [.sc (.str ⟨#[]⟩), .sc (.bool false), .sc .nils, .sc .nils, .sc .nils, .sc .nils] := (hK 2 (show 2 < 3 by decide)).trans (by simp -implicitDefEqProofs (maxDischargeDepth := 12) only [WW,List.replicate,e_splice,if_true,if_false,ite_true,ite_false,true_or,ne_eq,seval,h_putc,beq_self_eq_true,eq_self,exists_eq_left,exists_eq_left'])
  generalize hq : H1.next = q
  have hq2 : 3 ≤ q := by rw [← hq]; exact hN
  have hlt := ho.lts
  have hsp : splice [.sc (.str ⟨#[]⟩), .sc (.bool false), .sc .nils, .sc .nils, .sc .nils, .sc .nils] 0 cs = cs := splice_full hlc.symm
  simp -implicitDefEqProofs (maxDischargeDepth := 12) only [WW,List.replicate,if_true,if_false,ite_true,ite_false,true_or,ne_eq,seval,beq_self_eq_true,eq_self,exists_eq_left,exists_eq_left', hones, hlc, hq, hsp]
  generalize hHA : AHeap.put _ q _ = HA
  have nA : HA.next = q + 1 := by subst hHA; simp only [AHeap.next_put, AHeap.next_alloc, hq]
  have a0 : ∀ b, b < q → HA.cells b = H1.cells b := fun b hb => by
    subst hHA
    rw [c_put_ne (by omega), c_alloc_ne (by omega)]
  have aq : HA.cells q = some cs := by
    subst hHA
    refine h_put_self (y := [.sc (.str ⟨#[]⟩), .sc (.bool false), .sc .nils, .sc .nils, .sc .nils, .sc .nils]) ?_
    rw [h_alloc, if_pos hq.symm]
  clear hHA
  have a1 := (a0 1 (by omega)).trans g1
  simp -implicitDefEqProofs (maxDischargeDepth := 12) only [WW,List.replicate,if_true,if_false,ite_true,ite_false,true_or,ne_eq,seval,beq_self_eq_true,eq_self,exists_eq_left,exists_eq_left', e_splice, a1, nA]
  generalize hH2 : AHeap.put _ (q + 1) _ = H2
  have n2 : H2.next = q + 2 := by subst hH2; simp only [AHeap.next_put, AHeap.next_alloc, nA]
  have b0 : ∀ b, b < q + 1 → H2.cells b = HA.cells b := fun b hb => by
    subst hH2
    rw [c_put_ne (by omega), c_alloc_ne (by omega)]
  have ai : H2.cells (q + 1) = some [.sc (.int .i64 st), .sc (.int .i64 n)] := by
    subst hH2
    refine (h_put_self (y := [.sc (.int .i64 0), .sc (.int .i64 0)]) ?_).trans (by simp -implicitDefEqProofs (maxDischargeDepth := 12) only [WW,List.replicate,e_splice,if_true,if_false,ite_true,ite_false,true_or,ne_eq,seval,h_putc,beq_self_eq_true,eq_self,exists_eq_left,exists_eq_left'])
    rw [h_alloc, if_pos nA.symm]
  clear hH2
  replace aq := (b0 q (by omega)).trans aq
  replace a0 : ∀ b, b < q → H2.cells b = H1.cells b := fun b hb => (b0 b (by omega)).trans (a0 b hb)
  clear b0 a1
  have hR : ∀ b ∈ fp, 3 ≤ b ∧ b < q := fun b hb => ⟨hF b hb, by have := hlt b hb; omega⟩
  have ho2 : OwnL (OwnX false 7) H2 cs s.cl.enc.cells fp := ho.fr fun b hb => a0 b (hR b hb).2
  have x1 : H2.cells 1 = some [.sc (.int .i64 st)] := (a0 1 (by omega)).trans g1
  have x2 : H2.cells 2 = some [.sc (.str ⟨#[]⟩), .sc (.bool false), .sc .nils, .sc .nils, .sc .nils, .sc .nils] := (a0 2 (by omega)).trans g2
  obtain ⟨v2, v3, v4, v5, f2, f3, f4, f5, rfl, c2, c3, c4, c5, s2, s3, s4, s5⟩ := own6 ho2
  obtain ⟨v, f5, e5, w1, w2, w3⟩ := ho2.fit (j := 5) (u := slm ID.enc s.cl.last) rfl
  cases e5
  have hsl : s.cl.last = s.last := rfl
  rw [hsl] at w1
  have n0 : ¬ 2 = q := by omega
  have n0' : ¬ q = 2 := by omega
  have n1 : ¬ 2 = q + 1 := by omega
  simp -implicitDefEqProofs (maxDischargeDepth := 12) only [WW,List.replicate,e_splice,if_true,if_false,ite_true,ite_false,true_or,ne_eq,seval,h_putc,beq_self_eq_true,eq_self,exists_eq_left,exists_eq_left', aq]
  -- the end: what is returned
  have hend : ∀ (H' : AHeap) (v' : AV) (f' : List Nat), OwnX false 7 H' v' (slm ID.enc (some (giveL s.last.l st n))) f' → (∀ b, 3 ≤ b → b < q → b ∉ f5 → H'.cells b = H2.cells b) → (∀ b ∈ f', b ∈ f5 ∨ q ≤ b) →
      Frz (.tup [.agg [.sc (.str s.cl.title), .sc (.bool s.cl.written), v2, v3, v4, v'], .sc (.int .i64 0)]) H' (okAV (s.gv st n)) := by
    intro H' v' f' h1 h2 h3
    obtain ⟨fq, r1, r2⟩ := w3 v' (slm ID.enc (some (giveL s.last.l st n))) H' f' h1 (fun b hb hb2 => h2 b (hR b hb).1 (hR b hb).2 hb2) (fun b hb => (h3 b hb).imp id fun h4 h5 => by have := (hR b h5).2; omega)
    refine frz_tup (I := false) (d := 8) (fp := fq) (u := (s.gv st n).enc) ?_ (by decide)
    exact ⟨(s.gv st n).enc.cells, rfl, r1⟩
  refine wA_call h64 ((index_ids (d := 5) (fun x => decide (x.site = st)) h65 (fun H x h => site_ok h x) (fun x => rfl) w1 x1 hl).mono ?_)
  rintro o H3 ⟨rfl, hK3, hN3⟩
  refine ⟨_, rfl, by simp only [k_nil], ?_⟩
  rw [n2] at hK3 hN3
  have y1 := hK3.cells x1 (by omega)
  have y2 := hK3.cells x2 (by omega)
  have yq := hK3.cells aq (by omega)
  have yi := hK3.cells ai (by omega)
  cases hfi : s.last.l.findIdx? (fun x => decide (x.site = st)) with
  | some i =>
    have hi : i < s.last.l.length := by
      rw [List.findIdx?_eq_some_iff_getElem] at hfi
      exact hfi.1
    obtain ⟨y, hy⟩ : ∃ y, s.last.l[i]? = some y := ⟨_, List.getElem?_eq_getElem hi⟩
    obtain ⟨b, off, cap, ds, fp2, rfl, k1, k2, k3, k4, k5, k6, k7⟩ := own_elem_fit row_ID (by decide) w1 hy
    have hb5 := hR b (w2 b k3)
    have kb := hK3.cells k1 (by omega)
    have i1 : (0 : Int) ≤ (i : Int) := by omega
    have nq : ¬ q = b := by omega
    have nb2 : ¬ 2 = b := by omega
    have hnid : AV.cells (.agg [.sc (.int .i64 st), .sc (.int .i64 n)]) = (ID.enc ⟨st, n⟩).cells := rfl
    simp -implicitDefEqProofs (maxDischargeDepth := 12) only [WW,List.replicate,if_true,if_false,ite_true,ite_false,true_or,ne_eq,seval,beq_self_eq_true,eq_self,exists_eq_left,exists_eq_left', idxAV, yq, yi, i1, hi, k2, kb]
    generalize hH4 : AHeap.put _ b _ = H4
    have z0 : ∀ c, c ≠ b → H4.cells c = H3.cells c := fun c hc => by subst hH4; rw [c_put_ne hc]
    have zb : H4.cells b = some (splice ds (off + i * 2) (ID.enc ⟨st, n⟩).cells) := by subst hH4; exact h_put_self kb
    clear hH4
    have zq := (z0 q nq).trans yq
    have z2 := (z0 2 nb2).trans y2
    simp -implicitDefEqProofs (maxDischargeDepth := 12) only [WW,List.replicate,e_splice,if_true,if_false,ite_true,ite_false,true_or,ne_eq,seval,h_putc,beq_self_eq_true,eq_self,exists_eq_left,exists_eq_left', zq, z2, n0, n0', (own_len c2).2.1, (own_len c3).2.1, (own_len c4).2.1, (own_len w1).2.1, (own_len w1).2.2]
    have hH : ∀ (x : Option Blk) c, c ≠ 2 → (H4.put 2 x).cells c = H4.cells c := fun x c hc => c_put_ne hc
    have hw : ∀ x, ∃ f', OwnX false 7 (H4.put 2 x) (.slice b off s.last.l.length cap 2) (slm ID.enc (some (s.last.l.set i ⟨st, n⟩))) f' ∧ ∀ c ∈ f', c ∈ f5 := fun x => by
      obtain ⟨f', r1, r2⟩ := k7 ⟨st, n⟩ (H4.put 2 x) [b] ⟨(ID.enc ⟨st, n⟩).cells, [], by rw [hH x b (fun e => nb2 e.symm)]; exact zb, rfl, OwnL.scal rfl, by simp, rfl⟩ (fun c hc hc2 => by
        have := hR c (w2 c hc)
        rw [hH x c (by omega), z0 c (fun e => hc2 (by simp [e])), hK3 c (by omega)]) (fun c hc => by simp only [List.mem_singleton] at hc; subst hc; exact .inl (by simp))
      refine ⟨f', r1, fun c hc => ?_⟩
      rcases r2 c hc with h | h
      · simp only [List.mem_singleton] at h; subst h; exact k3
      · exact h.1
    obtain ⟨f', r1, r2⟩ := hw _
    rw [← giveL_some hfi] at r1
    exact hend _ _ f' r1 (fun c h3 hc hc2 => by
      have hcb : c ≠ b := fun e => hc2 (e ▸ k3)
      rw [hH _ c (by omega), z0 c hcb, hK3 c (by omega)]) (fun c hc => .inl (r2 c hc))
  | none =>
    simp -implicitDefEqProofs (maxDischargeDepth := 12) only [WW,List.replicate,e_splice,if_true,if_false,ite_true,ite_false,true_or,ne_eq,seval,h_putc,beq_self_eq_true,eq_self,exists_eq_left,exists_eq_left', idxAV, yq]
    have w1' : OwnX false 7 H3 v5 (slm ID.enc s.last) f5 := w1.frame fun c hc => hK3 c (by have := hR c (w2 c hc); omega)
    refine wA_call h64 ((index_ids (d := 5) (fun x => decide (st < x.site)) h66 (fun H x h => above_ok h x) (fun x => rfl) w1' y1 hl).mono ?_)
    rintro o H4 ⟨rfl, hK4, hN4⟩
    refine ⟨_, rfl, by simp only [k_nil], ?_⟩
    have z2 := hK4.cells y2 (by omega)
    have zq := hK4.cells yq (by omega)
    have zi := hK4.cells yi (by omega)
    have w4 : OwnX false 7 H4 v5 (slm ID.enc s.last) f5 := w1'.frame fun c hc => hK4 c (by have := hR c (w2 c hc); omega)
    obtain ⟨j, hj⟩ : ∃ j, j = (s.last.l.findIdx? (fun x => decide (st < x.site))).getD s.last.l.length := ⟨_, rfl⟩
    obtain ⟨hjl, hjg⟩ := giveL_none hfi hj
    have hf5 : ∀ c ∈ f5, c < H4.next := fun c hc => by have := hR c (w2 c hc); omega
    cases hfi2 : s.last.l.findIdx? (fun x => decide (st < x.site)) with
    | some k =>
      rw [hfi2] at hj
      simp only [Option.getD_some] at hj
      subst hj
      have i1 : ¬ (j : Int) < 0 := by omega
      simp -implicitDefEqProofs (maxDischargeDepth := 12) only [WW,List.replicate,e_splice,if_true,if_false,ite_true,ite_false,true_or,ne_eq,seval,h_putc,beq_self_eq_true,eq_self,exists_eq_left,exists_eq_left', idxAV, zq, zi, i1]
      obtain ⟨v', H6, f6, t1, t2, t3, t4, t5⟩ := ins_own (d := 6) (by' := 16) (i := j) (bv := H4.next) (m := 1) (cp := 1) (nv := 2) (H := H4.alloc (.cells [.sc (.int .i64 st), .sc (.int .i64 n)])) (el := [⟨st, n⟩]) (ys := (ID.enc ⟨st, n⟩).cells) (fx := []) row_ID (by decide) (w4.frame fun c hc => c_alloc_ne (by have := hf5 c hc; omega))
        (fun b off len cap n' e => by subst e; exact own_two w4) hjl (by rw [h_alloc, if_pos rfl]) rfl (by simp) rfl (by exact OwnL.scal rfl) Apart.nil_right (fun h => by have := hf5 _ h; omega) (by omega) (by omega)
      have he : pol.eff 67 [v5, .sc (.int .i64 j), .slice H4.next 0 1 1 2] (H4.alloc (.cells [.sc (.int .i64 st), .sc (.int .i64 n)])) = some (v', H6) := by rw [heff]; exact t1
      refine wA_call h67 (ev_eff ins67 he ⟨_, rfl, by simp only [k_nil], ?_⟩)
      simp only [AHeap.next_alloc] at t3 t4 t5
      have u : ∀ c, c < H4.next → c ∉ f5 → H6.cells c = H4.cells c := fun c hc hc2 => by rw [t4 c hc2 (by omega), c_alloc_ne (by omega)]
      have u2 := (u 2 (by omega) (fun h => by have := hR _ (w2 _ h); omega)).trans z2
      have uq := (u q (by omega) (fun h => by have := hR _ (w2 _ h); omega)).trans zq
      have hS : s.last.ins j [⟨st, n⟩] = some (giveL s.last.l st n) := by rw [hjg]; rfl
      rw [hS] at t2
      simp -implicitDefEqProofs (maxDischargeDepth := 12) only [WW,List.replicate,e_splice,if_true,if_false,ite_true,ite_false,true_or,ne_eq,seval,h_putc,beq_self_eq_true,eq_self,exists_eq_left,exists_eq_left', u2, uq, n0, n0', (own_len c2).2.1, (own_len c3).2.1, (own_len c4).2.1, (own_len t2).2.1, (own_len t2).2.2]
      refine hend _ v' f6 (t2.frame fun c hc => ?_) (fun c h3 hc hc2 => ?_) (fun c hc => ?_)
      · have h7 : c ≠ q ∧ c ≠ 2 := by
          rcases t3 c hc with h | h | h
          · have := hR c (w2 c h); omega
          · simp at h
          · omega
        rw [c_put_ne h7.2, c_put_ne h7.1]
      · rw [c_put_ne (by omega), c_put_ne (by omega), u c (by omega) hc2, hK4 c (by omega), hK3 c (by omega)]
      · rcases t3 c hc with h | h | h
        · exact .inl h
        · simp at h
        · exact .inr (by omega)
    | none =>
      rw [hfi2] at hj
      simp only [Option.getD_none] at hj
      simp -implicitDefEqProofs (maxDischargeDepth := 12) only [WW,List.replicate,e_splice,if_true,if_false,ite_true,ite_false,true_or,ne_eq,seval,h_putc,beq_self_eq_true,eq_self,exists_eq_left,exists_eq_left', idxAV, zq, zi, (own_len w4).1]
      rw [← hj]
      obtain ⟨v', H6, f6, t1, t2, t3, t4, t5⟩ := ins_own (d := 6) (by' := 16) (i := j) (bv := H4.next) (m := 1) (cp := 1) (nv := 2) (H := H4.alloc (.cells [.sc (.int .i64 st), .sc (.int .i64 n)])) (el := [⟨st, n⟩]) (ys := (ID.enc ⟨st, n⟩).cells) (fx := []) row_ID (by decide) (w4.frame fun c hc => c_alloc_ne (by have := hf5 c hc; omega))
        (fun b off len cap n' e => by subst e; exact own_two w4) hjl (by rw [h_alloc, if_pos rfl]) rfl (by simp) rfl (by exact OwnL.scal rfl) Apart.nil_right (fun h => by have := hf5 _ h; omega) (by omega) (by omega)
      have he : pol.eff 67 [v5, .sc (.int .i64 j), .slice H4.next 0 1 1 2] (H4.alloc (.cells [.sc (.int .i64 st), .sc (.int .i64 n)])) = some (v', H6) := by rw [heff]; exact t1
      refine wA_call h67 (ev_eff ins67 he ⟨_, rfl, by simp only [k_nil], ?_⟩)
      simp only [AHeap.next_alloc] at t3 t4 t5
      have u : ∀ c, c < H4.next → c ∉ f5 → H6.cells c = H4.cells c := fun c hc hc2 => by rw [t4 c hc2 (by omega), c_alloc_ne (by omega)]
      have u2 := (u 2 (by omega) (fun h => by have := hR _ (w2 _ h); omega)).trans z2
      have uq := (u q (by omega) (fun h => by have := hR _ (w2 _ h); omega)).trans zq
      have hS : s.last.ins j [⟨st, n⟩] = some (giveL s.last.l st n) := by rw [hjg]; rfl
      rw [hS] at t2
      simp -implicitDefEqProofs (maxDischargeDepth := 12) only [WW,List.replicate,e_splice,if_true,if_false,ite_true,ite_false,true_or,ne_eq,seval,h_putc,beq_self_eq_true,eq_self,exists_eq_left,exists_eq_left', u2, uq, n0, n0', (own_len c2).2.1, (own_len c3).2.1, (own_len c4).2.1, (own_len t2).2.1, (own_len t2).2.2]
      refine hend _ v' f6 (t2.frame fun c hc => ?_) (fun c h3 hc hc2 => ?_) (fun c hc => ?_)
      · have h7 : c ≠ q ∧ c ≠ 2 := by
          rcases t3 c hc with h | h | h
          · have := hR c (w2 c h); omega
          · simp at h
          · omega
        rw [c_put_ne h7.2, c_put_ne h7.1]
      · rw [c_put_ne (by omega), c_put_ne (by omega), u c (by omega) hc2, hK4 c (by omega), hK3 c (by omega)]
      · rcases t3 c hc with h | h | h
        · exact .inl h
        · simp at h
        · exact .inr (by omega)
end Go.Hem
/- Walks: score.Find. -/
set_option maxRecDepth 10000
set_option maxHeartbeats 4000000
set_option linter.unusedSimpArgs false
set_option linter.unusedVariables false
namespace Go.Hem
variable {pol : Pol}
end Go.Hem
/- The law ScoreObjects, by the interpreter. -/
set_option maxRecDepth 10000
set_option maxHeartbeats 4000000
set_option linter.unusedSimpArgs false
set_option linter.unusedVariables false
namespace Go.Hem
/-- What is short is tame. -/
theorem tame_short (s : Score) : Tame s.short := by
  have e1 : s.short.parts.l = (s.parts.l.take 4).map Part.short := l_of
  have e2 : s.short.measures.l = (s.measures.l.take 5).map Measure.short := l_of
  have len_map : ∀ {α : Type} {x : Sl α} {n : Nat}, Sl.l (x.map (·.take n)) = x.l.take n := by intro α x n; cases x <;> simp [Sl.l]
  have e3 : s.short.spanners.l = s.spanners.l.take 6 := len_map
  have mm : ∀ (m : Nat) y, s.short.measures.l[m]? = some y → ∃ x : Measure, y = x.short := by
    intro m y h
    rw [e2, List.getElem?_map] at h
    cases hx : (s.measures.l.take 5)[m]? with
    | none => rw [hx] at h; cases h
    | some x => rw [hx] at h; cases h; exact ⟨x, rfl⟩
  have cc : ∀ (x : Measure) (c : Nat) q, x.short.cells.l[c]? = some q → ∃ y : Cell, q = y.short := by
    intro x c q h
    rw [show x.short.cells.l = (x.cells.l.take 6).map Cell.short from l_of, List.getElem?_map] at h
    cases hx : (x.cells.l.take 6)[c]? with
    | none => rw [hx] at h; cases h
    | some x => rw [hx] at h; cases h; exact ⟨x, rfl⟩
  have vv : ∀ (x : Cell) (c : Nat) q, x.short.voices.l[c]? = some q → ∃ y : Voice, q = y.short := by
    intro x c q h
    rw [show x.short.voices.l = (x.voices.l.take 3).map Voice.short from l_of, List.getElem?_map] at h
    cases hx : (x.voices.l.take 3)[c]? with
    | none => rw [hx] at h; cases h
    | some x => rw [hx] at h; cases h; exact ⟨x, rfl⟩
  have b1 : ∀ x : Measure, x.short.cells.l.length ≤ 6 := fun x => by rw [show x.short.cells.l = (x.cells.l.take 6).map Cell.short from l_of]; simp; omega
  have b2 : ∀ x : Cell, x.short.voices.l.length ≤ 3 := fun x => by rw [show x.short.voices.l = (x.voices.l.take 3).map Voice.short from l_of]; simp; omega
  have b3 : ∀ x : Voice, x.short.events.l.length ≤ 5 := fun x => by rw [show x.short.events.l = (x.events.l.take 5).map Event.short from l_of]; simp; omega
  have b4 : ∀ x : Part, x.short.staves.l.length ≤ 3 := fun x => by rw [show x.short.staves.l = x.staves.l.take 3 from len_map]; simp; omega
  have l1 : ∀ (l : List Staff) st, (objStaves st l).length = l.length := by intro l; induction l with
    | nil => intro _; rfl
    | cons x l ih => intro st; simp [objStaves, ih]
  have l2 : ∀ (l : List Part) i st, (objParts i st (l.map Part.short)).length ≤ 4 * l.length := by intro l; induction l with
    | nil => intro _ _; simp [objParts]
    | cons x l ih => intro i st; have := ih (i + 1) (st + x.short.staves.l.length); have := b4 x; simp [objParts, l1]; omega
  have l3 : ∀ (l : List Event) m c v e, (objEvents m c v e l).length = l.length := by intro l; induction l with
    | nil => intro _ _ _ _; rfl
    | cons x l ih => intro m c v e; simp [objEvents, ih]
  have l4 : ∀ (l : List Voice) m c v, (objVoices m c v (l.map Voice.short)).length ≤ 5 * l.length := by intro l; induction l with
    | nil => intro _ _ _; simp [objVoices]
    | cons x l ih => intro m c v; have := ih m c (v + 1); have := b3 x; simp [objVoices, l3]; omega
  have l5 : ∀ (l : List Cell) m c, (objCells m c (l.map Cell.short)).length ≤ 15 * l.length := by intro l; induction l with
    | nil => intro _ _; simp [objCells]
    | cons x l ih =>
      intro m c; have h1 := ih m (c + 1); have h2 := l4 (x.voices.l.take 3) m c 0
      rw [← show x.short.voices.l = (x.voices.l.take 3).map Voice.short from l_of] at h2
      simp only [List.length_take] at h2
      simp only [List.map_cons, objCells, List.length_append, List.length_cons]; omega
  have l6 : ∀ (l : List Measure) m, (objMeasures m (l.map Measure.short)).length ≤ 91 * l.length := by intro l; induction l with
    | nil => intro _; simp [objMeasures]
    | cons x l ih =>
      intro m; have h1 := ih (m + 1); have h2 := l5 (x.cells.l.take 6) m 0
      rw [← show x.short.cells.l = (x.cells.l.take 6).map Cell.short from l_of] at h2
      simp only [List.length_take] at h2
      simp only [List.map_cons, objMeasures, List.length_append, List.length_cons]; omega
  have l7 : ∀ (l : List Spanner) i, (objSpanners i l).length = l.length := by intro l; induction l with
    | nil => intro _; rfl
    | cons x l ih => intro i; simp [objSpanners, ih]
  have b5 : stavesOf s.short.parts.l ≤ 12 := by
    have : ∀ l : List Part, stavesOf (l.map Part.short) ≤ 3 * l.length := by
      intro l; induction l with
      | nil => simp [stavesOf]
      | cons p l ih =>
        have e : stavesOf ((p :: l).map Part.short) = p.short.staves.l.length + stavesOf (l.map Part.short) := by simp [stavesOf]
        have := b4 p; simp only [List.length_cons]; omega
    rw [e1]; have := this (s.parts.l.take 4); simp only [List.length_take] at this; omega
  refine ⟨?_, by omega, by rw [e1]; simp; omega, by rw [e2]; simp; omega, by rw [e3]; simp; omega, ?_, ?_, ?_⟩
  · unfold objs
    have h2 := l2 (s.parts.l.take 4) 0 0
    have h6 := l6 (s.measures.l.take 5) 0
    rw [← e1] at h2
    rw [← e2] at h6
    simp only [List.length_take] at h2 h6
    simp only [List.length_append, l7, e3, List.length_take]; omega
  · intro m y h; obtain ⟨x, rfl⟩ := mm m y h; have := b1 x; omega
  · intro m y c q h h'; obtain ⟨x, rfl⟩ := mm m y h; obtain ⟨z, rfl⟩ := cc _ _ _ h'; have := b2 z; omega
  · intro m y c q v z h h' h''; obtain ⟨x, rfl⟩ := mm m y h; obtain ⟨u, rfl⟩ := cc _ _ _ h'; obtain ⟨w, rfl⟩ := vv _ _ _ h''; have := b3 w; omega
end Go.Hem
/- What is small is tame; what is equal up to the kind of an empty list. -/
set_option linter.unusedSimpArgs false
set_option linter.unusedVariables false
namespace Go.Hem
def Voice.small (v : Voice) : Prop := v.events.l.length ≤ 5 ∧ v.tuplets.l.length ≤ 10 ∧ ∀ e ∈ v.events.l, e.tame
def Cell.small (c : Cell) : Prop := c.clefs.l.length ≤ 10 ∧ c.voices.l.length ≤ 3 ∧ ∀ v ∈ c.voices.l, v.small
def Measure.small (m : Measure) : Prop := m.tempi.l.length ≤ 10 ∧ m.cells.l.length ≤ 50 ∧ ∀ c ∈ m.cells.l, c.small
structure Score.small (s : Score) : Prop where
  parts : s.parts.l.length ≤ 40
  staves : ∀ p ∈ s.parts.l, p.staves.l.length ≤ 10
  measures : s.measures.l.length ≤ 20
  meas : ∀ m ∈ s.measures.l, m.small
  spanners : s.spanners.l.length ≤ 10
  last : s.last.l.length ≤ 10
theorem Voice.small.tame {v : Voice} (h : v.small) : v.tame := ⟨by have := h.1; omega, by have := h.2.1; omega, h.2.2⟩
theorem Cell.small.tame {v : Cell} (h : v.small) : v.tame := ⟨by have := h.1; omega, by have := h.2.1; omega, fun v hv => (h.2.2 v hv).tame⟩
theorem Measure.small.tame {v : Measure} (h : v.small) : v.tame := ⟨by have := h.1; omega, by have := h.2.1; omega, fun v hv => (h.2.2 v hv).tame⟩
theorem Score.small.tame {s : Score} (h : s.small) : s.tame := by
  obtain ⟨h1, h2, h3, h4, h5, h6⟩ := h
  exact ⟨by omega, fun p hp => by have := h2 p hp; unfold Part.tame; omega, by omega, fun m hm => (h4 m hm).tame, by omega, by omega⟩
theorem len_staves : ∀ (l : List Staff) st, (objStaves st l).length = l.length
  | [], _ => rfl
  | x :: l, st => by simp [objStaves, len_staves l]
theorem len_parts : ∀ (l : List Part) i st, (∀ p ∈ l, p.staves.l.length ≤ 10) → (objParts i st l).length ≤ 11 * l.length
  | [], _, _, _ => by simp [objParts]
  | x :: l, i, st, h => by
    have := len_parts l (i + 1) (st + x.staves.l.length) fun p hp => h p (by simp [hp])
    have := h x (by simp)
    simp only [objParts, List.length_cons, List.length_append, len_staves]; omega
theorem len_events : ∀ (l : List Event) m c v e, (objEvents m c v e l).length = l.length
  | [], _, _, _, _ => rfl
  | x :: l, m, c, v, e => by simp [objEvents, len_events l]
theorem len_voices : ∀ (l : List Voice) m c v, (∀ p ∈ l, p.small) → (objVoices m c v l).length ≤ 5 * l.length
  | [], _, _, _, _ => by simp [objVoices]
  | x :: l, m, c, v, h => by
    have := len_voices l m c (v + 1) fun p hp => h p (by simp [hp])
    have := (h x (by simp)).1
    simp only [objVoices, List.length_append, List.length_cons, len_events]; omega
theorem len_cells : ∀ (l : List Cell) m c, (∀ p ∈ l, p.small) → (objCells m c l).length ≤ 15 * l.length
  | [], _, _, _ => by simp [objCells]
  | x :: l, m, c, h => by
    have := len_cells l m (c + 1) fun p hp => h p (by simp [hp])
    obtain ⟨_, h1, h2⟩ := h x (by simp)
    have := len_voices x.voices.l m c 0 h2
    simp only [objCells, List.length_append, List.length_cons]; omega
theorem len_measures : ∀ (l : List Measure) m, (∀ p ∈ l, p.small) → (objMeasures m l).length ≤ 751 * l.length
  | [], _, _ => by simp [objMeasures]
  | x :: l, m, h => by
    have := len_measures l (m + 1) fun p hp => h p (by simp [hp])
    obtain ⟨_, h1, h2⟩ := h x (by simp)
    have := len_cells x.cells.l m 0 h2
    simp only [objMeasures, List.length_append, List.length_cons]; omega
theorem len_spanners : ∀ (l : List Spanner) i, (objSpanners i l).length = l.length
  | [], _ => rfl
  | x :: l, i => by simp [objSpanners, len_spanners l]
theorem staves_le : ∀ l : List Part, (∀ p ∈ l, p.staves.l.length ≤ 10) → stavesOf l ≤ 10 * l.length
  | [], _ => by simp [stavesOf]
  | p :: l, h => by
    have := staves_le l fun q hq => h q (by simp [hq])
    have := h p (by simp)
    have e : stavesOf (p :: l) = p.staves.l.length + stavesOf l := by simp [stavesOf]
    simp only [List.length_cons]; omega
theorem Score.small.Tame {s : Score} (h : s.small) : Tame s := by
  obtain ⟨h1, h2, h3, h4, h5, h6⟩ := h
  refine ⟨?_, by have := staves_le _ h2; omega, by omega, by omega, by omega, fun m y hy => ?_, fun m y c q hy hq => ?_, fun m y c q v z hy hq hz => ?_⟩
  · have := len_parts _ 0 0 h2
    have := len_measures _ 0 h4
    have := len_spanners s.spanners.l 0
    simp only [objs, List.length_append]; omega
  · have := (h4 y (List.mem_of_getElem? hy)).2.1; omega
  · have := ((h4 y (List.mem_of_getElem? hy)).2.2 q (List.mem_of_getElem? hq)).2.1; omega
  · have := (((h4 y (List.mem_of_getElem? hy)).2.2 q (List.mem_of_getElem? hq)).2.2 z (List.mem_of_getElem? hz)).1; omega
theorem Voice.small_short (v : Voice) : v.short.small := by
  have e : v.short.events.l = (v.events.l.take 5).map Event.short := l_of
  have e2 : v.short.tuplets.l = v.tuplets.l.take 3 := sl_take_len
  refine ⟨by rw [e]; simp; omega, by rw [e2]; simp; omega, fun x hx => ?_⟩
  rw [e] at hx
  obtain ⟨w, _, rfl⟩ := List.mem_map.1 hx
  exact w.tame_short
theorem Cell.small_short (v : Cell) : v.short.small := by
  have e : v.short.voices.l = (v.voices.l.take 3).map Voice.short := l_of
  have e2 : v.short.clefs.l = v.clefs.l.take 3 := sl_take_len
  refine ⟨by rw [e2]; simp; omega, by rw [e]; simp; omega, fun x hx => ?_⟩
  rw [e] at hx
  obtain ⟨w, _, rfl⟩ := List.mem_map.1 hx
  exact w.small_short
theorem Measure.small_short (v : Measure) : v.short.small := by
  have e : v.short.cells.l = (v.cells.l.take 6).map Cell.short := l_of
  have e2 : v.short.tempi.l = v.tempi.l.take 3 := sl_take_len
  refine ⟨by rw [e2]; simp; omega, by rw [e]; simp; omega, fun x hx => ?_⟩
  rw [e] at hx
  obtain ⟨w, _, rfl⟩ := List.mem_map.1 hx
  exact w.small_short
theorem Score.small_short (s : Score) : s.short.small := by
  have e1 : s.short.parts.l = (s.parts.l.take 4).map Part.short := l_of
  have e2 : s.short.measures.l = (s.measures.l.take 5).map Measure.short := l_of
  have e3 : s.short.spanners.l = s.spanners.l.take 6 := sl_take_len
  have e4 : s.short.last.l = s.last.l.take 4 := sl_take_len
  refine ⟨by rw [e1]; simp; omega, fun p hp => ?_, by rw [e2]; simp; omega, fun m hm => ?_, by rw [e3, List.length_take]; omega, by rw [e4, List.length_take]; omega⟩
  · rw [e1] at hp
    obtain ⟨w, _, rfl⟩ := List.mem_map.1 hp
    have : w.short.staves.l = w.staves.l.take 3 := sl_take_len
    rw [this, List.length_take]; omega
  · rw [e2] at hm
    obtain ⟨w, _, rfl⟩ := List.mem_map.1 hm
    exact w.small_short
theorem Voice.small_cl {v : Voice} (h : v.small) : v.cl.small := by
  obtain ⟨h1, h2, h3⟩ := h
  have e1 : v.cl.events.l = v.events.l := l_of
  have e2 : v.cl.tuplets.l = v.tuplets.l := l_of
  exact ⟨by rw [e1]; exact h1, by rw [e2]; exact h2, by rw [e1]; exact h3⟩
theorem Cell.small_cl {v : Cell} (h : v.small) : v.cl.small := by
  obtain ⟨h1, h2, h3⟩ := h
  have e1 : v.cl.voices.l = v.voices.l.map Voice.cl := l_of
  refine ⟨h1, by rw [e1, List.length_map]; exact h2, fun x hx => ?_⟩
  rw [e1] at hx
  obtain ⟨w, hw, rfl⟩ := List.mem_map.1 hx
  exact Voice.small_cl (h3 w hw)
theorem Measure.small_cl {v : Measure} (h : v.small) : v.cl.small := by
  obtain ⟨h1, h2, h3⟩ := h
  have e1 : v.cl.cells.l = v.cells.l.map Cell.cl := l_of
  refine ⟨h1, by rw [e1, List.length_map]; exact h2, fun x hx => ?_⟩
  rw [e1] at hx
  obtain ⟨w, hw, rfl⟩ := List.mem_map.1 hx
  exact Cell.small_cl (h3 w hw)
theorem Score.small_cl {v : Score} (h : v.small) : v.cl.small := by
  obtain ⟨h1, h2, h3, h4, h5, h6⟩ := h
  have e1 : v.cl.measures.l = v.measures.l.map Measure.cl := rfl
  refine ⟨h1, h2, by rw [e1, List.length_map]; exact h3, fun x hx => ?_, h5, h6⟩
  rw [e1] at hx
  obtain ⟨w, hw, rfl⟩ := List.mem_map.1 hx
  exact Measure.small_cl (h4 w hw)
theorem Score.small_pr {v : Score} (h : v.small) : v.pr.small := by
  obtain ⟨h1, h2, h3, h4, h5, h6⟩ := Score.small_cl h
  refine ⟨h1, h2, h3, h4, ?_, h6⟩
  have e1 : v.pr.spanners.l = v.spanners.l.filter fun x => isEv (objs v) x.from_ && isEv (objs v) x.to := by
    show Sl.l (v.spanners.map _) = _
    cases v.spanners <;> rfl
  rw [e1]
  exact Nat.le_trans (List.length_filter_le _ _) h5
theorem Score.small_none : Score.none.small := by
  refine ⟨by decide, fun p hp => ?_, by decide, fun p hp => ?_, by decide, by decide⟩
  · simp [Score.none, Sl.l] at hp
  · simp [Score.none, Sl.l] at hp

end Go.Hem
/- The law ScoreSets, by the interpreter. -/
set_option maxRecDepth 10000
set_option maxHeartbeats 4000000
set_option linter.unusedSimpArgs false
set_option linter.unusedVariables false
namespace Go.Hem
variable {pol : Pol}
theorem zero_pv (h28 : pol.pure 28 = true) (hp : pol.pure 99 = true) (hp2 : pol.pure 50 = true) (hp3 : pol.pure 113 = true) (hp4 : pol.pure 68 = true) (a : Score) (ha : a.tame) : Pv prog pol 31 [a.enc] (.sc (.bool (decide (a.cn = Score.none.cn)))) := by
  refine Pv_of' ok31 (by simp only [AV.closedBs, Score.enc_closed, Bool.and_self]) ?_
  simp -implicitDefEqProofs (maxDischargeDepth := 12) only [wpF, cf31, WW,List.replicate,e_splice,if_true,if_false,ite_true,ite_false,true_or,ne_eq,seval,h_putc,beq_self_eq_true,eq_self,exists_eq_left,exists_eq_left', a.enc_eq]
  rw [← a.enc_eq]
  refine wA_pure h28 (same_pv hp hp2 hp3 hp4 a Score.none ha) ?_
  simp -implicitDefEqProofs (maxDischargeDepth := 12) only [WW,List.replicate,e_splice,if_true,if_false,ite_true,ite_false,true_or,ne_eq,seval,h_putc,beq_self_eq_true,eq_self,exists_eq_left,exists_eq_left']
  exact frz_sc
def pures9 : List Nat := [29, 30, 32, 42, 43, 44, 45, 52] ++ pures8
def polP : Pol := { pure := fun f => pures9.contains f, eff := insPol }
theorem polP_pr : PrPol polP := by unfold PrPol ClPol; decide
theorem known_run9 : okTrue (xPure (X prog polP memo0 1000) 19 []) = true := by decide +kernel
theorem known9_pv : Pv prog polP 19 [] (.sc (.bool true)) := pv_of_x memo0_ok rfl (okTrue_spec known_run9)
def Cell.none : Cell := ⟨Option.none, Option.none⟩
def Measure.first (m : Measure) : Cell := (m.cells.l[0]?).getD Cell.none
end Go.Hem
/- The law ScoreGives, by the interpreter. -/
set_option maxRecDepth 10000
set_option maxHeartbeats 4000000
set_option linter.unusedSimpArgs false
set_option linter.unusedVariables false
namespace Go.Hem
variable {pol : Pol}
theorem lastOf_setL {l : List ID} {st n : Int} (h : hasS l st = true) : lastOf (setL l st n) st = n := by
  induction l with
  | nil => simp [hasS] at h
  | cons y l ih =>
    by_cases hy : y.site = st
    · simp [setL, hy, lastOf]
    · have : hasS l st = true := by simpa [hasS, hy] using h
      simp only [setL, if_neg hy, lastOf, ih this]
theorem lastOf_insL {l : List ID} {st n : Int} (h : ¬ hasS l st = true) : lastOf (insL l st n) st = n := by
  induction l with
  | nil => simp [insL, lastOf]
  | cons y l ih =>
    have h1 : ¬ y.site = st := fun e => h (by simp [hasS, e])
    have h2 : ¬ hasS l st = true := fun e => h (by simp only [hasS, List.any_cons] at e ⊢; rw [e]; simp)
    by_cases hy : y.site ≤ st
    · simp only [insL, if_pos hy, lastOf, if_neg h1, ih h2]
    · simp [insL, hy, lastOf]
theorem lastOf_give {l : List ID} {st n : Int} : lastOf (giveL l st n) st = n := by
  unfold giveL
  split
  · rename_i h; exact lastOf_setL h
  · rename_i h; exact lastOf_insL h
theorem giveL_len {l : List ID} {st n : Int} : (giveL l st n).length ≤ l.length + 1 := by
  unfold giveL
  split
  · rw [setL_len]; omega
  · rename_i h
    clear h
    induction l with
    | nil => simp [insL]
    | cons y l ih =>
      simp only [insL]
      split <;> simp only [List.length_cons] <;> omega
theorem len_short_last (s : Score) : s.short.last.l.length ≤ 4 := by
  have e4 : s.short.last.l = s.last.l.take 4 := sl_take_len
  rw [e4, List.length_take]; omega
theorem small_gv {s : Score} (h : s.small) (hl : s.last.l.length ≤ 4) (st n : Int) : (s.gv st n).small := by
  obtain ⟨h1, h2, h3, h4, h5, h6⟩ := Score.small_cl h
  refine ⟨h1, h2, h3, h4, h5, ?_⟩
  show (giveL s.last.l st n).length ≤ 10
  have := giveL_len (l := s.last.l) (st := st) (n := n)
  omega
theorem gv_cn (s : Score) (st n : Int) : (s.gv st n).cn = Score.cn { s with last := some (giveL s.last.l st n) } := by
  have := s.cl_cn
  unfold Score.cn at this ⊢
  simp only [Score.mk.injEq] at this ⊢
  obtain ⟨a, b, c, d, e, _⟩ := this
  exact ⟨a, b, c, d, e, rfl⟩
theorem polP_gv : GvPol polP := ⟨polP_pr.1, rfl, rfl, rfl, rfl, rfl, rfl⟩
def badG (st n : Int) : Prop := st < 0 ∨ 99 < st ∨ n < 1 ∨ 1073741824 < n
theorem case25 (s : Score) (hs : s.small) (hl : s.last.l.length ≤ 4) (st n : Int) : ∃ T E, T.small ∧ Pv prog polP 25 [s.enc, .sc (.int .i64 st), .sc (.int .i64 n)] (.tup [T.enc, .sc (.int .i64 E)]) ∧
    ((badG st n ∧ E = 2 ∧ T = Score.none) ∨ (¬ badG st n ∧ n ≤ lastOf s.last.l st ∧ E = 38 ∧ T = Score.none) ∨ (¬ badG st n ∧ ¬ n ≤ lastOf s.last.l st ∧ E = 0 ∧ T = s.gv st n)) := by
  by_cases h : badG st n
  · exact ⟨Score.none, 2, Score.small_none, give_er s st n h, .inl ⟨h, rfl, rfl⟩⟩
  · by_cases h2 : n ≤ lastOf s.last.l st
    · exact ⟨Score.none, 38, Score.small_none, give_sq rfl s (by omega) st n h h2, .inr (.inl ⟨h, h2, rfl, rfl⟩)⟩
    · exact ⟨s.gv st n, 0, small_gv hs hl st n, give_ok polP_gv s hs.tame (by omega) st n h h2, .inr (.inr ⟨h, h2, rfl, rfl⟩)⟩
theorem law5_pv (s : Score) (st n : Int) : Pv prog polP 5 [s.enc, .sc (.int .i64 st), .sc (.int .i64 n)] (.sc (.bool true)) := by
  refine Pv_of' ok5 (by simp only [AV.closedBs, Score.enc_closed, AV.closedB, Bool.and_self]) ?_
  have hs := s.small_short
  have hll := len_short_last s
  obtain ⟨T, E, hTs, hT25, hTc⟩ := case25 s.short hs hll st n
  have hl1 : s.short.last.l.length < 1000000 := by omega
  simp -implicitDefEqProofs (maxDischargeDepth := 12) only [wpF, cf5, WW,List.replicate,e_splice,if_true,if_false,ite_true,ite_false,true_or,ne_eq,seval,h_putc,beq_self_eq_true,eq_self,exists_eq_left,exists_eq_left', s.enc_eq]
  rw [← s.enc_eq]
  refine wA_pure rfl (short_pv rfl rfl rfl rfl rfl s) ?_
  simp -implicitDefEqProofs (maxDischargeDepth := 12) only [WW,List.replicate,e_splice,if_true,if_false,ite_true,ite_false,true_or,ne_eq,seval,h_putc,beq_self_eq_true,eq_self,exists_eq_left,exists_eq_left', s.short.enc_eq]
  try rw [← s.short.enc_eq]
  refine wA_pure rfl hT25 ?_
  simp -implicitDefEqProofs (maxDischargeDepth := 12) only [WW,List.replicate,e_splice,if_true,if_false,ite_true,ite_false,true_or,ne_eq,seval,h_putc,beq_self_eq_true,eq_self,exists_eq_left,exists_eq_left', s.short.enc_eq, T.enc_eq]
  try rw [← s.short.enc_eq]
  generalize hH : AHeap.put _ 1 _ = H
  have k0 : H.cells 0 = some [.sc (.str s.short.title), .sc (.bool s.short.written), slm Part.enc s.short.parts, slm Measure.enc s.short.measures, slm Spanner.enc s.short.spanners, slm ID.enc s.short.last] := by subst hH; simp -implicitDefEqProofs (maxDischargeDepth := 12) only [WW,List.replicate,e_splice,if_true,if_false,ite_true,ite_false,true_or,ne_eq,seval,h_putc,beq_self_eq_true,eq_self,exists_eq_left,exists_eq_left', s.short.enc_eq, T.enc_eq]
  have k1 : H.cells 1 = some [.sc (.str T.title), .sc (.bool T.written), slm Part.enc T.parts, slm Measure.enc T.measures, slm Spanner.enc T.spanners, slm ID.enc T.last] := by subst hH; simp -implicitDefEqProofs (maxDischargeDepth := 12) only [WW,List.replicate,e_splice,if_true,if_false,ite_true,ite_false,true_or,ne_eq,seval,h_putc,beq_self_eq_true,eq_self,exists_eq_left,exists_eq_left', T.enc_eq]
  clear hH
  try rw [← T.enc_eq]
  refine wA_pure rfl known9_pv ?_
  simp -implicitDefEqProofs (maxDischargeDepth := 12) only [WW,List.replicate,e_splice,if_true,if_false,ite_true,ite_false,true_or,ne_eq,seval,h_putc,beq_self_eq_true,eq_self,exists_eq_left,exists_eq_left', k0, k1]
  try rw [← s.short.enc_eq]
  refine wA_pure rfl (last_pv s.short hl1 st) ?_
  simp -implicitDefEqProofs (maxDischargeDepth := 12) only [WW,List.replicate,e_splice,if_true,if_false,ite_true,ite_false,true_or,ne_eq,seval,h_putc,beq_self_eq_true,eq_self,exists_eq_left,exists_eq_left', k0, k1]
  try rw [← s.short.enc_eq]
  refine wA_pure rfl (rlast_pv s.short hl1 st) ?_
  simp -implicitDefEqProofs (maxDischargeDepth := 12) only [WW,List.replicate,e_splice,if_true,if_false,ite_true,ite_false,true_or,ne_eq,seval,h_putc,beq_self_eq_true,eq_self,exists_eq_left,exists_eq_left', k0, k1]
  try rw [← s.short.enc_eq]
  refine wA_pure rfl (prune_pv polP_pr s.short hs.tame hs.Tame) ?_
  simp -implicitDefEqProofs (maxDischargeDepth := 12) only [WW,List.replicate,e_splice,if_true,if_false,ite_true,ite_false,true_or,ne_eq,seval,h_putc,beq_self_eq_true,eq_self,exists_eq_left,exists_eq_left', k0, k1]
  try rw [← s.short.enc_eq]
  refine wA_pure rfl (rprune_pv rfl rfl s.short hs.Tame) ?_
  simp -implicitDefEqProofs (maxDischargeDepth := 12) only [WW,List.replicate,e_splice,if_true,if_false,ite_true,ite_false,true_or,ne_eq,seval,h_putc,beq_self_eq_true,eq_self,exists_eq_left,exists_eq_left', k0, k1]
  refine wA_pure rfl (same_pv rfl rfl rfl rfl s.short.pr s.short.pruned (Score.small_pr hs).tame) ?_
  rw [decide_eq_true (Score.pr_cn _)]
  have zT : ∀ X : Score, X.small → X = Score.none → Pv prog polP 31 [X.enc] (.sc (.bool true)) := fun X h1 h2 => by
    have := zero_pv (pol := polP) rfl rfl rfl rfl rfl X h1.tame
    rwa [decide_eq_true (by rw [h2])] at this
  rcases hTc with ⟨hb, rfl, hTe⟩ | ⟨hb, hn, rfl, hTe⟩ | ⟨hb, hn, rfl, hTe⟩
  · by_cases c0 : st < 0
    · simp -implicitDefEqProofs (maxDischargeDepth := 12) only [WW,List.replicate,e_splice,if_true,if_false,ite_true,ite_false,true_or,ne_eq,seval,h_putc,beq_self_eq_true,eq_self,exists_eq_left,exists_eq_left', k0, k1, c0]
      try rw [← T.enc_eq]
      refine wA_pure rfl (zT T hTs hTe) ?_
      simp -implicitDefEqProofs (maxDischargeDepth := 12) only [WW,List.replicate,e_splice,if_true,if_false,ite_true,ite_false,true_or,ne_eq,seval,h_putc,beq_self_eq_true,eq_self,exists_eq_left,exists_eq_left']
      exact frz_sc
    by_cases c1 : 99 < st
    · simp -implicitDefEqProofs (maxDischargeDepth := 12) only [WW,List.replicate,e_splice,if_true,if_false,ite_true,ite_false,true_or,ne_eq,seval,h_putc,beq_self_eq_true,eq_self,exists_eq_left,exists_eq_left', k0, k1, c0, c1]
      try rw [← T.enc_eq]
      refine wA_pure rfl (zT T hTs hTe) ?_
      simp -implicitDefEqProofs (maxDischargeDepth := 12) only [WW,List.replicate,e_splice,if_true,if_false,ite_true,ite_false,true_or,ne_eq,seval,h_putc,beq_self_eq_true,eq_self,exists_eq_left,exists_eq_left']
      exact frz_sc
    by_cases c2 : n < 1
    · simp -implicitDefEqProofs (maxDischargeDepth := 12) only [WW,List.replicate,e_splice,if_true,if_false,ite_true,ite_false,true_or,ne_eq,seval,h_putc,beq_self_eq_true,eq_self,exists_eq_left,exists_eq_left', k0, k1, c0, c1, c2]
      try rw [← T.enc_eq]
      refine wA_pure rfl (zT T hTs hTe) ?_
      simp -implicitDefEqProofs (maxDischargeDepth := 12) only [WW,List.replicate,e_splice,if_true,if_false,ite_true,ite_false,true_or,ne_eq,seval,h_putc,beq_self_eq_true,eq_self,exists_eq_left,exists_eq_left']
      exact frz_sc
    have c3 : 1073741824 < n := by unfold badG at hb; omega
    simp -implicitDefEqProofs (maxDischargeDepth := 12) only [WW,List.replicate,e_splice,if_true,if_false,ite_true,ite_false,true_or,ne_eq,seval,h_putc,beq_self_eq_true,eq_self,exists_eq_left,exists_eq_left', k0, k1, c0, c1, c2, c3]
    try rw [← T.enc_eq]
    refine wA_pure rfl (zT T hTs hTe) ?_
    simp -implicitDefEqProofs (maxDischargeDepth := 12) only [WW,List.replicate,e_splice,if_true,if_false,ite_true,ite_false,true_or,ne_eq,seval,h_putc,beq_self_eq_true,eq_self,exists_eq_left,exists_eq_left']
    exact frz_sc
  · have c0 : ¬ st < 0 := fun h => hb (.inl h)
    have c1 : ¬ 99 < st := fun h => hb (.inr (.inl h))
    have c2 : ¬ n < 1 := fun h => hb (.inr (.inr (.inl h)))
    have c3 : ¬ 1073741824 < n := fun h => hb (.inr (.inr (.inr h)))
    simp -implicitDefEqProofs (maxDischargeDepth := 12) only [WW,List.replicate,e_splice,if_true,if_false,ite_true,ite_false,true_or,ne_eq,seval,h_putc,beq_self_eq_true,eq_self,exists_eq_left,exists_eq_left', k0, k1, c0, c1, c2, c3]
    try rw [← s.short.enc_eq]
    refine wA_pure rfl (rlast_pv s.short hl1 st) ?_
    simp -implicitDefEqProofs (maxDischargeDepth := 12) only [WW,List.replicate,e_splice,if_true,if_false,ite_true,ite_false,true_or,ne_eq,seval,h_putc,beq_self_eq_true,eq_self,exists_eq_left,exists_eq_left', k0, k1, hn]
    try rw [← T.enc_eq]
    refine wA_pure rfl (zT T hTs hTe) ?_
    simp -implicitDefEqProofs (maxDischargeDepth := 12) only [WW,List.replicate,e_splice,if_true,if_false,ite_true,ite_false,true_or,ne_eq,seval,h_putc,beq_self_eq_true,eq_self,exists_eq_left,exists_eq_left']
    exact frz_sc
  · have c0 : ¬ st < 0 := fun h => hb (.inl h)
    have c1 : ¬ 99 < st := fun h => hb (.inr (.inl h))
    have c2 : ¬ n < 1 := fun h => hb (.inr (.inr (.inl h)))
    have c3 : ¬ 1073741824 < n := fun h => hb (.inr (.inr (.inr h)))
    simp -implicitDefEqProofs (maxDischargeDepth := 12) only [WW,List.replicate,e_splice,if_true,if_false,ite_true,ite_false,true_or,ne_eq,seval,h_putc,beq_self_eq_true,eq_self,exists_eq_left,exists_eq_left', k0, k1, c0, c1, c2, c3]
    try rw [← s.short.enc_eq]
    refine wA_pure rfl (rlast_pv s.short hl1 st) ?_
    simp -implicitDefEqProofs (maxDischargeDepth := 12) only [WW,List.replicate,e_splice,if_true,if_false,ite_true,ite_false,true_or,ne_eq,seval,h_putc,beq_self_eq_true,eq_self,exists_eq_left,exists_eq_left', k0, k1, hn]
    try rw [← s.short.enc_eq]
    refine wA_pure rfl (rgive_pv s.short hl1 st n) ?_
    simp -implicitDefEqProofs (maxDischargeDepth := 12) only [WW,List.replicate,e_splice,if_true,if_false,ite_true,ite_false,true_or,ne_eq,seval,h_putc,beq_self_eq_true,eq_self,exists_eq_left,exists_eq_left', k0, k1]
    try rw [← T.enc_eq]
    refine wA_pure rfl (same_pv rfl rfl rfl rfl T _ hTs.tame) ?_
    rw [decide_eq_true (by rw [hTe]; exact gv_cn _ _ _)]
    simp -implicitDefEqProofs (maxDischargeDepth := 12) only [WW,List.replicate,e_splice,if_true,if_false,ite_true,ite_false,true_or,ne_eq,seval,h_putc,beq_self_eq_true,eq_self,exists_eq_left,exists_eq_left', k0, k1]
    try rw [← T.enc_eq]
    have hTl : T.last.l = giveL s.short.last.l st n := by rw [hTe]; rfl
    have hgl := giveL_len (l := s.short.last.l) (st := st) (n := n)
    refine wA_pure rfl (last_pv T (by rw [hTl]; omega) st) ?_
    rw [hTl, lastOf_give]
    simp -implicitDefEqProofs (maxDischargeDepth := 12) only [WW,List.replicate,e_splice,if_true,if_false,ite_true,ite_false,true_or,ne_eq,seval,h_putc,beq_self_eq_true,eq_self,exists_eq_left,exists_eq_left', k0, k1]
    exact frz_sc
end Go.Hem
