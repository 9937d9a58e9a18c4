/- Walks. -/
import Derived.Test.YtnlhhjmheghnnaaWalks1
import Derived.Test.YtnlhhjmheghnnaaWalks0
import Derived.Test.YtnlhhjmheghnnaaHemRange
/- Walks: DeleteFunc over the spanners of a copy. -/
set_option maxRecDepth 10000
set_option maxHeartbeats 4000000
set_option linter.unusedSimpArgs false
set_option linter.unusedVariables false
namespace Go.Hem
variable {pol : Pol}
theorem own_cap {d b off len cap n : Nat} {H : AHeap} {u : AV} {fp : List Nat} (h : OwnX false (d + 1) H (.slice b off len cap n) u fp) : len ≤ cap := by
  simp only [OwnX] at h
  rcases h with ⟨h, _⟩ | ⟨_, _, _, _, h, _⟩
  · omega
  · exact h.2
theorem splice_off {cs ys : List AV} {off p : Nat} (h : off + p + ys.length ≤ cs.length) : (splice cs (off + p) ys).drop off = splice (cs.drop off) p ys := by
  unfold splice
  rw [List.append_assoc, List.drop_append_of_le_length (by simp; omega), List.append_assoc, List.drop_drop, List.drop_take, Nat.add_sub_cancel_left, Nat.add_assoc]
/-- What DeleteFunc leaves. -/
def DelPost (H0 : AHeap) (m d : Nat) (s : Sl Spanner) (ids : List ID) (fp : List Nat) (v : AV) (H' : AHeap) : Prop :=
  ∃ fp', OwnX false (d + 2) H' v (slm Spanner.enc (s.map fun l => l.filter fun x => !badSp ids x)) fp' ∧ (∀ c ∈ fp', c ∈ fp) ∧ (∀ c, c ∉ fp → c < H0.next → H'.cells c = H0.cells c) ∧ H'.map m = some (idsOf ids) ∧ H0.next ≤ H'.next
theorem del_fin {H0 H' : AHeap} {m d b off cap : Nat} {l : List Spanner} {ids : List ID} {fp : List Nat} {cs : List AV} (hb : H'.cells b = some cs) (hbf : b ∈ fp) (hl : off + (l.filter fun x => !badSp ids x).length * 7 ≤ cs.length) (hcap : (l.filter fun x => !badSp ids x).length ≤ cap)
    (ht : (cs.drop off).take ((l.filter fun x => !badSp ids x).length * 7) = (l.filter fun x => !badSp ids x).flatMap fun x => x.enc.cells) (hk : ∀ c, c ∉ fp → c < H0.next → H'.cells c = H0.cells c) (hm : H'.map m = some (idsOf ids)) (hn : H0.next ≤ H'.next) :
    DelPost H0 m d (some l) ids fp (.slice b off (l.filter fun x => !badSp ids x).length cap 7) H' := by
  by_cases h0 : (l.filter fun x => !badSp ids x).length = 0
  · refine ⟨[], ?_, fun c hc => by simp at hc, hk, hm, hn⟩
    unfold OwnX
    refine .inl ⟨h0, ?_, rfl⟩
    rw [List.length_eq_zero_iff] at h0
    simp only [Option.map_some, h0, slm, List.map_nil]
  · refine ⟨[b], ?_, fun c hc => by simp only [List.mem_singleton] at hc; subst hc; exact hbf, hk, hm, hn⟩
    simp only [OwnX]
    refine .inr ⟨cs, (l.filter fun x => !badSp ids x).flatMap fun x => x.enc.cells, [], hb, ⟨by decide, hcap⟩, h0, hl, ?_, by simp, fun h => by omega, ?_, rfl⟩
    · rw [ht]
      refine OwnL.scal ?_
      rw [List.all_eq_true]
      intro u hu
      obtain ⟨x, _, hx⟩ := List.mem_flatMap.1 hu
      obtain ⟨y, rfl⟩ := sp_scs x u hx
      rfl
    · rw [Option.map_some]
      show slm Spanner.enc (some _) = _
      rw [rows_map row_Spanner]; rfl
theorem delete_own (hp : pol.pure 70 = false) (hp2 : pol.pure 114 = false) {H0 : AHeap} {bq m d : Nat} {v : AV} {s : Sl Spanner} {fp : List Nat} {ids : List ID} (hv : OwnX false (d + 2) H0 v (slm Spanner.enc s) fp) (hq : H0.cells bq = some [.map m]) (hqb : bq ∉ fp) (hm : H0.map m = some (idsOf ids)) (hl : s.l.length < 1000000) :
    Ev prog pol (.call 69 [v, .func (.func 70) [] [.ptr bq 0]]) H0 fun o H' => ∃ v', o = .val v' ∧ DelPost H0 m d s ids fp v' H' := by
  refine wpF_ok ok69 (Q := DelPost H0 m d s ids fp) ?_
  have b2 := h_lt hq
  simp -implicitDefEqProofs (maxDischargeDepth := 12) only [wpF, cf69, WW,List.replicate,e_splice,if_true,if_false,ite_true,ite_false,true_or,ne_eq,Nat.reduceAdd,Nat.reduceSub,Nat.reduceMul,Nat.reduceLeDiff,Nat.reduceEqDiff,Nat.reduceGT,Nat.reduceLT,Int.reduceLE,Int.reduceLT,Int.reduceToNat,Int.reduceAdd,reduceCtorEq,h_putc,beq_self_eq_true,eq_self,exists_eq_left,exists_eq_left']
  refine wA_call hp2 ((index_own hp hv hq hm hl).mono fun o H1 h => ?_)
  obtain ⟨rfl, hK, hm1, hn1⟩ := h
  refine ⟨_, rfl, by simp only [k_nil], ?_⟩
  have c2 := hK.cells hq b2
  cases hx : s.l.findIdx? (badSp ids) with
  | none =>
    rw [List.findIdx?_eq_none_iff] at hx
    have hr : s.map (fun l => l.filter (fun x => !badSp ids x)) = s := by
      cases s with
      | none => rfl
      | some l =>
        rw [Option.map_some, List.filter_eq_self.2 fun x h => by simp [hx x h]]
    simp -implicitDefEqProofs (maxDischargeDepth := 12) only [idxAV, WW,List.replicate,e_splice,if_true,if_false,ite_true,ite_false,true_or,ne_eq,Nat.reduceAdd,Nat.reduceSub,Nat.reduceMul,Nat.reduceLeDiff,Nat.reduceEqDiff,Nat.reduceGT,Nat.reduceLT,Int.reduceLE,Int.reduceLT,Int.reduceToNat,Int.reduceAdd,reduceCtorEq,h_putc,beq_self_eq_true,eq_self,exists_eq_left,exists_eq_left']
    exact ⟨fp, by rw [hr]; exact hv.keep hK, fun _ h => h, fun c _ h => hK c h, hm1, hn1⟩
  | some i0 =>
    rw [List.findIdx?_eq_some_iff_getElem] at hx
    obtain ⟨hi0, hx1, hx2⟩ := hx
    obtain ⟨y0, hy0⟩ : ∃ y, s.l[i0]? = some y := ⟨_, List.getElem?_eq_getElem (by omega)⟩
    have hs : s = some s.l := by cases s with
      | none => simp [Sl.l] at hi0
      | some l => rfl
    generalize hll : s.l = l at *
    subst hs
    obtain ⟨b, off, cap, cs, rfl, hb, hle, hbf, -⟩ := own_sp hv hy0
    simp only [l_some] at *
    have hcap := own_cap hv
    have he : ∀ (i : Nat) x, l[i]? = some x → (cs.drop (off + i * 7)).take 7 = x.enc.cells := fun i x hx => by
      obtain ⟨b', off', cap', cs', e, e1, e2, e3, e4⟩ := own_sp hv (x := x) (i := i) hx
      simp only [l_some, AV.slice.injEq, true_and, and_true] at e
      obtain ⟨rfl, rfl, rfl⟩ := e
      rw [hb] at e1; cases e1
      exact e4
    have hpre : ∀ i, i ≤ l.length → (cs.drop off).take (i * 7) = (l.take i).flatMap fun x => x.enc.cells := by
      intro i
      induction i with
      | zero => intro _; simp
      | succ i ih =>
        intro hi
        obtain ⟨y, hy⟩ : ∃ y, l[i]? = some y := ⟨_, List.getElem?_eq_getElem (by omega)⟩
        rw [List.take_add_one, hy, List.flatMap_append, ← ih (by omega), Nat.succ_mul, List.take_add, List.drop_drop, he i y hy]
        simp
    have b1 := h_lt hb
    have c1 := hK.cells hb b1
    have hqb' : bq ≠ b := fun e => hqb (e ▸ hbf)
    have e0 : ¬ ((i0 : Int) = -1) := by omega
    have e1 : IntKind.i64.wrap ((i0 : Int) + 1) = ((i0 + 1 : Nat) : Int) := by rw [w64 (by omega) (by omega)]; omega
    simp -implicitDefEqProofs (maxDischargeDepth := 12) only [idxAV, WW,List.replicate,e_splice,if_true,if_false,ite_true,ite_false,true_or,ne_eq,Nat.reduceAdd,Nat.reduceSub,Nat.reduceMul,Nat.reduceLeDiff,Nat.reduceEqDiff,Nat.reduceGT,Nat.reduceLT,Int.reduceLE,Int.reduceLT,Int.reduceToNat,Int.reduceAdd,reduceCtorEq,h_putc,beq_self_eq_true,eq_self,exists_eq_left,exists_eq_left', e0, e1]
    have hf0 : (l.take (i0 + 1)).filter (fun x => !badSp ids x) = l.take i0 := by
      rw [List.take_add_one, List.getElem?_eq_getElem hi0, List.filter_append, List.filter_eq_self.2 (fun x h => ?_)]
      · simp [hx1]
      · obtain ⟨j, hj⟩ := List.getElem?_of_mem h
        rw [List.getElem?_take] at hj
        split at hj
        · rename_i hji
          have := hx2 j hji
          rw [(List.getElem?_eq_some_iff.1 hj).2] at this
          simpa using this
        · cases hj
    refine wp_loop (Inv := fun k t H => ∃ (i j : Nat) (cs' : List AV), j + k = l.length ∧ i < j ∧ i = ((l.take j).filter (fun x => !badSp ids x)).length ∧ H.cells b = some cs' ∧ cs'.length = cs.length ∧ (cs'.drop off).take (i * 7) = (((l.take j).filter (fun x => !badSp ids x)).flatMap fun x => x.enc.cells) ∧ (∀ q, off + j * 7 ≤ q → cs'.drop q = cs.drop q) ∧ (∀ c, c ≠ b → c < H0.next → H.cells c = H0.cells c) ∧ H.map m = some (idsOf ids) ∧ H0.next ≤ H.next ∧
      ∃ x : Nat → AV, t = [.slice b off l.length cap 7, .func (.func 70) [] [.ptr bq 0], x 2, x 3, x 4, .sc (.int .i64 i), .sc (.int .i64 j), x 7, x 8, x 9, x 10, x 11, x 12, x 13, x 14, x 15, x 16, x 17, x 18, x 19, x 20, x 21, x 22, x 23, x 24, x 25, x 26, x 27, x 28, x 29, x 30, x 31, x 32, x 33, x 34, x 35, x 36, x 37, x 38, x 39, x 40, x 41]) (k := l.length - (i0 + 1)) ?_
      ⟨i0, i0 + 1, cs, by omega, by omega, by rw [hf0, List.length_take]; omega, c1, rfl, by rw [hf0]; exact hpre _ (by omega), fun _ _ => rfl, fun c _ h => hK c h, hm1, hn1, ex_x rfl⟩
    clear hf0 hx2 hx1 e0 e1 hm1 hn1 c1 c2
    rintro k t H ⟨i, j, cs', hk, hij, hi, hb', hlen', htk, hdr, hkeep, hm', hn', x, rfl⟩
    have c2 : H.cells bq = some [.map m] := (hkeep bq hqb' b2).trans hq
    by_cases h1 : (j : Int) < (l.length : Int)
    · obtain ⟨y, hy⟩ : ∃ y, l[j]? = some y := ⟨_, List.getElem?_eq_getElem (by omega)⟩
      have h1n : j < l.length := by omega
      have e2 : IntKind.i64.wrap ((j : Int) + 1) = ((j + 1 : Nat) : Int) := by rw [w64 (by omega) (by omega)]; omega
      have e3 : IntKind.i64.wrap ((i : Int) + 1) = ((i + 1 : Nat) : Int) := by rw [w64 (by omega) (by omega)]; omega
      have he3 : off + j * 7 + 7 ≤ cs'.length := by rw [hlen']; omega
      have he4 : (cs'.drop (off + j * 7)).take 7 = y.enc.cells := by rw [hdr _ (Nat.le_refl _)]; exact he j y hy
      have o1 : y.enc.cells.length = 7 := Spanner.enc_len y
      have o2 : AV.ones y.enc.cells = true := rfl
      have o4 : List.take 7 y.enc.cells = y.enc.cells := rfl
      have nb : ¬ (b = H.next) := by have := h_lt hb'; omega
      have ml : m < H.next := by
        refine Nat.lt_of_not_le fun h => ?_
        have : H.get m = none := AHeap.get_ge h
        simp [AHeap.map, this] at hm'
      simp -implicitDefEqProofs (maxDischargeDepth := 12) only [WW,List.replicate,e_splice,if_true,if_false,ite_true,ite_false,true_or,ne_eq,Nat.reduceAdd,Nat.reduceSub,Nat.reduceMul,Nat.reduceLeDiff,Nat.reduceEqDiff,Nat.reduceGT,Nat.reduceLT,Int.reduceLE,Int.reduceLT,Int.reduceToNat,Int.reduceAdd,reduceCtorEq,h_putc,beq_self_eq_true,eq_self,exists_eq_left,exists_eq_left', h1, h1n, hb', he3, he4, o1, o2, o4]
      rw [show callvOf prog (.func (.func 70) [] [.ptr bq 0]) [AV.agg y.enc.cells] = some (.call 70 [y.enc, .ptr bq 0]) from rfl]
      generalize hH2 : AHeap.put _ _ _ = H2
      have ek : ∀ c, c < H.next → H2.get c = H.get c := fun c hc => by
        rw [← hH2, AHeap.get_put_ne _ _ (show c ≠ H.next by omega), AHeap.get_alloc_ne _ _ (show c ≠ H.next by omega)]
      have en : H.next < H2.next := by rw [← hH2, AHeap.next_put, AHeap.next_alloc]; omega
      have es : H2.cells H.next = some y.enc.cells := by
        rw [← hH2]
        refine h_put_self (y := List.replicate 7 (.sc (.int .i64 0))) ?_
        simp -implicitDefEqProofs (maxDischargeDepth := 12) only [WW,List.replicate,e_splice,if_true,if_false,ite_true,ite_false,true_or,ne_eq,Nat.reduceAdd,Nat.reduceSub,Nat.reduceMul,Nat.reduceLeDiff,Nat.reduceEqDiff,Nat.reduceGT,Nat.reduceLT,Int.reduceLE,Int.reduceLT,Int.reduceToNat,Int.reduceAdd,reduceCtorEq,h_putc,beq_self_eq_true,eq_self,exists_eq_left,exists_eq_left', List.replicate]
      have d1 : H2.cells bq = some [.map m] := by rw [cells_of_get (ek _ (h_lt c2))]; exact c2
      have d2 : H2.cells b = some cs' := by rw [cells_of_get (ek _ (h_lt hb'))]; exact hb'
      have d3 : H2.map m = some (idsOf ids) := by rw [AHeap.map, ek _ ml]; exact hm'
      refine wA_call hp ((prune1_ok d1 d3 y).mono fun o H3 h => ?_)
      obtain ⟨rfl, hK2, hm3, hn3⟩ := h
      refine ⟨_, rfl, by simp only [k_nil], ?_⟩
      have g1 := hK2.cells d2 (h_lt d2)
      have g2 := hK2.cells es en
      have g3 : ∀ c, c ≠ b → c < H0.next → H3.cells c = H0.cells c := fun c hc hc2 => by
        rw [hK2 c (by omega), cells_of_get (ek c (by omega)), hkeep c hc hc2]
      rw [show (!decide (y.from_ ∈ ids) || !decide (y.to ∈ ids)) = badSp ids y from rfl]
      have hf1 : (l.take (j + 1)).filter (fun x => !badSp ids x) = (l.take j).filter (fun x => !badSp ids x) ++ (if badSp ids y then [] else [y]) := by
        rw [List.take_add_one, hy, List.filter_append]
        cases h : badSp ids y <;> simp [h]
      cases hbb : badSp ids y with
      | true =>
        rw [hbb, if_pos rfl, List.append_nil] at hf1
        simp -implicitDefEqProofs (maxDischargeDepth := 12) only [WW,List.replicate,e_splice,if_true,if_false,ite_true,ite_false,true_or,ne_eq,Nat.reduceAdd,Nat.reduceSub,Nat.reduceMul,Nat.reduceLeDiff,Nat.reduceEqDiff,Nat.reduceGT,Nat.reduceLT,Int.reduceLE,Int.reduceLT,Int.reduceToNat,Int.reduceAdd,reduceCtorEq,h_putc,beq_self_eq_true,eq_self,exists_eq_left,exists_eq_left', e2]
        exact ⟨k - 1, by omega, i, j + 1, cs', by omega, by omega, by rw [hf1]; exact hi, g1, hlen', by rw [hf1]; exact htk, fun q hq => hdr q (by omega), g3, hm3, by omega, ex_x rfl⟩
      | false =>
        rw [hbb, if_neg Bool.false_ne_true] at hf1
        have hin : i < l.length := by omega
        have hib : off + i * 7 + 7 ≤ cs'.length := by rw [hlen']; omega
        have q1 := splice_len2 (cs := cs') (ys := y.enc.cells) (o := off + i * 7) (by rw [o1]; exact hib)
        have q2 : ((splice cs' (off + i * 7) y.enc.cells).drop off).take (i * 7 + 7) = (cs'.drop off).take (i * 7) ++ y.enc.cells := by
          rw [splice_off (by rw [o1]; exact hib)]
          have := splice_take (cs := cs'.drop off) (ys := y.enc.cells) (o := i * 7) (by rw [o1, List.length_drop]; omega)
          rwa [o1] at this
        have q3 : ∀ q, off + (j + 1) * 7 ≤ q → (splice cs' (off + i * 7) y.enc.cells).drop q = cs.drop q := fun q hq => by
          rw [splice_drop (by rw [o1]; exact hib) (by rw [o1]; omega), hdr q (by omega)]
        simp -implicitDefEqProofs (maxDischargeDepth := 12) only [WW,List.replicate,if_true,if_false,ite_true,ite_false,true_or,ne_eq,Nat.reduceAdd,Nat.reduceSub,Nat.reduceMul,Nat.reduceLeDiff,Nat.reduceEqDiff,Nat.reduceGT,Nat.reduceLT,Int.reduceLE,Int.reduceLT,Int.reduceToNat,Int.reduceAdd,reduceCtorEq,beq_self_eq_true,eq_self,exists_eq_left,exists_eq_left', e2, e3, g1, g2, o1, o2, o4, hin, hib]
        have mb : m ≠ b := fun h => by
          subst h
          have a := hm3
          have c := g1
          unfold AHeap.map at a
          unfold AHeap.cells at c
          cases hg : H3.get m with
          | none => simp [hg] at a
          | some v => cases v <;> simp [hg] at a c
        refine ⟨k - 1, by omega, i + 1, j + 1, _, by omega, by omega, ?_, h_put_self g1, q1.trans hlen', ?_, q3, fun c hc h2 => by rw [h_put_ne hc]; exact g3 c hc h2, ?_, by omega, ex_x rfl⟩
        · rw [hf1, List.length_append]; simp only [List.length_cons, List.length_nil]; omega
        · rw [hf1, List.flatMap_append, ← htk, show (i + 1) * 7 = i * 7 + 7 by omega, q2]; simp
        · rw [AHeap.map, AHeap.get_put_ne _ _ mb]; exact hm3
    · have hj : j = l.length := by omega
      subst hj
      rw [List.take_length] at hi htk
      have hil : i ≤ l.length := by omega
      have h0 : ¬ (l.length - i = 0) := by omega
      have h2 : ¬ (i = cap) := by omega
      have h3 : ¬ (0 = cap) := by omega
      have h4 : i ≤ cap := by omega
      have hz2 : off + i * 7 + (l.length - i) * 7 ≤ cs'.length := by rw [hlen']; omega
      have hr : ∀ z : List AV, z.length = 7 → off + i * 7 + (rep (l.length - i) z).length ≤ cs'.length := fun z hz => by rw [rep_len, hz]; exact hz2
      have mb : m ≠ b := fun h => by
        subst h
        have a := hm'
        have c := hb'
        unfold AHeap.map at a
        unfold AHeap.cells at c
        cases hg : H.get m with
        | none => simp [hg] at a
        | some v => cases v <;> simp [hg] at a c
      simp -implicitDefEqProofs (maxDischargeDepth := 12) only [WW,List.replicate,if_true,if_false,ite_true,ite_false,true_or,ne_eq,Nat.reduceAdd,Nat.reduceSub,Nat.reduceMul,Nat.reduceLeDiff,Nat.reduceEqDiff,Nat.reduceGT,Nat.reduceLT,Int.reduceLE,Int.reduceLT,Int.reduceToNat,Int.reduceAdd,reduceCtorEq,beq_self_eq_true,eq_self,exists_eq_left,exists_eq_left', s_clr, clrTo, h1, hil, h0, hb', hz2, hcap, h2, h3, h4]
      have hx' : ∀ z : List AV, z.length = 7 → DelPost H0 m d (some l) ids fp (.slice b off i cap 7) (H.put b (some (.cells (splice cs' (off + i * 7) (rep (l.length - i) z))))) := fun z hz => by
        rw [hi]
        rw [← hi]
        have := del_fin (H0 := H0) (H' := H.put b (some (.cells (splice cs' (off + i * 7) (rep (l.length - i) z))))) (m := m) (d := d) (b := b) (off := off) (cap := cap) (l := l) (ids := ids) (fp := fp) (h_put_self hb') hbf (by rw [← hi, splice_len2 (hr _ hz)]; omega) (by rw [← hi]; exact h4)
          (by rw [← hi, splice_off (hr _ hz), splice_take0 (by rw [rep_len, hz, List.length_drop]; omega) (Nat.le_refl _)]; exact htk)
          (fun c hc h2 => by
            have hcb : c ≠ b := fun e => hc (e.symm ▸ hbf)
            rw [h_put_ne hcb]; exact hkeep c hcb h2) (by rw [AHeap.map, AHeap.get_put_ne _ _ mb]; exact hm') (by rw [AHeap.next_put]; exact hn')
        rw [← hi] at this
        exact this
      exact hx' _ rfl
end Go.Hem
/- What a copy lists; the ids of events. -/
set_option linter.unusedSimpArgs false
set_option linter.unusedVariables false
namespace Go.Hem
theorem objVoices_cl (m c : Nat) : ∀ (l : List Voice) (v : Nat), objVoices m c v (l.map Voice.cl) = objVoices m c v l
  | [], _ => rfl
  | x :: l, v => by
    have e : x.cl.events.l = x.events.l := l_of
    simp only [List.map_cons, objVoices, objVoices_cl m c l, e]
theorem objCells_cl (m : Nat) : ∀ (l : List Cell) (c : Nat), objCells m c (l.map Cell.cl) = objCells m c l
  | [], _ => rfl
  | x :: l, c => by
    have e : x.cl.voices.l = x.voices.l.map Voice.cl := l_of
    simp only [List.map_cons, objCells, objCells_cl m l, e, objVoices_cl]
theorem objMeasures_cl : ∀ (l : List Measure) (m : Nat), objMeasures m (l.map Measure.cl) = objMeasures m l
  | [], _ => rfl
  | x :: l, m => by
    have e : x.cl.cells.l = x.cells.l.map Cell.cl := l_of
    have e2 : oMeasure m x.cl = oMeasure m x := rfl
    simp only [List.map_cons, objMeasures, objMeasures_cl l, e, e2, objCells_cl]
theorem objs_cl (s : Score) : objs s.cl = objs s := by
  have e : s.cl.measures.l = s.measures.l.map Measure.cl := rfl
  have e2 : s.cl.parts.l = s.parts.l := rfl
  have e3 : s.cl.spanners = s.spanners := rfl
  unfold objs
  rw [e, e2, e3, objMeasures_cl]
theorem map_at {α β : Type} {f : α → β} {l : List α} {i : Nat} {y : β} (h : (l.map f)[i]? = some y) : ∃ x, l[i]? = some x ∧ y = f x := by
  rw [List.getElem?_map] at h
  cases hx : l[i]? with
  | none => rw [hx] at h; cases h
  | some x => rw [hx] at h; cases h; exact ⟨x, rfl, rfl⟩
theorem Tame_cl {s : Score} (h : Tame s) : Tame s.cl := by
  have e : s.cl.measures.l = s.measures.l.map Measure.cl := rfl
  have ec : ∀ y : Measure, y.cl.cells.l = y.cells.l.map Cell.cl := fun y => l_of
  have ev : ∀ y : Cell, y.cl.voices.l = y.voices.l.map Voice.cl := fun y => l_of
  have ee : ∀ y : Voice, y.cl.events.l = y.events.l := fun y => l_of
  refine ⟨by rw [objs_cl]; exact h.objs, h.staves, h.parts, by rw [e, List.length_map]; exact h.measures, h.spanners, fun m y hy => ?_, fun m y c q hy hq => ?_, fun m y c q v z hy hq hz => ?_⟩
  · rw [e] at hy
    obtain ⟨y0, h0, rfl⟩ := map_at hy
    rw [ec, List.length_map]; exact h.cells _ _ h0
  · rw [e] at hy
    obtain ⟨y0, h0, rfl⟩ := map_at hy
    rw [ec] at hq
    obtain ⟨q0, h1, rfl⟩ := map_at hq
    rw [ev, List.length_map]; exact h.voices _ _ _ _ h0 h1
  · rw [e] at hy
    obtain ⟨y0, h0, rfl⟩ := map_at hy
    rw [ec] at hq
    obtain ⟨q0, h1, rfl⟩ := map_at hq
    rw [ev] at hz
    obtain ⟨z0, h2, rfl⟩ := map_at hz
    rw [ee]; exact h.events _ _ _ _ _ _ h0 h1 h2

/-- The id of the event at a place. -/
def Score.evId (a : Score) : Pos → Option ID
  | .event m c v e => ((((a.measures.l[m]?).bind fun y => y.cells.l[c]?).bind fun q => q.voices.l[v]?).bind fun z => z.events.l[e]?).map (·.id)
  | _ => none
def evO (o : O) : Option ID := if o.place.kind = 4 then some o.id else none
theorem isEv_iff {l : List O} {id : ID} : isEv l id = true ↔ id ∈ l.filterMap evO := by
  simp only [isEv, List.any_eq_true, List.mem_filterMap, Bool.and_eq_true, decide_eq_true_eq, evO]
  constructor
  · rintro ⟨o, h1, h2, h3⟩; exact ⟨o, h1, by rw [if_pos h2, h3]⟩
  · rintro ⟨o, h1, h2⟩
    split at h2
    · rename_i h; cases h2; exact ⟨o, h1, h, rfl⟩
    · cases h2
section
variable (a : Score)
theorem ev_staves (i : Nat) : ∀ (l : List Staff) (k st : Nat), (posStaves i k st l).filterMap a.evId = [] ∧ (objStaves st l).filterMap evO = []
  | [], _, _ => ⟨rfl, rfl⟩
  | x :: l, k, st => by
    obtain ⟨h1, h2⟩ := ev_staves i l (k + 1) (st + 1)
    constructor
    · rw [posStaves, List.filterMap_cons, h1]; rfl
    · rw [objStaves, List.filterMap_cons, h2]; rfl
theorem ev_parts : ∀ (l : List Part) (i st : Nat), (posParts i st l).filterMap a.evId = [] ∧ (objParts i st l).filterMap evO = []
  | [], _, _ => ⟨rfl, rfl⟩
  | x :: l, i, st => by
    obtain ⟨h1, h2⟩ := ev_parts l (i + 1) (st + x.staves.l.length)
    constructor
    · rw [posParts, List.filterMap_cons, List.filterMap_append, h1, (ev_staves a i _ _ _).1]; rfl
    · rw [objParts, List.filterMap_cons, List.filterMap_append, h2, (ev_staves a i x.staves.l 0 st).2]; rfl
theorem ev_spanners : ∀ (l : List Spanner) (i : Nat), (posSpanners i l).filterMap a.evId = [] ∧ (objSpanners i l).filterMap evO = []
  | [], _ => ⟨rfl, rfl⟩
  | x :: l, i => by
    obtain ⟨h1, h2⟩ := ev_spanners l (i + 1)
    constructor
    · rw [posSpanners, List.filterMap_cons, h1]; rfl
    · rw [objSpanners, List.filterMap_cons, h2]; rfl
theorem ev_events (m c v : Nat) : ∀ (r : List Event) (e : Nat), (∀ (i : Nat) x, r[i]? = some x → a.evId (.event m c v (e + i)) = some x.id) → (posEvents m c v e r).filterMap a.evId = (objEvents m c v e r).filterMap evO
  | [], _, _ => rfl
  | x :: r, e, h => by
    have ih := ev_events m c v r (e + 1) fun i y hy => by rw [Nat.add_right_comm, Nat.add_assoc]; exact h (i + 1) y (by simpa using hy)
    have h0 := h 0 x rfl
    rw [Nat.add_zero] at h0
    rw [posEvents, objEvents, List.filterMap_cons, List.filterMap_cons, h0, ih]; rfl
theorem ev_voices (m c : Nat) : ∀ (r : List Voice) (v : Nat), (∀ (i : Nat) x, r[i]? = some x → ∀ (j : Nat) w, x.events.l[j]? = some w → a.evId (.event m c (v + i) j) = some w.id) → (posVoices m c v r).filterMap a.evId = (objVoices m c v r).filterMap evO
  | [], _, _ => rfl
  | x :: r, v, h => by
    have ih := ev_voices m c r (v + 1) fun i y hy => by rw [Nat.add_right_comm, Nat.add_assoc]; exact h (i + 1) y (by simpa using hy)
    have h0 := ev_events a m c v x.events.l 0 fun j w hw => by rw [Nat.zero_add]; exact h 0 x rfl j w hw
    rw [posVoices, objVoices, List.filterMap_append, List.filterMap_append, h0, ih]
theorem ev_cells (m : Nat) : ∀ (r : List Cell) (c : Nat), (∀ (k : Nat) y, r[k]? = some y → ∀ (i : Nat) x, y.voices.l[i]? = some x → ∀ (j : Nat) w, x.events.l[j]? = some w → a.evId (.event m (c + k) i j) = some w.id) → (posCells m c r).filterMap a.evId = (objCells m c r).filterMap evO
  | [], _, _ => rfl
  | x :: r, c, h => by
    have ih := ev_cells m r (c + 1) fun i y hy => by rw [Nat.add_right_comm, Nat.add_assoc]; exact h (i + 1) y (by simpa using hy)
    have h0 := ev_voices a m c x.voices.l 0 fun j w hw k z hz => by rw [Nat.zero_add]; exact h 0 x rfl j w hw k z hz
    rw [posCells, objCells, List.filterMap_append, List.filterMap_append, h0, ih]
theorem ev_measures : ∀ (r : List Measure) (m : Nat), (∀ (q : Nat) z, r[q]? = some z → ∀ (k : Nat) y, z.cells.l[k]? = some y → ∀ (i : Nat) x, y.voices.l[i]? = some x → ∀ (j : Nat) w, x.events.l[j]? = some w → a.evId (.event (m + q) k i j) = some w.id) → (posMeasures m r).filterMap a.evId = (objMeasures m r).filterMap evO
  | [], _, _ => rfl
  | x :: r, m, h => by
    have ih := ev_measures r (m + 1) fun i y hy => by rw [Nat.add_right_comm, Nat.add_assoc]; exact h (i + 1) y (by simpa using hy)
    have h0 := ev_cells a m x.cells.l 0 fun j w hw k z hz k2 z2 hz2 => by rw [Nat.zero_add]; exact h 0 x rfl j w hw k z hz k2 z2 hz2
    rw [posMeasures, objMeasures, List.filterMap_cons, List.filterMap_cons, List.filterMap_append, List.filterMap_append, h0, ih]; rfl
theorem ev_poss : (poss a).filterMap a.evId = (objs a).filterMap evO := by
  unfold poss objs
  simp only [List.filterMap_append, (ev_parts a _ _ _).1, (ev_parts a _ _ _).2, (ev_spanners a _ _).1, (ev_spanners a _ _).2]
  congr 2
  refine ev_measures a _ _ fun q z hz k y hy i x hx j w hw => ?_
  simp only [Nat.zero_add, Score.evId, hz, hy, hx, hw, Option.bind_some, Option.map_some]
end
theorem idAt_event {a : Score} {m c v e : Nat} {id : ID} {g : ID → Score} (h : IdAt a (.event m c v e) id g) : a.evId (.event m c v e) = some id := by
  cases h with
  | event h1 h2 h3 h4 => simp only [Score.evId, h1, h2, h3, h4, Option.bind_some, Option.map_some]
/-- What Prune returns. -/
def Score.pr (s : Score) : Score := { s.cl with spanners := s.spanners.map fun l => l.filter fun x => isEv (objs s) x.from_ && isEv (objs s) x.to }
theorem Score.pr_cn (s : Score) : s.pr.cn = s.pruned.cn := by
  have h := s.cl_cn
  have e1 : s.pr.spanners.l = s.spanners.l.filter fun x => isEv (objs s) x.from_ && isEv (objs s) x.to := by
    show Sl.l (s.spanners.map _) = _
    cases s.spanners <;> rfl
  have e2 : s.pruned.spanners.l = s.spanners.l.filter fun x => isEv (objs s) x.from_ && isEv (objs s) x.to := l_of
  unfold Score.cn at h ⊢
  rw [e1, e2]
  simp only [Score.mk.injEq] at h
  obtain ⟨h1, h2, h3, h4, h5, h6⟩ := h
  show Score.mk _ _ _ _ _ _ = Score.mk _ _ _ _ _ _
  rw [Score.mk.injEq]
  exact ⟨h1, h2, h3, h4, rfl, h6⟩
end Go.Hem
/- Walks: what visit yields. -/
set_option maxRecDepth 10000
set_option maxHeartbeats 4000000
set_option linter.unusedSimpArgs false
set_option linter.unusedVariables false
namespace Go.Hem
variable {pol : Pol}
end Go.Hem
/- Walks: score.IDs. -/
set_option maxRecDepth 10000
set_option maxHeartbeats 4000000
set_option linter.unusedSimpArgs false
set_option linter.unusedVariables false
namespace Go.Hem
variable {pol : Pol}
theorem callee110 (args : List AV) : acallee prog 110 args = some (.call 110 args) := by kernel_rfl
theorem visit0_ok (H : AHeap) (v : AV) (hv : v.one = true) (hc : v.cells = [v]) {Q : Out → AHeap → Prop} (h : Q (.val (.func (.func 110) [] [.ptr H.next 0])) (H.alloc (.cells [v]))) : Ev prog pol (.call 63 [v]) H Q := by
  refine (wpF_ok ok63 (Q := fun u H' => u = .func (.func 110) [] [.ptr H.next 0] ∧ H' = H.alloc (.cells [v])) ?_).mono ?_
  · simp -implicitDefEqProofs (maxDischargeDepth := 12) only [wpF, cf63, WW,List.replicate,e_splice,if_true,if_false,ite_true,ite_false,true_or,ne_eq,Nat.reduceAdd,Nat.reduceSub,Nat.reduceMul,Nat.reduceLeDiff,Nat.reduceEqDiff,Nat.reduceGT,Nat.reduceLT,Int.reduceLE,Int.reduceLT,Int.reduceToNat,Int.reduceAdd,reduceCtorEq,h_putc,beq_self_eq_true,eq_self,exists_eq_left,exists_eq_left', hv, hc]
  · rintro o H' ⟨u, rfl, rfl, rfl⟩; exact h
end Go.Hem
/- Walks: score.Prune. -/
set_option maxRecDepth 10000
set_option maxHeartbeats 4000000
set_option linter.unusedSimpArgs false
set_option linter.unusedVariables false
namespace Go.Hem
variable {pol : Pol}
theorem o_map {b : Nat} : AV.one (.map b) = true := rfl
theorem c_map {b : Nat} : AV.cells (.map b) = [.map b] := rfl
theorem splice_full {z cs : List AV} (h : z.length = cs.length) : splice z 0 cs = cs := by
  unfold splice
  rw [List.take_zero, List.nil_append, List.drop_of_length_le (by omega), List.append_nil]
theorem map_of_get {H H' : AHeap} {b : Nat} (h : H'.get b = H.get b) : H'.map b = H.map b := by unfold AHeap.map; rw [h]
theorem get_of_map {H : AHeap} {b : Nat} {l : List (AV × AV)} (h : H.map b = some l) : H.get b = some (.map l) := by
  unfold AHeap.map at h
  split at h
  · rename_i q; cases h; exact q
  · cases h
theorem get_two {cs : List AV} {off : Nat} {x y : AV} (h1 : cs[off]? = some x) (h2 : cs[off + 1]? = some y) : (cs.drop off).take 2 = [x, y] := by
  obtain ⟨l1, e1⟩ := List.getElem?_eq_some_iff.1 h1
  obtain ⟨l2, e2⟩ := List.getElem?_eq_some_iff.1 h2
  rw [List.drop_eq_getElem_cons l1, List.take_succ_cons, List.drop_eq_getElem_cons l2, List.take_succ_cons, List.take_zero, e1, e2]
def PrPol (pol : Pol) : Prop := ClPol pol ∧ pol.pure 63 = false ∧ pol.pure 69 = false ∧ pol.pure 70 = false ∧ pol.pure 114 = false
theorem prune_pv (hp : PrPol pol) (s : Score) (hx : s.tame) (hT : Tame s) : Pv prog pol 29 [s.enc] (s.pr.enc) := by
  obtain ⟨hc, hp63, hp69, hp70, hp114⟩ := hp
  refine Pv_of' ok29 (by simp only [AV.closedBs, Score.enc_closed, Bool.and_self]) ?_
  simp -implicitDefEqProofs (maxDischargeDepth := 12) only [wpF, cf29, WW,List.replicate,e_splice,if_true,if_false,ite_true,ite_false,true_or,ne_eq,Nat.reduceAdd,Nat.reduceSub,Nat.reduceMul,Nat.reduceLeDiff,Nat.reduceEqDiff,Nat.reduceGT,Nat.reduceLT,Int.reduceLE,Int.reduceLT,Int.reduceToNat,Int.reduceAdd,reduceCtorEq,h_putc,beq_self_eq_true,eq_self,exists_eq_left,exists_eq_left', s.enc_eq]
  rw [← s.enc_eq]
  refine wA_call (hc _ (by decide)) ((sClone_ok hc s hx _).mono ?_)
  rintro o H1 ⟨cs, fp, rfl, ho, hl, hones, hF, hN, hK⟩
  refine ⟨_, rfl, by simp only [k_nil], ?_⟩
  simp -implicitDefEqProofs (maxDischargeDepth := 12) only [WW,List.replicate,e_splice,if_true,if_false,ite_true,ite_false,true_or,ne_eq,Nat.reduceAdd,Nat.reduceSub,Nat.reduceMul,Nat.reduceLeDiff,Nat.reduceEqDiff,Nat.reduceGT,Nat.reduceLT,Int.reduceLE,Int.reduceLT,Int.reduceToNat,Int.reduceAdd,reduceCtorEq,h_putc,beq_self_eq_true,eq_self,exists_eq_left,exists_eq_left'] at hF hN
  have g1 : H1.cells 1 = some [.sc (.str ⟨#[]⟩), .sc (.bool false), .sc .nils, .sc .nils, .sc .nils, .sc .nils] := (hK 1 (show 1 < 2 by decide)).trans (by simp -implicitDefEqProofs (maxDischargeDepth := 12) only [WW,List.replicate,e_splice,if_true,if_false,ite_true,ite_false,true_or,ne_eq,Nat.reduceAdd,Nat.reduceSub,Nat.reduceMul,Nat.reduceLeDiff,Nat.reduceEqDiff,Nat.reduceGT,Nat.reduceLT,Int.reduceLE,Int.reduceLT,Int.reduceToNat,Int.reduceAdd,reduceCtorEq,h_putc,beq_self_eq_true,eq_self,exists_eq_left,exists_eq_left'])
  generalize hq : H1.next = q
  have hq2 : 2 ≤ q := by rw [← hq]; exact hN
  have hlt := ho.lts
  have hsp : splice [.sc (.str ⟨#[]⟩), .sc (.bool false), .sc .nils, .sc .nils, .sc .nils, .sc .nils] 0 cs = cs := splice_full hl.symm
  simp -implicitDefEqProofs (maxDischargeDepth := 12) only [WW,List.replicate,if_true,if_false,ite_true,ite_false,true_or,ne_eq,Nat.reduceAdd,Nat.reduceSub,Nat.reduceMul,Nat.reduceLeDiff,Nat.reduceEqDiff,Nat.reduceGT,Nat.reduceLT,Int.reduceLE,Int.reduceLT,Int.reduceToNat,Int.reduceAdd,reduceCtorEq,beq_self_eq_true,eq_self,exists_eq_left,exists_eq_left', hones, hl, s_mkmap, hq, hsp, o_map, c_map]
  generalize hH2 : AHeap.put _ (q + 1 + 1) _ = H2
  have n2 : H2.next = q + 3 := by subst hH2; simp only [AHeap.next_put, AHeap.next_alloc, hq]
  have a0 : ∀ b, b < q → H2.cells b = H1.cells b := fun b hb => by
    subst hH2
    rw [c_put_ne (by omega), c_alloc_ne (by simp only [AHeap.next_put, AHeap.next_alloc, hq]; omega), c_alloc_ne (by simp only [AHeap.next_put, AHeap.next_alloc, hq]; omega), c_put_ne (by omega), c_alloc_ne (by omega)]
  have aq : H2.cells q = some cs := by
    subst hH2
    rw [c_put_ne (by omega), c_alloc_ne (by simp only [AHeap.next_put, AHeap.next_alloc, hq]; omega), c_alloc_ne (by simp only [AHeap.next_put, AHeap.next_alloc, hq]; omega)]
    refine h_put_self (y := [.sc (.str ⟨#[]⟩), .sc (.bool false), .sc .nils, .sc .nils, .sc .nils, .sc .nils]) ?_
    rw [h_alloc, if_pos hq.symm]
  have am : H2.map (q + 1) = some [] := by
    subst hH2
    rw [AHeap.map, g_put_ne (by omega), g_alloc_ne (by simp only [AHeap.next_put, AHeap.next_alloc, hq]; omega)]
    have e : q + 1 = ((H1.alloc (Blk.cells [AV.sc (Sc.str { data := #[] }), AV.sc (Sc.bool false), AV.sc Sc.nils, AV.sc Sc.nils, AV.sc Sc.nils, AV.sc Sc.nils])).put q (some (Blk.cells cs))).next := by simp only [AHeap.next_put, AHeap.next_alloc, hq]
    rw [e, g_alloc]
  have ab : H2.cells (q + 2) = some [.map (q + 1)] := by
    subst hH2
    refine h_put_self (y := [.sc .nilm]) ?_
    rw [h_alloc, if_pos (by simp only [AHeap.next_put, AHeap.next_alloc, hq])]
  clear hH2
  refine wA_call hp63 (visit0_ok _ _ rfl rfl ⟨_, rfl, by simp only [k_nil], ?_⟩)
  simp -implicitDefEqProofs (maxDischargeDepth := 12) only [WW,List.replicate,e_splice,if_true,if_false,ite_true,ite_false,true_or,ne_eq,Nat.reduceAdd,Nat.reduceSub,Nat.reduceMul,Nat.reduceLeDiff,Nat.reduceEqDiff,Nat.reduceGT,Nat.reduceLT,Int.reduceLE,Int.reduceLT,Int.reduceToNat,Int.reduceAdd,reduceCtorEq,h_putc,beq_self_eq_true,eq_self,exists_eq_left,exists_eq_left', n2]
  refine ev_range rfl (callee110 _) ?_
  intro A B hA hB
  simp -implicitDefEqProofs (maxDischargeDepth := 12) only [WW,List.replicate,e_splice,if_true,if_false,ite_true,ite_false,true_or,ne_eq,Nat.reduceAdd,Nat.reduceSub,Nat.reduceMul,Nat.reduceLeDiff,Nat.reduceEqDiff,Nat.reduceGT,Nat.reduceLT,Int.reduceLE,Int.reduceLT,Int.reduceToNat,Int.reduceAdd,reduceCtorEq,h_putc,beq_self_eq_true,eq_self,exists_eq_left,exists_eq_left', n2]
  have hTc := Tame_cl hT
  have hR : ∀ b ∈ fp, b < q := fun b hb => by have := hlt b hb; omega
  have hR2 : ∀ b ∈ fp, 2 ≤ b := hF
  generalize hLB : Blk.loop LoopState.ready none _ [11, 12] A B = LB
  refine Ev.mono (visit_own (pol := pol) s.cl hTc (q + 3 + 1) (q + 3) q fp (fun _ => s.cl) (fun r H => H.cells (q + 3) = some [.ptr q 0] ∧ (∀ b, b < q + 1 → H.cells b = H2.cells b) ∧ H.get (q + 3 + 1) = some LB ∧ H.cells (q + 2) = some [.map (q + 1)] ∧
      ∃ l, H.map (q + 1) = some (idsOf l) ∧ ∀ x, (x ∈ l ∨ x ∈ r.filterMap s.cl.evId) ↔ x ∈ (poss s.cl).filterMap s.cl.evId) (fun _ => False) ?_ ?_ ?_) ?_
  · rintro r H ⟨h1, h2, -, -, -⟩
    refine ⟨h1, ⟨cs, fp, by rw [h2 q (by omega)]; exact aq, ho.fr fun b hb => ?_, fun _ h => h⟩, SameShape.refl _⟩
    have := hR b hb
    rw [h2 b (by omega), a0 b this]
  · rintro o r H p ⟨h1, h2, hl, hb, l, hm, hx⟩ ⟨b, off, ds, id, g, rfl, hbR, hds, hl2, hs0, hs1, hI, -⟩
    subst hLB
    have hn := hg_lt hl
    have hbq := hR b hbR
    generalize hpl : o.place = pl
    have q1 : ¬ (b = H.next) := by omega
    have q2 : ¬ (H.next = q + 3 + 1) := by omega
    refine ev_round2 (t1 := ?t1) (H1 := ?H1) hl rfl hA hB ?_ ?_ ?_
    case t1 => exact ((([s.enc, .ptr 0 0, .ptr 1 0, .ptr q 0, .ptr (q + 1 + 1) 0, .sc .undef, .sc .undef, s.enc, .agg cs, .map (q + 1), .func (.func 110) [] [.ptr (q + 3) 0], .sc .undef, .sc .undef, .sc .undef, .sc .undef, .sc .undef, .sc .undef, .sc .undef, .sc .undef, .sc .undef, .sc .undef, .sc .undef, .sc .undef, .sc .undef, .sc .undef, .sc .undef].set 11 pl.enc).set 12 (AV.ptr b off)).set 5 (.ptr H.next 0)) |>.set 6 (.ptr b off)
    case H1 => exact (H.alloc (.cells [.sc (.int .i64 0), .sc (.int .i64 0), .sc (.int .i64 0), .sc (.int .i64 0), .sc (.int .i64 0), .sc (.int .i64 0), .sc (.int .i64 0)])).put H.next (some (.cells pl.enc.cells))
    · simp -implicitDefEqProofs (maxDischargeDepth := 12) only [WW,List.replicate,e_splice,if_true,if_false,ite_true,ite_false,true_or,ne_eq,Nat.reduceAdd,Nat.reduceSub,Nat.reduceMul,Nat.reduceLeDiff,Nat.reduceEqDiff,Nat.reduceGT,Nat.reduceLT,Int.reduceLE,Int.reduceLT,Int.reduceToNat,Int.reduceAdd,reduceCtorEq,h_putc,beq_self_eq_true,eq_self,exists_eq_left,exists_eq_left', pl.enc_eq]
    · rw [g_put_ne (by omega), g_alloc_ne (by omega)]; exact hl
    generalize hH3 : AHeap.put (AHeap.alloc H _) _ _ = H3
    have k0 : ∀ c, c ≠ H.next → H3.get c = H.get c := fun c hc => by subst hH3; rw [g_put_ne hc, g_alloc_ne hc]
    have k1 : H3.cells H.next = some [.sc (.int .i64 pl.kind), .sc (.int .i64 pl.part), .sc (.int .i64 pl.staff), .sc (.int .i64 pl.measure), .sc (.int .i64 pl.voice), .sc (.int .i64 pl.event), .sc (.int .i64 pl.spanner)] := by
      subst hH3
      exact h_put_self (by rw [h_alloc, if_pos rfl])
    have k2 := (k0 (q + 3 + 1) (by omega)).trans hl
    have k3 : H3.cells b = some ds := (cells_of_get (k0 b (by omega))).trans hds
    have k4 : H3.cells (q + 1 + 1) = some [.map (q + 1)] := (cells_of_get (k0 (q + 2) (by omega))).trans hb
    have k5 : H3.map (q + 1) = some (idsOf l) := (map_of_get (k0 (q + 1) (by omega))).trans hm
    have k6 : ∀ c x, c ≠ q + 3 + 1 → (H3.put (q + 3 + 1) (some x)).get c = H3.get c := fun c x hc => g_put_ne hc
    clear hH3
    generalize hH4 : AHeap.put H3 _ _ = H4
    have m0 : ∀ c, c ≠ q + 3 + 1 → H4.get c = H3.get c := fun c hc => by subst hH4; exact g_put_ne hc
    have m1 : H4.get (q + 3 + 1) = some (.loop .busy none [s.enc, .ptr 0 0, .ptr 1 0, .ptr q 0, .ptr (q + 1 + 1) 0, .sc .undef, .sc .undef, s.enc, .agg cs, .map (q + 1), .func (.func 110) [] [.ptr (q + 3) 0], .sc .undef, .sc .undef, .sc .undef, .sc .undef, .sc .undef, .sc .undef, .sc .undef, .sc .undef, .sc .undef, .sc .undef, .sc .undef, .sc .undef, .sc .undef, .sc .undef, .sc .undef] [11, 12] A B) := by subst hH4; exact g_put k2
    have m2 := (cells_of_get (m0 H.next (by omega))).trans k1
    have m3 := (cells_of_get (m0 b (by omega))).trans k3
    have m4 := (cells_of_get (m0 (q + 1 + 1) (by omega))).trans k4
    have m5 := (map_of_get (m0 (q + 1) (by omega))).trans k5
    clear hH4
    have fin : ∀ (H5 : AHeap) (l' : List ID) (x : Blk), (∀ c, c ≠ q + 1 → c ≠ q + 3 + 1 → c ≠ H.next → H5.get c = H.get c) → H5.get (q + 3 + 1) = some x → H5.map (q + 1) = some (idsOf l') → (∀ x, (x ∈ l' ∨ x ∈ r.filterMap s.cl.evId) ↔ x ∈ (poss s.cl).filterMap s.cl.evId) →
      (H5.cells (q + 3) = some [.ptr q 0] ∧ (∀ b, b < q + 1 → H5.cells b = H2.cells b) ∧ H5.get (q + 3 + 1) = some x ∧ H5.cells (q + 2) = some [.map (q + 1)] ∧ ∃ l, H5.map (q + 1) = some (idsOf l) ∧ ∀ x, (x ∈ l ∨ x ∈ r.filterMap s.cl.evId) ↔ x ∈ (poss s.cl).filterMap s.cl.evId) := fun H5 l' x e1 e2 e3 e4 =>
      ⟨(cells_of_get (e1 _ (by omega) (by omega) (by omega))).trans h1, fun c hc => (cells_of_get (e1 _ (by omega) (by omega) (by omega))).trans (h2 c hc), e2, (cells_of_get (e1 _ (by omega) (by omega) (by omega))).trans hb, l', e3, e4⟩
    have hid : (ds.drop off).take 2 = [.sc (.int .i64 id.site), .sc (.int .i64 id.number)] := get_two hs0 hs1
    by_cases hk : pl.kind = 4
    · have hev : s.cl.evId o = some id := by
        cases o <;> first | exact idAt_event hI | (subst hpl; simp [Pos.place] at hk)
      rw [List.filterMap_cons, hev] at hx
      obtain ⟨l', hp1, hp2⟩ := put_ids m5 id
      simp only [id.enc_eq] at hp1
      simp -implicitDefEqProofs (maxDischargeDepth := 12) only [WW,List.replicate,if_true,if_false,ite_true,ite_false,true_or,ne_eq,Nat.reduceAdd,Nat.reduceSub,Nat.reduceMul,Nat.reduceLeDiff,Nat.reduceEqDiff,Nat.reduceGT,Nat.reduceLT,Int.reduceLE,Int.reduceLT,Int.reduceToNat,Int.reduceAdd,reduceCtorEq,beq_self_eq_true,eq_self,exists_eq_left,exists_eq_left', m2, m3, m4, hk, hl2, hid, s_mpup, wA_memM, hp1]
      refine ⟨(g_put_ne (by omega)).trans m1, rfl, fin _ l' _ (fun c c1 c2 c3 => by rw [g_put_ne c2, g_put_ne c1, m0 c c2, k0 c c3]) (g_put ((g_put_ne (by omega)).trans m1)) ?_ fun x => ?_⟩
      · rw [AHeap.map, g_put_ne (by omega), g_put (get_of_map m5)]
      · rw [hp2 x, ← hx x]
        simp only [List.mem_cons, or_assoc]
    · have hev : s.cl.evId o = none := by
        cases o <;> first | rfl | (subst hpl; simp [Pos.place] at hk)
      rw [List.filterMap_cons, hev] at hx
      simp -implicitDefEqProofs (maxDischargeDepth := 12) only [WW,List.replicate,if_true,if_false,ite_true,ite_false,true_or,ne_eq,Nat.reduceAdd,Nat.reduceSub,Nat.reduceMul,Nat.reduceLeDiff,Nat.reduceEqDiff,Nat.reduceGT,Nat.reduceLT,Int.reduceLE,Int.reduceLT,Int.reduceToNat,Int.reduceAdd,reduceCtorEq,beq_self_eq_true,eq_self,exists_eq_left,exists_eq_left', m2, hk]
      refine ⟨m1, rfl, fin _ l _ (fun c c1 c2 c3 => by rw [g_put_ne c2, m0 c c2, k0 c c3]) (g_put m1) ?_ hx⟩
      rw [AHeap.map, g_put_ne (by omega)]
      exact m5
  · refine ⟨?_, fun b hb => ?_, ?_, ?_, [], ?_, fun x => by simp⟩
    · rw [c_alloc_ne (by rw [AHeap.next_alloc, n2]; omega), h_alloc, if_pos n2.symm]
    · rw [c_alloc_ne (by rw [AHeap.next_alloc, n2]; omega), c_alloc_ne (by rw [n2]; omega)]
    · have e : q + 3 + 1 = (H2.alloc (.cells [.ptr q 0])).next := by rw [AHeap.next_alloc, n2]
      rw [e, g_alloc]
    · rw [c_alloc_ne (by rw [AHeap.next_alloc, n2]; omega), c_alloc_ne (by rw [n2]; omega)]; exact ab
    · rw [AHeap.map, g_alloc_ne (by rw [AHeap.next_alloc, n2]; omega), g_alloc_ne (by rw [n2]; omega)]; exact am
  · rintro o H' ⟨v, rfl, ⟨h1, h2, hl, hb, l, hm, hx⟩ | h⟩
    rotate_left
    · exact h.elim
    subst hLB
    have hn := hg_lt hl
    refine ⟨v, rfl, _, _, _, _, _, _, _, hl, by simp, rfl, ?_⟩
    generalize hH4 : AHeap.put H' _ _ = H4
    have m0 : ∀ c, c ≠ q + 3 + 1 → H4.get c = H'.get c := fun c hc => by subst hH4; exact g_put_ne hc
    have mn : H4.next = H'.next := by subst hH4; rw [AHeap.next_put]
    clear hH4
    have ho4 : OwnL (OwnX false 7) H4 cs s.cl.enc.cells fp := ho.fr fun b hb => by
      have := hR b hb
      rw [cells_of_get (m0 b (by omega)), h2 b (by omega), a0 b this]
    have hS : H4.cells q = some cs := by rw [cells_of_get (m0 q (by omega)), h2 q (by omega)]; exact aq
    have h14 := ((cells_of_get (m0 1 (by omega))).trans ((h2 1 (by omega)).trans (a0 1 (by omega)))).trans g1
    obtain ⟨v2, v3, v4, v5, f2, f3, f4, f5, rfl, c2, c3, c4, c5, s2, s3, s4, s5⟩ := own6 ho4
    obtain ⟨v, f4, e4, w1, w2, w3⟩ := ho4.fit (j := 4) (u := slm Spanner.enc s.cl.spanners) rfl
    cases e4
    simp -implicitDefEqProofs (maxDischargeDepth := 12) only [WW,List.replicate,if_true,if_false,ite_true,ite_false,true_or,ne_eq,Nat.reduceAdd,Nat.reduceSub,Nat.reduceMul,Nat.reduceLeDiff,Nat.reduceEqDiff,Nat.reduceGT,Nat.reduceLT,Int.reduceLE,Int.reduceLT,Int.reduceToNat,Int.reduceAdd,reduceCtorEq,beq_self_eq_true,eq_self,exists_eq_left,exists_eq_left', hS]
    refine wA_call hp69 ((delete_own (d := 5) hp70 hp114 w1 (bq := q + 1 + 1) (m := q + 1) ((cells_of_get (m0 (q + 2) (by omega))).trans hb) (fun h => by have := hR _ (w2 _ h); omega) ((map_of_get (m0 (q + 1) (by omega))).trans hm) hTc.spanners).mono ?_)
    rintro o H5 ⟨v', rfl, f5, x1, x2, x3, x4, x5⟩
    refine ⟨_, rfl, by simp only [k_nil], ?_⟩
    obtain ⟨fp', y1, y2⟩ := w3 v' _ H5 f5 x1 (fun b hb hb2 => x3 b hb2 (by have := hR b hb; omega)) (fun b hb => .inl (x2 b hb))
    have hfp' : ∀ b ∈ fp', 2 ≤ b ∧ b < q := fun b hb => by
      rcases y2 b hb with h | ⟨h, _⟩
      · have := w2 b (x2 b h); exact ⟨hR2 b this, hR b this⟩
      · exact ⟨hR2 b h, hR b h⟩
    have z1 := (x3 q (fun h => by have := hR _ (w2 _ h); omega) (by omega)).trans hS
    have z2 := (x3 1 (fun h => by have := hR2 _ (w2 _ h); omega) (by omega)).trans h14
    have hbad : (fun x => !badSp l x) = fun x : Spanner => isEv (objs s) x.from_ && isEv (objs s) x.to := by
      have key : ∀ x, decide (x ∈ l) = isEv (objs s) x := fun x => by
        have e : x ∈ l ↔ isEv (objs s) x = true := by
          rw [isEv_iff, ← objs_cl s, ← ev_poss, ← hx x]
          simp
        cases hb : isEv (objs s) x with
        | true => simp [e.2 hb]
        | false => simp only [decide_eq_false_iff_not]; intro h; rw [e.1 h] at hb; cases hb
      funext x
      simp only [badSp, key, Bool.not_or, Bool.not_not]
    rw [hbad] at y1
    have nq : ¬ 1 = q := by omega
    simp -implicitDefEqProofs (maxDischargeDepth := 12) only [WW,List.replicate,e_splice,if_true,if_false,ite_true,ite_false,true_or,ne_eq,Nat.reduceAdd,Nat.reduceSub,Nat.reduceMul,Nat.reduceLeDiff,Nat.reduceEqDiff,Nat.reduceGT,Nat.reduceLT,Int.reduceLE,Int.reduceLT,Int.reduceToNat,Int.reduceAdd,reduceCtorEq,h_putc,beq_self_eq_true,eq_self,exists_eq_left,exists_eq_left', z1, z2, nq, (own_len c2).2.1, (own_len c3).2.1, (own_len c4).2.1, (own_len c5).2.1, (own_len x1).2.1, (own_len x1).2.2]
    refine OwnX.frz (I := false) (d := 8) (fp := fp') ?_ (by decide)
    refine ⟨s.pr.enc.cells, rfl, ?_⟩
    refine (show OwnL (OwnX false 7) H5 _ s.pr.enc.cells fp' from y1).fr fun b hb => ?_
    have := hfp' b hb
    rw [c_put_ne (by omega), c_put_ne (by omega)]
end Go.Hem
/- Walks: with, and the closures of SetMeasure and SetCell. -/
set_option maxRecDepth 10000
set_option maxHeartbeats 4000000
set_option linter.unusedSimpArgs false
set_option linter.unusedVariables false
namespace Go.Hem
variable {pol : Pol}
section
variable {H : AHeap} {bS : Nat} {R : List Nat}
/-- The end of a path: an element is written. -/
theorem store_fin {α : Type} {f : α → AV} {v w : AV} {d n i : Nat} {g1 g2 : List Nat} {s : Sl α} {x : α} (row : RowOf n f) (hn1 : n ≠ 1) (hw : OwnX false (d + 1) H w (slm f s) g2) (hi : s.l[i]? = some x) (hg12 : ∀ b ∈ g2, b ∈ g1) (hg1 : ∀ b ∈ g1, b ∈ R) (hRS : bS ∉ R) :
    ∃ b off cap ds, w = .slice b off s.l.length cap n ∧ H.cells b = some ds ∧ off + i * n + n ≤ ds.length ∧ b ∈ R ∧ ∀ (x' : α) (U : AV) (a' : Score),
      Fit H g1 g2 (fun H' f' => OwnX false (d + 1) H' w (slm f (some (s.l.set i x'))) f') (fun H' f' => OwnX false 7 H' v U f') →
      (∀ H' f' R', OwnX false 7 H' v U f' → H'.cells bS = H.cells bS → (∀ b ∈ R, b ∉ g1 → H'.cells b = H.cells b) → (∀ b ∈ f', b ∈ g1 ∨ b ∉ R) → (∀ b ∈ R, b ∈ R') → (∀ b ∈ f', b ∈ R') → OwnScore H' bS R' a') →
      ∀ H1 ws g, (∀ c ∈ R, H1.cells c = H.cells c) → H1.cells bS = H.cells bS → ws.length = n → OwnL (OwnX false d) H1 ws (f x').cells g → (∀ c ∈ g, c ∉ R) → OwnScore (H1.put b (some (.cells (splice ds (off + i * n) ws)))) bS (R ++ g) a' := by
  obtain ⟨b, off, cap, cs, fp1, h1, h2, h3, h4, h5, h6, h7, h8⟩ := own_elem_fit row hn1 hw hi
  have hbR := hg1 b (hg12 b h4)
  have nb : bS ≠ b := fun e => hRS (e ▸ hbR)
  refine ⟨b, off, cap, cs, h1, h2, h3, hbR, fun x' U a' hF hT H1 ws g k1 k2 k3 k4 k5 => ?_⟩
  have hb1 : H1.cells b = some cs := (k1 b hbR).trans h2
  have hgb : b ∉ g := fun h => k5 b h hbR
  obtain ⟨f', r1, r2⟩ := h8 x' (H1.put b (some (.cells (splice cs (off + i * n) ws)))) (b :: g) ⟨ws, g, h_put_self hb1, k3, k4.fr fun c hc => c_put_ne fun e => hgb (e ▸ hc), hgb, rfl⟩
    (fun c hc hc2 => by rw [c_put_ne fun e => hc2 (by simp [e]), k1 c (hg1 c (hg12 c hc))]) (fun c hc => by
      rcases List.mem_cons.1 hc with rfl | hc
      · exact .inl (by simp)
      · exact .inr fun h => k5 c hc (hg1 c (hg12 c h)))
  have hf' : ∀ c ∈ f', c ∈ g2 ∨ c ∈ g := fun c hc => by
    rcases r2 c hc with h | ⟨h, _⟩
    · rcases List.mem_cons.1 h with rfl | h
      · exact .inl h4
      · exact .inr h
    · exact .inl h
  have hk : ∀ c, c ∈ R → c ≠ b → (H1.put b (some (.cells (splice cs (off + i * n) ws)))).cells c = H.cells c := fun c hc hcb => by rw [c_put_ne hcb, k1 c hc]
  obtain ⟨f'', q1, q2⟩ := hF _ f' r1 (fun c hc hc2 => hk c (hg1 c hc) fun e => hc2 (e ▸ h4)) (fun c hc => by
    rcases hf' c hc with h | h
    · exact .inl h
    · exact .inr fun h2 => k5 c h (hg1 c h2))
  have hf'' : ∀ c ∈ f'', c ∈ g1 ∨ c ∈ g := fun c hc => by
    rcases q2 c hc with h | ⟨h, _⟩
    · exact (hf' c h).imp (hg12 c) id
    · exact .inl h
  refine hT _ f'' (R ++ g) q1 (by rw [c_put_ne nb, k2]) (fun c hc hc2 => hk c hc fun e => hc2 (e ▸ hg12 b h4)) (fun c hc => (hf'' c hc).imp id (k5 c)) (fun c hc => List.mem_append.2 (.inl hc)) (fun c hc => ?_)
  rcases hf'' c hc with h | h
  · exact List.mem_append.2 (.inl (hg1 c h))
  · exact List.mem_append.2 (.inr h)

theorem store_measure {a : Score} {v : AV} {i : Nat} {y : Measure} (h : Foc H bS R a v 3 (slm Measure.enc a.measures)) (hy : a.measures.l[i]? = some y) (hRS : bS ∉ R) :
    ∃ b off cap ds, v = .slice b off a.measures.l.length cap 22 ∧ H.cells b = some ds ∧ off + i * 22 + 22 ≤ ds.length ∧ b ∈ R ∧ ∀ (x : Measure) H1 ws g, (∀ c ∈ R, H1.cells c = H.cells c) → H1.cells bS = H.cells bS → ws.length = 22 → OwnL (OwnX false 6) H1 ws x.enc.cells g → (∀ c ∈ g, c ∉ R) →
      OwnScore (H1.put b (some (.cells (splice ds (off + i * 22) ws)))) bS (R ++ g) (a.setM i x) := by
  obtain ⟨f, h1, h2, h3⟩ := h
  obtain ⟨b, off, cap, ds, e1, e2, e3, e4, e5⟩ := store_fin (g1 := f) (v := v) row_Measure (by decide) h1 hy (fun _ h => h) h2 hRS
  exact ⟨b, off, cap, ds, e1, e2, e3, e4, fun x => e5 x _ _ Fit.refl (h3 (a.setM i x) _ rfl)⟩
theorem store_cell {a : Score} {v : AV} {i j : Nat} {y : Measure} {q : Cell} (h : Foc H bS R a v 3 (slm Measure.enc a.measures)) (hy : a.measures.l[i]? = some y) (hq : y.cells.l[j]? = some q) (hRS : bS ∉ R) :
    ∃ b1 o1 p1 z1 w b off cap ds, v = .slice b1 o1 a.measures.l.length p1 22 ∧ H.cells b1 = some z1 ∧ z1[o1 + i * 22 + 21]? = some w ∧ b1 ∈ R ∧ w = .slice b off y.cells.l.length cap 2 ∧ H.cells b = some ds ∧ off + j * 2 + 2 ≤ ds.length ∧ b ∈ R ∧ ∀ (x : Cell) H1 ws g, (∀ c ∈ R, H1.cells c = H.cells c) → H1.cells bS = H.cells bS → ws.length = 2 → OwnL (OwnX false 5) H1 ws x.enc.cells g → (∀ c ∈ g, c ∉ R) →
      OwnScore (H1.put b (some (.cells (splice ds (off + j * 2) ws)))) bS (R ++ g) (a.setM i (y.setC j x)) := by
  obtain ⟨f, h1, h2, h3⟩ := h
  obtain ⟨b1, o1, p1, z1, w1, f1, a1, a2, a3, a4, a5, a6, a7, a8, a9⟩ := own_step row_Measure (by decide) h1 hy (show (Measure.enc y).cells[21]? = some (slm Cell.enc y.cells) from rfl)
  obtain ⟨b, off, cap, ds, e1, e2, e3, e4, e5⟩ := store_fin (g1 := f) (v := v) row_Cell (by decide) a5 hq a6 h2 hRS
  exact ⟨b1, o1, p1, z1, w1, b, off, cap, ds, a1, a2, a4, h2 _ a7, e1, e2, e3, e4, fun x => e5 x _ _ (a9 _ (y.setC j x) rfl) (h3 (a.setM i (y.setC j x)) _ rfl)⟩
end
/-- What the change of a score does. -/
def Chg (pol : Pol) (g : FuncId) (cap : List AV) (H0 : AHeap) (s a : Score) : Prop := ∀ (H : AHeap) (q : Nat) (R : List Nat), Keep H0.next H0 H → H0.next ≤ q → q < H.next → q ∉ R → (∀ b ∈ R, H0.next ≤ b ∧ b < H.next) → OwnScore H q R s.cl →
  Ev prog pol (.call g ([.ptr q 0] ++ cap)) H fun o H' => ∃ v R', o = .val v ∧ OwnScore H' q R' a ∧ (∀ b ∈ R', b ∈ R ∨ H.next ≤ b) ∧ (∀ b, b < H.next → b ∉ R → H'.cells b = H.cells b) ∧ H.next ≤ H'.next
theorem with_ok (hp : PrPol pol) (h29 : pol.pure 29 = true) (s : Score) (hx : s.tame) (a : Score) (ha : a.tame) (hT : Tame a) (l : List Part) (hl : a.parts = some l) (H0 : AHeap) (g : FuncId) (cap : List AV) (hg : pol.pure g = false) (hcal : ∀ args, acallee prog g args = some (.call g args)) (hchg : Chg pol g cap H0 s a) :
    Ev prog pol (.call 93 [s.enc, .func (.func g) [] cap]) H0 fun o H' => o = .val a.pr.enc ∧ Keep H0.next H0 H' := by
  refine (wpF_ok ok93 (Q := fun v H' => v = a.pr.enc ∧ Keep H0.next H0 H') ?_).mono ?_
  rotate_left
  · rintro o H' ⟨v, rfl, rfl, h⟩
    exact ⟨rfl, h⟩
  generalize hn0 : H0.next = n
  simp -implicitDefEqProofs (maxDischargeDepth := 12) only [wpF, cf93, WW,List.replicate,e_splice,if_true,if_false,ite_true,ite_false,true_or,ne_eq,Nat.reduceAdd,Nat.reduceSub,Nat.reduceMul,Nat.reduceLeDiff,Nat.reduceEqDiff,Nat.reduceGT,Nat.reduceLT,Int.reduceLE,Int.reduceLT,Int.reduceToNat,Int.reduceAdd,reduceCtorEq,h_putc,beq_self_eq_true,eq_self,exists_eq_left,exists_eq_left', s.enc_eq, hn0, nq1, mq1, addq, nq2, mq2, mq12, mq21]
  rw [← s.enc_eq]
  refine wA_call (hp.1 _ (by decide)) ((sClone_ok hp.1 s hx _).mono ?_)
  rintro o H1 ⟨cs, fp, rfl, ho, hlen, hones, hF, hN, hK⟩
  refine ⟨_, rfl, by simp only [k_nil], ?_⟩
  simp only [AHeap.next_alloc, hn0] at hF hN hK
  have g1 : H1.cells (n + 1) = some [.sc (.str ⟨#[]⟩), .sc (.bool false), .sc .nils, .sc .nils, .sc .nils, .sc .nils] := (hK (n + 1) (by omega)).trans (by simp -implicitDefEqProofs (maxDischargeDepth := 12) only [WW,List.replicate,e_splice,if_true,if_false,ite_true,ite_false,true_or,ne_eq,Nat.reduceAdd,Nat.reduceSub,Nat.reduceMul,Nat.reduceLeDiff,Nat.reduceEqDiff,Nat.reduceGT,Nat.reduceLT,Int.reduceLE,Int.reduceLT,Int.reduceToNat,Int.reduceAdd,reduceCtorEq,h_putc,beq_self_eq_true,eq_self,exists_eq_left,exists_eq_left', hn0])
  have hK1 : Keep n H0 H1 := fun b hb => by rw [hK b (by omega), c_alloc_ne (by simp only [AHeap.next_alloc, hn0]; omega), c_alloc_ne (by omega)]
  generalize hq : H1.next = q
  have hlt := ho.lts
  have hsp : splice [.sc (.str ⟨#[]⟩), .sc (.bool false), .sc .nils, .sc .nils, .sc .nils, .sc .nils] 0 cs = cs := splice_full hlen.symm
  simp -implicitDefEqProofs (maxDischargeDepth := 12) only [WW,List.replicate,if_true,if_false,ite_true,ite_false,true_or,ne_eq,Nat.reduceAdd,Nat.reduceSub,Nat.reduceMul,Nat.reduceLeDiff,Nat.reduceEqDiff,Nat.reduceGT,Nat.reduceLT,Int.reduceLE,Int.reduceLT,Int.reduceToNat,Int.reduceAdd,reduceCtorEq,beq_self_eq_true,eq_self,exists_eq_left,exists_eq_left', hones, hlen, hq, hsp]
  rw [e_callf, hcal]
  generalize hH2 : AHeap.put _ q _ = H2
  have n2 : H2.next = q + 1 := by subst hH2; simp only [AHeap.next_put, AHeap.next_alloc, hq]
  have a0 : ∀ b, b < q → H2.cells b = H1.cells b := fun b hb => by
    subst hH2
    rw [c_put_ne (by omega), c_alloc_ne (by omega)]
  have aq : H2.cells q = some cs := by
    subst hH2
    refine h_put_self (y := [.sc (.str ⟨#[]⟩), .sc (.bool false), .sc .nils, .sc .nils, .sc .nils, .sc .nils]) ?_
    rw [h_alloc, if_pos hq.symm]
  clear hH2
  have hfl : ∀ b ∈ fp, n + 2 ≤ b ∧ b < q := fun b hb => ⟨hF b hb, by have := hlt b hb; omega⟩
  refine wA_call hg ((hchg H2 q fp (fun b hb => by rw [a0 b (by omega), hK1 b (by omega)]) (by omega) (by omega) (fun h => by have := hfl _ h; omega) (fun b hb => by have := hfl b hb; omega) ⟨cs, fp, aq, ho.fr fun b hb => a0 b (hfl b hb).2, fun _ h => h⟩).mono ?_)
  rintro o H3 ⟨v, R', rfl, ⟨cs3, fp3, hS3, ho3, hR3⟩, x2, x3, x4⟩
  refine ⟨_, rfl, by simp only [k_nil], ?_⟩
  have hfp3 : ∀ b ∈ fp3, n + 2 ≤ b ∧ b ≠ q := fun b hb => by
    rcases x2 b (hR3 b hb) with h | h
    · have := hfl b h; omega
    · omega
  have z1 : H3.cells (n + 1) = _ := ((x3 (n + 1) (by omega) (fun h => by have := hfl _ h; omega)).trans (a0 _ (by omega))).trans g1
  have hl3 := ho3.len
  have hl3 : cs3.length = 6 := hl3
  have hcs3 : List.take 6 cs3 = cs3 := List.take_of_length_le (by omega)
  have hle3 : 6 ≤ cs3.length := by omega
  simp -implicitDefEqProofs (maxDischargeDepth := 12) only [WW,List.replicate,e_splice,if_true,if_false,ite_true,ite_false,true_or,ne_eq,Nat.reduceAdd,Nat.reduceSub,Nat.reduceMul,Nat.reduceLeDiff,Nat.reduceEqDiff,Nat.reduceGT,Nat.reduceLT,Int.reduceLE,Int.reduceLT,Int.reduceToNat,Int.reduceAdd,reduceCtorEq,h_putc,beq_self_eq_true,eq_self,exists_eq_left,exists_eq_left', hS3, hcs3, hle3]
  have o1 : Own 20 H3 (.agg cs3) a.enc fp3 := ⟨_, rfl, ho3.le fun _ _ _ a => (a.up).mono (by decide)⟩
  have hcl : AV.closedBs cs3 = false := by
    obtain ⟨v2, v3, v4, v5, f2, f3, f4, f5, rfl, c2, c3, c4, c5, s2, s3, s4, s5⟩ := own6 ho3
    rw [hl] at c2
    simp only [AV.closedBs, AV.closedB, own_some c2, Bool.false_and, Bool.and_false]
  refine wA_pvf h29 (pvf_ownA (fp := fp3 ++ []) (by simp only [AV.closedBs, AV.closedB, hcl, Bool.false_and]) (.cons o1 .nil Apart.nil_right) (prune_pv hp a ha hT) fun H4 hless => ?_)
  rw [List.append_nil] at hless
  refine ⟨by simp only [k_nil], ?_⟩
  have z4 := (cells_of_get (hless (n + 1) (fun h => by have := hfp3 _ h; omega))).trans z1
  have k4 : Keep n H0 H4 := fun b hb => by rw [cells_of_get (hless b (fun h => by have := hfp3 _ h; omega)), x3 b (by omega) (fun h => by have := hfl _ h; omega), a0 b (by omega), hK1 b hb]
  simp -implicitDefEqProofs (maxDischargeDepth := 12) only [WW,List.replicate,e_splice,if_true,if_false,ite_true,ite_false,true_or,ne_eq,Nat.reduceAdd,Nat.reduceSub,Nat.reduceMul,Nat.reduceLeDiff,Nat.reduceEqDiff,Nat.reduceGT,Nat.reduceLT,Int.reduceLE,Int.reduceLT,Int.reduceToNat,Int.reduceAdd,reduceCtorEq,h_putc,beq_self_eq_true,eq_self,exists_eq_left,exists_eq_left', z4, a.pr.enc_eq]
  exact k4.put (by omega)
end Go.Hem
/- Walks: SetMeasure and SetCell. -/
set_option maxRecDepth 10000
set_option maxHeartbeats 4000000
set_option linter.unusedSimpArgs false
set_option linter.unusedVariables false
namespace Go.Hem
variable {pol : Pol}
def Score.none : Score := ⟨⟨#[]⟩, false, Option.none, Option.none, Option.none, Option.none⟩
def okAV (s : Score) : AV := .tup [s.enc, .sc (.int .i64 0)]
def erAV (e : Int) : AV := .tup [Score.none.enc, .sc (.int .i64 e)]
theorem cl_at {s : Score} {i : Nat} {y : Measure} (hy : s.measures.l[i]? = some y) : s.cl.measures.l[i]? = some y.cl := by
  show (s.measures.l.map Measure.cl)[i]? = _
  rw [List.getElem?_map, hy]; rfl
theorem cl_at2 {y : Measure} {j : Nat} {c : Cell} (hc : y.cells.l[j]? = some c) : y.cl.cells.l[j]? = some c.cl := by
  have e : y.cl.cells.l = y.cells.l.map Cell.cl := l_of
  rw [e, List.getElem?_map, hc]; rfl
theorem chg_setm (hc : ClPol pol) {H0 : AHeap} {s : Score} {m : Measure} {bm bi i : Nat} (hm : H0.cells bm = some m.enc.cells) (hi : H0.cells bi = some [.sc (.int .i64 i)]) (hmt : m.tame) {y : Measure} (hy : s.measures.l[i]? = some y) : Chg pol 94 [.ptr bm 0, .ptr bi 0] H0 s (s.cl.setM i m.cl) := by
  intro H q R hK hq1 hq2 hqR hR hO
  refine wpF_ok ok94 (Q := fun v H' => ∃ R', OwnScore H' q R' (s.cl.setM i m.cl) ∧ (∀ b ∈ R', b ∈ R ∨ H.next ≤ b) ∧ (∀ b, b < H.next → b ∉ R → H'.cells b = H.cells b) ∧ H.next ≤ H'.next) ?_ |>.mono ?_
  rotate_left
  · rintro o H' ⟨v, rfl, R', h⟩; exact ⟨v, R', rfl, h⟩
  have b1 := h_lt hm
  have b2 := h_lt hi
  have c1 := hK.cells hm b1
  have c2 := hK.cells hi b2
  obtain ⟨v2, v3, v4, v5, hS, F2, F3, F4, F5⟩ := own_open hO
  obtain ⟨b, off, cap, ds, rfl, hd, hle, hbR, hst⟩ := store_measure F3 (cl_at hy) hqR
  have hlm : i < s.cl.measures.l.length := (List.getElem?_eq_some_iff.1 (cl_at hy)).1
  simp only [m.enc_eq, c_agg] at c1
  simp -implicitDefEqProofs (maxDischargeDepth := 12) only [wpF, cf94, WW,List.replicate,e_splice,if_true,if_false,ite_true,ite_false,true_or,ne_eq,Nat.reduceAdd,Nat.reduceSub,Nat.reduceMul,Nat.reduceLeDiff,Nat.reduceEqDiff,Nat.reduceGT,Nat.reduceLT,Int.reduceLE,Int.reduceLT,Int.reduceToNat,Int.reduceAdd,reduceCtorEq,h_putc,beq_self_eq_true,eq_self,exists_eq_left,exists_eq_left', hS, c1, c2]
  rw [← m.enc_eq]
  refine wA_call (hc _ (by decide)) ((mClone_ok hc m hmt _).mono ?_)
  rintro o H1 ⟨ws, g, rfl, ho, hlen, hones, hF, hN, hK1⟩
  refine ⟨_, rfl, ?_⟩
  have d1 := hK1.cells hS hq2
  have d2 := hK1.cells c2 (h_lt c2)
  have d3 := hK1.cells hd (h_lt hd)
  simp -implicitDefEqProofs (maxDischargeDepth := 12) only [WW,List.replicate,if_true,if_false,ite_true,ite_false,true_or,ne_eq,Nat.reduceAdd,Nat.reduceSub,Nat.reduceMul,Nat.reduceLeDiff,Nat.reduceEqDiff,Nat.reduceGT,Nat.reduceLT,Int.reduceLE,Int.reduceLT,Int.reduceToNat,Int.reduceAdd,reduceCtorEq,beq_self_eq_true,eq_self,exists_eq_left,exists_eq_left', hS, c2, d1, d2, d3, hlm, hle, hlen, hones, cr_nil]
  have hg : ∀ c ∈ g, c ∉ R := fun c hcg hcR => by have := hF c hcg; have := (hR c hcR).2; omega
  refine ⟨R ++ g, hst m.cl H1 ws g (fun c hcR => hK1 c (hR c hcR).2) (hK1 q hq2) hlen (OwnL.mono ho (by decide)) hg, fun c hcR => ?_, fun c hc2 hcR => ?_, hN⟩
  · rcases List.mem_append.1 hcR with h | h
    · exact .inl h
    · exact .inr (hF c h)
  · have hcb : c ≠ b := by rintro rfl; exact hcR hbR
    rw [c_put_ne hcb, hK1 c hc2]
theorem chg_setc (hc : ClPol pol) {H0 : AHeap} {s : Score} {c : Cell} {bc bi bj i j : Nat} (hm : H0.cells bc = some c.enc.cells) (hi : H0.cells bi = some [.sc (.int .i64 i)]) (hj : H0.cells bj = some [.sc (.int .i64 j)]) (hct : c.tame) {y : Measure} {z : Cell} (hy : s.measures.l[i]? = some y) (hz : y.cells.l[j]? = some z) : Chg pol 95 [.ptr bc 0, .ptr bi 0, .ptr bj 0] H0 s (s.cl.setM i (y.cl.setC j c.cl)) := by
  intro H q R hK hq1 hq2 hqR hR hO
  refine wpF_ok ok95 (Q := fun v H' => ∃ R', OwnScore H' q R' (s.cl.setM i (y.cl.setC j c.cl)) ∧ (∀ b ∈ R', b ∈ R ∨ H.next ≤ b) ∧ (∀ b, b < H.next → b ∉ R → H'.cells b = H.cells b) ∧ H.next ≤ H'.next) ?_ |>.mono ?_
  rotate_left
  · rintro o H' ⟨v, rfl, R', h⟩; exact ⟨v, R', rfl, h⟩
  have c1 := hK.cells hm (h_lt hm)
  have c2 := hK.cells hi (h_lt hi)
  have c3 := hK.cells hj (h_lt hj)
  obtain ⟨v2, v3, v4, v5, hS, F2, F3, F4, F5⟩ := own_open hO
  obtain ⟨b1, o1, p1, z1, w, b, off, cap, ds, rfl, hz1, hzw, hb1R, rfl, hd, hle, hbR, hst⟩ := store_cell F3 (cl_at hy) (cl_at2 hz) hqR
  have hlm : i < s.cl.measures.l.length := (List.getElem?_eq_some_iff.1 (cl_at hy)).1
  have hlc : j < y.cl.cells.l.length := (List.getElem?_eq_some_iff.1 (cl_at2 hz)).1
  simp only [c.enc_eq, c_agg] at c1
  simp -implicitDefEqProofs (maxDischargeDepth := 12) only [wpF, cf95, WW,List.replicate,e_splice,if_true,if_false,ite_true,ite_false,true_or,ne_eq,Nat.reduceAdd,Nat.reduceSub,Nat.reduceMul,Nat.reduceLeDiff,Nat.reduceEqDiff,Nat.reduceGT,Nat.reduceLT,Int.reduceLE,Int.reduceLT,Int.reduceToNat,Int.reduceAdd,reduceCtorEq,h_putc,beq_self_eq_true,eq_self,exists_eq_left,exists_eq_left', hS, c1, c2, c3, hz1, hzw, hlm]
  rw [← c.enc_eq]
  refine wA_call (hc _ (by decide)) ((cClone_ok hc c hct _).mono ?_)
  rintro o H1 ⟨ws, g, rfl, ho, hlen, hones, hF, hN, hK1⟩
  refine ⟨_, rfl, ?_⟩
  have d1 := hK1.cells hS hq2
  have d2 := hK1.cells c2 (h_lt c2)
  have d3 := hK1.cells hd (h_lt hd)
  have d4 := hK1.cells c3 (h_lt c3)
  have d5 := hK1.cells hz1 (h_lt hz1)
  simp -implicitDefEqProofs (maxDischargeDepth := 12) only [WW,List.replicate,if_true,if_false,ite_true,ite_false,true_or,ne_eq,Nat.reduceAdd,Nat.reduceSub,Nat.reduceMul,Nat.reduceLeDiff,Nat.reduceEqDiff,Nat.reduceGT,Nat.reduceLT,Int.reduceLE,Int.reduceLT,Int.reduceToNat,Int.reduceAdd,reduceCtorEq,beq_self_eq_true,eq_self,exists_eq_left,exists_eq_left', hS, c2, c3, d1, d2, d3, d4, d5, hz1, hzw, hlm, hlc, hle, hlen, hones, cr_nil]
  have hg : ∀ c ∈ g, c ∉ R := fun c hcg hcR => by have := hF c hcg; have := (hR c hcR).2; omega
  refine ⟨R ++ g, hst c.cl H1 ws g (fun c hcR => hK1 c (hR c hcR).2) (hK1 q hq2) hlen (OwnL.mono ho (by decide)) hg, fun c hcR => ?_, fun c hc2 hcR => ?_, hN⟩
  · rcases List.mem_append.1 hcR with h | h
    · exact .inl h
    · exact .inr (hF c h)
  · have hcb : c ≠ b := by rintro rfl; exact hcR hbR
    rw [c_put_ne hcb, hK1 c hc2]
theorem callee94 (args : List AV) : acallee prog 94 args = some (.call 94 args) := by kernel_rfl
theorem callee95 (args : List AV) : acallee prog 95 args = some (.call 95 args) := by kernel_rfl
theorem plain_er (e : Int) : (erAV e).plain = true := rfl
theorem plain_ok (s : Score) : (okAV s).plain = true := by
  show ([s.enc, AV.sc (.int .i64 0)].all AV.plain2) = true
  simp only [List.all_cons, List.all_nil, s.enc_plain, Bool.true_and, Bool.and_true]; rfl
theorem setm_er (s : Score) (i : Int) (m : Measure) (h : i < 0 ∨ (s.measures.l.length : Int) ≤ i) : Pv prog pol 42 [s.enc, .sc (.int .i64 i), m.enc] (erAV 2) := by
  refine Pv_of' ok42 (by simp only [AV.closedBs, Score.enc_closed, Measure.enc_closed, AV.closedB, Bool.and_self]) ?_
  by_cases h0 : i < 0
  · simp -implicitDefEqProofs (maxDischargeDepth := 12) only [wpF, cf42, WW,List.replicate,e_splice,if_true,if_false,ite_true,ite_false,true_or,ne_eq,Nat.reduceAdd,Nat.reduceSub,Nat.reduceMul,Nat.reduceLeDiff,Nat.reduceEqDiff,Nat.reduceGT,Nat.reduceLT,Int.reduceLE,Int.reduceLT,Int.reduceToNat,Int.reduceAdd,reduceCtorEq,h_putc,beq_self_eq_true,eq_self,exists_eq_left,exists_eq_left', s.enc_eq, m.enc_eq, h0]
    exact frz_plain rfl (plain_er 2)
  · have h1 : (s.measures.l.length : Int) ≤ i := by omega
    simp -implicitDefEqProofs (maxDischargeDepth := 12) only [wpF, cf42, WW,List.replicate,e_splice,if_true,if_false,ite_true,ite_false,true_or,ne_eq,Nat.reduceAdd,Nat.reduceSub,Nat.reduceMul,Nat.reduceLeDiff,Nat.reduceEqDiff,Nat.reduceGT,Nat.reduceLT,Int.reduceLE,Int.reduceLT,Int.reduceToNat,Int.reduceAdd,reduceCtorEq,h_putc,beq_self_eq_true,eq_self,exists_eq_left,exists_eq_left', s.enc_eq, m.enc_eq, h0, h1]
    exact frz_plain rfl (plain_er 2)
theorem setm_le (h23 : pol.pure 23 = true) (s : Score) (hst : stavesOf s.parts.l < 1000000) (hpl : s.parts.l.length < 1000000) (i : Nat) (hi : i < s.measures.l.length) (m : Measure) (h : m.cells.l.length ≠ stavesOf s.parts.l) : Pv prog pol 42 [s.enc, .sc (.int .i64 i), m.enc] (erAV 20) := by
  refine Pv_of' ok42 (by simp only [AV.closedBs, Score.enc_closed, Measure.enc_closed, AV.closedB, Bool.and_self]) ?_
  have h0 : ¬ (i : Int) < 0 := by omega
  have h1 : ¬ (s.measures.l.length : Int) ≤ (i : Int) := by omega
  have h2 : ¬ (m.cells.l.length : Int) = (stavesOf s.parts.l : Int) := by omega
  simp -implicitDefEqProofs (maxDischargeDepth := 12) only [wpF, cf42, WW,List.replicate,e_splice,if_true,if_false,ite_true,ite_false,true_or,ne_eq,Nat.reduceAdd,Nat.reduceSub,Nat.reduceMul,Nat.reduceLeDiff,Nat.reduceEqDiff,Nat.reduceGT,Nat.reduceLT,Int.reduceLE,Int.reduceLT,Int.reduceToNat,Int.reduceAdd,reduceCtorEq,h_putc,beq_self_eq_true,eq_self,exists_eq_left,exists_eq_left', s.enc_eq, m.enc_eq, h0, h1]
  rw [← s.enc_eq]
  refine wA_pure h23 (staves_pv s hst hpl) ?_
  simp -implicitDefEqProofs (maxDischargeDepth := 12) only [WW,List.replicate,e_splice,if_true,if_false,ite_true,ite_false,true_or,ne_eq,Nat.reduceAdd,Nat.reduceSub,Nat.reduceMul,Nat.reduceLeDiff,Nat.reduceEqDiff,Nat.reduceGT,Nat.reduceLT,Int.reduceLE,Int.reduceLT,Int.reduceToNat,Int.reduceAdd,reduceCtorEq,h_putc,beq_self_eq_true,eq_self,exists_eq_left,exists_eq_left', h2]
  exact frz_plain rfl (plain_er 20)
theorem setm_ok (hp : PrPol pol) (h23 : pol.pure 23 = true) (h29 : pol.pure 29 = true) (h93 : pol.pure 93 = false) (h94 : pol.pure 94 = false) (s : Score) (hs : s.tame) (hT : Tame s) (i : Nat) (hi : i < s.measures.l.length) (m : Measure) (hm : m.tame) (h : m.cells.l.length = stavesOf s.parts.l)
    (ha : (s.cl.setM i m.cl).tame) (hTa : Tame (s.cl.setM i m.cl)) : Pv prog pol 42 [s.enc, .sc (.int .i64 i), m.enc] (okAV (s.cl.setM i m.cl).pr) := by
  refine Pv_of' ok42 (by simp only [AV.closedBs, Score.enc_closed, Measure.enc_closed, AV.closedB, Bool.and_self]) ?_
  have h0 : ¬ (i : Int) < 0 := by omega
  have h1 : ¬ (s.measures.l.length : Int) ≤ (i : Int) := by omega
  have h2 : (m.cells.l.length : Int) = (stavesOf s.parts.l : Int) := by omega
  obtain ⟨y, hy⟩ : ∃ y, s.measures.l[i]? = some y := ⟨_, List.getElem?_eq_getElem hi⟩
  simp -implicitDefEqProofs (maxDischargeDepth := 12) only [wpF, cf42, WW,List.replicate,e_splice,if_true,if_false,ite_true,ite_false,true_or,ne_eq,Nat.reduceAdd,Nat.reduceSub,Nat.reduceMul,Nat.reduceLeDiff,Nat.reduceEqDiff,Nat.reduceGT,Nat.reduceLT,Int.reduceLE,Int.reduceLT,Int.reduceToNat,Int.reduceAdd,reduceCtorEq,h_putc,beq_self_eq_true,eq_self,exists_eq_left,exists_eq_left', s.enc_eq, m.enc_eq, h0, h1]
  rw [← s.enc_eq]
  refine wA_pure h23 (staves_pv s hT.staves hT.parts) ?_
  simp -implicitDefEqProofs (maxDischargeDepth := 12) only [WW,List.replicate,e_splice,if_true,if_false,ite_true,ite_false,true_or,ne_eq,Nat.reduceAdd,Nat.reduceSub,Nat.reduceMul,Nat.reduceLeDiff,Nat.reduceEqDiff,Nat.reduceGT,Nat.reduceLT,Int.reduceLE,Int.reduceLT,Int.reduceToNat,Int.reduceAdd,reduceCtorEq,h_putc,beq_self_eq_true,eq_self,exists_eq_left,exists_eq_left', h2, s.enc_eq]
  rw [← s.enc_eq]
  refine wA_call h93 ((with_ok hp h29 s hs (s.cl.setM i m.cl) ha hTa s.parts.l rfl _ 94 _ h94 callee94 (chg_setm (bm := 2) (bi := 1) hp.1 ?_ ?_ hm hy)).mono ?_)
  · simp -implicitDefEqProofs (maxDischargeDepth := 12) only [WW,List.replicate,e_splice,if_true,if_false,ite_true,ite_false,true_or,ne_eq,Nat.reduceAdd,Nat.reduceSub,Nat.reduceMul,Nat.reduceLeDiff,Nat.reduceEqDiff,Nat.reduceGT,Nat.reduceLT,Int.reduceLE,Int.reduceLT,Int.reduceToNat,Int.reduceAdd,reduceCtorEq,h_putc,beq_self_eq_true,eq_self,exists_eq_left,exists_eq_left', m.enc_eq]
  · simp -implicitDefEqProofs (maxDischargeDepth := 12) only [WW,List.replicate,e_splice,if_true,if_false,ite_true,ite_false,true_or,ne_eq,Nat.reduceAdd,Nat.reduceSub,Nat.reduceMul,Nat.reduceLeDiff,Nat.reduceEqDiff,Nat.reduceGT,Nat.reduceLT,Int.reduceLE,Int.reduceLT,Int.reduceToNat,Int.reduceAdd,reduceCtorEq,h_putc,beq_self_eq_true,eq_self,exists_eq_left,exists_eq_left']
  rintro o H1 ⟨rfl, hK⟩
  refine ⟨_, rfl, by simp only [k_nil], ?_⟩
  have g3 : H1.cells 3 = some (Score.enc Score.none).cells := (hK 3 (by simp -implicitDefEqProofs (maxDischargeDepth := 12) only [WW,List.replicate,e_splice,if_true,if_false,ite_true,ite_false,true_or,ne_eq,Nat.reduceAdd,Nat.reduceSub,Nat.reduceMul,Nat.reduceLeDiff,Nat.reduceEqDiff,Nat.reduceGT,Nat.reduceLT,Int.reduceLE,Int.reduceLT,Int.reduceToNat,Int.reduceAdd,reduceCtorEq,h_putc,beq_self_eq_true,eq_self,exists_eq_left,exists_eq_left'])).trans (by simp -implicitDefEqProofs (maxDischargeDepth := 12) only [WW,List.replicate,e_splice,if_true,if_false,ite_true,ite_false,true_or,ne_eq,Nat.reduceAdd,Nat.reduceSub,Nat.reduceMul,Nat.reduceLeDiff,Nat.reduceEqDiff,Nat.reduceGT,Nat.reduceLT,Int.reduceLE,Int.reduceLT,Int.reduceToNat,Int.reduceAdd,reduceCtorEq,h_putc,beq_self_eq_true,eq_self,exists_eq_left,exists_eq_left']; rfl)
  simp only [Score.none, Score.enc_eq, c_agg] at g3
  simp -implicitDefEqProofs (maxDischargeDepth := 12) only [WW,List.replicate,e_splice,if_true,if_false,ite_true,ite_false,true_or,ne_eq,Nat.reduceAdd,Nat.reduceSub,Nat.reduceMul,Nat.reduceLeDiff,Nat.reduceEqDiff,Nat.reduceGT,Nat.reduceLT,Int.reduceLE,Int.reduceLT,Int.reduceToNat,Int.reduceAdd,reduceCtorEq,h_putc,beq_self_eq_true,eq_self,exists_eq_left,exists_eq_left', g3, (Score.pr _).enc_eq]
  exact frz_plain rfl (plain_ok _)
theorem setc_er (s : Score) (i j : Int) (c : Cell) (h : i < 0 ∨ (s.measures.l.length : Int) ≤ i) : Pv prog pol 43 [s.enc, .sc (.int .i64 i), .sc (.int .i64 j), c.enc] (erAV 2) := by
  refine Pv_of' ok43 (by simp only [AV.closedBs, Score.enc_closed, Cell.enc_closed, AV.closedB, Bool.and_self]) ?_
  by_cases h0 : i < 0
  · simp -implicitDefEqProofs (maxDischargeDepth := 12) only [wpF, cf43, WW,List.replicate,e_splice,if_true,if_false,ite_true,ite_false,true_or,ne_eq,Nat.reduceAdd,Nat.reduceSub,Nat.reduceMul,Nat.reduceLeDiff,Nat.reduceEqDiff,Nat.reduceGT,Nat.reduceLT,Int.reduceLE,Int.reduceLT,Int.reduceToNat,Int.reduceAdd,reduceCtorEq,h_putc,beq_self_eq_true,eq_self,exists_eq_left,exists_eq_left', s.enc_eq, c.enc_eq, h0]
    exact frz_plain rfl (plain_er 2)
  · have h1 : (s.measures.l.length : Int) ≤ i := by omega
    simp -implicitDefEqProofs (maxDischargeDepth := 12) only [wpF, cf43, WW,List.replicate,e_splice,if_true,if_false,ite_true,ite_false,true_or,ne_eq,Nat.reduceAdd,Nat.reduceSub,Nat.reduceMul,Nat.reduceLeDiff,Nat.reduceEqDiff,Nat.reduceGT,Nat.reduceLT,Int.reduceLE,Int.reduceLT,Int.reduceToNat,Int.reduceAdd,reduceCtorEq,h_putc,beq_self_eq_true,eq_self,exists_eq_left,exists_eq_left', s.enc_eq, c.enc_eq, h0, h1]
    exact frz_plain rfl (plain_er 2)
theorem setc_er2 (s : Score) (i : Nat) (j : Int) (c : Cell) {y : Measure} (hy : s.measures.l[i]? = some y) (h : j < 0 ∨ (y.cells.l.length : Int) ≤ j) : Pv prog pol 43 [s.enc, .sc (.int .i64 i), .sc (.int .i64 j), c.enc] (erAV 2) := by
  refine Pv_of' ok43 (by simp only [AV.closedBs, Score.enc_closed, Cell.enc_closed, AV.closedB, Bool.and_self]) ?_
  have hl := (List.getElem?_eq_some_iff.1 hy).1
  have h0 : ¬ (i : Int) < 0 := by omega
  have h1 : ¬ (s.measures.l.length : Int) ≤ (i : Int) := by omega
  by_cases h2 : j < 0
  · simp -implicitDefEqProofs (maxDischargeDepth := 12) only [wpF, cf43, WW,List.replicate,e_splice,if_true,if_false,ite_true,ite_false,true_or,ne_eq,Nat.reduceAdd,Nat.reduceSub,Nat.reduceMul,Nat.reduceLeDiff,Nat.reduceEqDiff,Nat.reduceGT,Nat.reduceLT,Int.reduceLE,Int.reduceLT,Int.reduceToNat,Int.reduceAdd,reduceCtorEq,h_putc,beq_self_eq_true,eq_self,exists_eq_left,exists_eq_left', s.enc_eq, c.enc_eq, h0, h1, h2]
    exact frz_plain rfl (plain_er 2)
  · have h3 : (y.cells.l.length : Int) ≤ j := by omega
    simp -implicitDefEqProofs (maxDischargeDepth := 12) only [wpF, cf43, WW,List.replicate,e_splice,if_true,if_false,ite_true,ite_false,true_or,ne_eq,Nat.reduceAdd,Nat.reduceSub,Nat.reduceMul,Nat.reduceLeDiff,Nat.reduceEqDiff,Nat.reduceGT,Nat.reduceLT,Int.reduceLE,Int.reduceLT,Int.reduceToNat,Int.reduceAdd,reduceCtorEq,h_putc,beq_self_eq_true,eq_self,exists_eq_left,exists_eq_left', s.enc_eq, c.enc_eq, h0, h1, h2, hy, y.enc_eq, h3]
    exact frz_plain rfl (plain_er 2)
theorem setc_ok (hp : PrPol pol) (h29 : pol.pure 29 = true) (h93 : pol.pure 93 = false) (h95 : pol.pure 95 = false) (s : Score) (hs : s.tame) (hT : Tame s) (i j : Nat) {y : Measure} (hy : s.measures.l[i]? = some y) (hj : j < y.cells.l.length) (c : Cell) (hc : c.tame)
    (ha : (s.cl.setM i (y.cl.setC j c.cl)).tame) (hTa : Tame (s.cl.setM i (y.cl.setC j c.cl))) : Pv prog pol 43 [s.enc, .sc (.int .i64 i), .sc (.int .i64 j), c.enc] (okAV (s.cl.setM i (y.cl.setC j c.cl)).pr) := by
  refine Pv_of' ok43 (by simp only [AV.closedBs, Score.enc_closed, Cell.enc_closed, AV.closedB, Bool.and_self]) ?_
  have hl := (List.getElem?_eq_some_iff.1 hy).1
  have h0 : ¬ (i : Int) < 0 := by omega
  have h1 : ¬ (s.measures.l.length : Int) ≤ (i : Int) := by omega
  have h2 : ¬ (j : Int) < 0 := by omega
  have h3 : ¬ (y.cells.l.length : Int) ≤ (j : Int) := by omega
  obtain ⟨z, hz⟩ : ∃ z, y.cells.l[j]? = some z := ⟨_, List.getElem?_eq_getElem hj⟩
  simp -implicitDefEqProofs (maxDischargeDepth := 12) only [wpF, cf43, WW,List.replicate,e_splice,if_true,if_false,ite_true,ite_false,true_or,ne_eq,Nat.reduceAdd,Nat.reduceSub,Nat.reduceMul,Nat.reduceLeDiff,Nat.reduceEqDiff,Nat.reduceGT,Nat.reduceLT,Int.reduceLE,Int.reduceLT,Int.reduceToNat,Int.reduceAdd,reduceCtorEq,h_putc,beq_self_eq_true,eq_self,exists_eq_left,exists_eq_left', s.enc_eq, c.enc_eq, h0, h1, h2, hy, y.enc_eq, h3]
  rw [← s.enc_eq]
  refine wA_call h93 ((with_ok hp h29 s hs (s.cl.setM i (y.cl.setC j c.cl)) ha hTa s.parts.l rfl _ 95 _ h95 callee95 (chg_setc (bc := 3) (bi := 1) (bj := 2) hp.1 ?_ ?_ ?_ hc hy hz)).mono ?_)
  · simp -implicitDefEqProofs (maxDischargeDepth := 12) only [WW,List.replicate,e_splice,if_true,if_false,ite_true,ite_false,true_or,ne_eq,Nat.reduceAdd,Nat.reduceSub,Nat.reduceMul,Nat.reduceLeDiff,Nat.reduceEqDiff,Nat.reduceGT,Nat.reduceLT,Int.reduceLE,Int.reduceLT,Int.reduceToNat,Int.reduceAdd,reduceCtorEq,h_putc,beq_self_eq_true,eq_self,exists_eq_left,exists_eq_left', c.enc_eq]
  · simp -implicitDefEqProofs (maxDischargeDepth := 12) only [WW,List.replicate,e_splice,if_true,if_false,ite_true,ite_false,true_or,ne_eq,Nat.reduceAdd,Nat.reduceSub,Nat.reduceMul,Nat.reduceLeDiff,Nat.reduceEqDiff,Nat.reduceGT,Nat.reduceLT,Int.reduceLE,Int.reduceLT,Int.reduceToNat,Int.reduceAdd,reduceCtorEq,h_putc,beq_self_eq_true,eq_self,exists_eq_left,exists_eq_left']
  · simp -implicitDefEqProofs (maxDischargeDepth := 12) only [WW,List.replicate,e_splice,if_true,if_false,ite_true,ite_false,true_or,ne_eq,Nat.reduceAdd,Nat.reduceSub,Nat.reduceMul,Nat.reduceLeDiff,Nat.reduceEqDiff,Nat.reduceGT,Nat.reduceLT,Int.reduceLE,Int.reduceLT,Int.reduceToNat,Int.reduceAdd,reduceCtorEq,h_putc,beq_self_eq_true,eq_self,exists_eq_left,exists_eq_left']
  rintro o H1 ⟨rfl, hK⟩
  refine ⟨_, rfl, by simp only [k_nil], ?_⟩
  have g3 : H1.cells 4 = some (Score.enc Score.none).cells := (hK 4 (by simp -implicitDefEqProofs (maxDischargeDepth := 12) only [WW,List.replicate,e_splice,if_true,if_false,ite_true,ite_false,true_or,ne_eq,Nat.reduceAdd,Nat.reduceSub,Nat.reduceMul,Nat.reduceLeDiff,Nat.reduceEqDiff,Nat.reduceGT,Nat.reduceLT,Int.reduceLE,Int.reduceLT,Int.reduceToNat,Int.reduceAdd,reduceCtorEq,h_putc,beq_self_eq_true,eq_self,exists_eq_left,exists_eq_left'])).trans (by simp -implicitDefEqProofs (maxDischargeDepth := 12) only [WW,List.replicate,e_splice,if_true,if_false,ite_true,ite_false,true_or,ne_eq,Nat.reduceAdd,Nat.reduceSub,Nat.reduceMul,Nat.reduceLeDiff,Nat.reduceEqDiff,Nat.reduceGT,Nat.reduceLT,Int.reduceLE,Int.reduceLT,Int.reduceToNat,Int.reduceAdd,reduceCtorEq,h_putc,beq_self_eq_true,eq_self,exists_eq_left,exists_eq_left']; rfl)
  simp only [Score.none, Score.enc_eq, c_agg] at g3
  simp -implicitDefEqProofs (maxDischargeDepth := 12) only [WW,List.replicate,e_splice,if_true,if_false,ite_true,ite_false,true_or,ne_eq,Nat.reduceAdd,Nat.reduceSub,Nat.reduceMul,Nat.reduceLeDiff,Nat.reduceEqDiff,Nat.reduceGT,Nat.reduceLT,Int.reduceLE,Int.reduceLT,Int.reduceToNat,Int.reduceAdd,reduceCtorEq,h_putc,beq_self_eq_true,eq_self,exists_eq_left,exists_eq_left', g3, (Score.pr _).enc_eq]
  exact frz_plain rfl (plain_ok _)
end Go.Hem
/- Walks: score.Find. -/
set_option maxRecDepth 10000
set_option maxHeartbeats 4000000
set_option linter.unusedSimpArgs false
set_option linter.unusedVariables false
namespace Go.Hem
variable {pol : Pol}
end Go.Hem
/- The law ScoreObjects, by the interpreter. -/
set_option maxRecDepth 10000
set_option maxHeartbeats 4000000
set_option linter.unusedSimpArgs false
set_option linter.unusedVariables false
namespace Go.Hem
/-- What is short is tame. -/
theorem tame_short (s : Score) : Tame s.short := by
  have e1 : s.short.parts.l = (s.parts.l.take 4).map Part.short := l_of
  have e2 : s.short.measures.l = (s.measures.l.take 5).map Measure.short := l_of
  have len_map : ∀ {α : Type} {x : Sl α} {n : Nat}, Sl.l (x.map (·.take n)) = x.l.take n := by intro α x n; cases x <;> simp [Sl.l]
  have e3 : s.short.spanners.l = s.spanners.l.take 6 := len_map
  have mm : ∀ (m : Nat) y, s.short.measures.l[m]? = some y → ∃ x : Measure, y = x.short := by
    intro m y h
    rw [e2, List.getElem?_map] at h
    cases hx : (s.measures.l.take 5)[m]? with
    | none => rw [hx] at h; cases h
    | some x => rw [hx] at h; cases h; exact ⟨x, rfl⟩
  have cc : ∀ (x : Measure) (c : Nat) q, x.short.cells.l[c]? = some q → ∃ y : Cell, q = y.short := by
    intro x c q h
    rw [show x.short.cells.l = (x.cells.l.take 6).map Cell.short from l_of, List.getElem?_map] at h
    cases hx : (x.cells.l.take 6)[c]? with
    | none => rw [hx] at h; cases h
    | some x => rw [hx] at h; cases h; exact ⟨x, rfl⟩
  have vv : ∀ (x : Cell) (c : Nat) q, x.short.voices.l[c]? = some q → ∃ y : Voice, q = y.short := by
    intro x c q h
    rw [show x.short.voices.l = (x.voices.l.take 3).map Voice.short from l_of, List.getElem?_map] at h
    cases hx : (x.voices.l.take 3)[c]? with
    | none => rw [hx] at h; cases h
    | some x => rw [hx] at h; cases h; exact ⟨x, rfl⟩
  have b1 : ∀ x : Measure, x.short.cells.l.length ≤ 6 := fun x => by rw [show x.short.cells.l = (x.cells.l.take 6).map Cell.short from l_of]; simp; omega
  have b2 : ∀ x : Cell, x.short.voices.l.length ≤ 3 := fun x => by rw [show x.short.voices.l = (x.voices.l.take 3).map Voice.short from l_of]; simp; omega
  have b3 : ∀ x : Voice, x.short.events.l.length ≤ 5 := fun x => by rw [show x.short.events.l = (x.events.l.take 5).map Event.short from l_of]; simp; omega
  have b4 : ∀ x : Part, x.short.staves.l.length ≤ 3 := fun x => by rw [show x.short.staves.l = x.staves.l.take 3 from len_map]; simp; omega
  have l1 : ∀ (l : List Staff) st, (objStaves st l).length = l.length := by intro l; induction l with
    | nil => intro _; rfl
    | cons x l ih => intro st; simp [objStaves, ih]
  have l2 : ∀ (l : List Part) i st, (objParts i st (l.map Part.short)).length ≤ 4 * l.length := by intro l; induction l with
    | nil => intro _ _; simp [objParts]
    | cons x l ih => intro i st; have := ih (i + 1) (st + x.short.staves.l.length); have := b4 x; simp [objParts, l1]; omega
  have l3 : ∀ (l : List Event) m c v e, (objEvents m c v e l).length = l.length := by intro l; induction l with
    | nil => intro _ _ _ _; rfl
    | cons x l ih => intro m c v e; simp [objEvents, ih]
  have l4 : ∀ (l : List Voice) m c v, (objVoices m c v (l.map Voice.short)).length ≤ 5 * l.length := by intro l; induction l with
    | nil => intro _ _ _; simp [objVoices]
    | cons x l ih => intro m c v; have := ih m c (v + 1); have := b3 x; simp [objVoices, l3]; omega
  have l5 : ∀ (l : List Cell) m c, (objCells m c (l.map Cell.short)).length ≤ 15 * l.length := by intro l; induction l with
    | nil => intro _ _; simp [objCells]
    | cons x l ih =>
      intro m c; have h1 := ih m (c + 1); have h2 := l4 (x.voices.l.take 3) m c 0
      rw [← show x.short.voices.l = (x.voices.l.take 3).map Voice.short from l_of] at h2
      simp only [List.length_take] at h2
      simp only [List.map_cons, objCells, List.length_append, List.length_cons]; omega
  have l6 : ∀ (l : List Measure) m, (objMeasures m (l.map Measure.short)).length ≤ 91 * l.length := by intro l; induction l with
    | nil => intro _; simp [objMeasures]
    | cons x l ih =>
      intro m; have h1 := ih (m + 1); have h2 := l5 (x.cells.l.take 6) m 0
      rw [← show x.short.cells.l = (x.cells.l.take 6).map Cell.short from l_of] at h2
      simp only [List.length_take] at h2
      simp only [List.map_cons, objMeasures, List.length_append, List.length_cons]; omega
  have l7 : ∀ (l : List Spanner) i, (objSpanners i l).length = l.length := by intro l; induction l with
    | nil => intro _; rfl
    | cons x l ih => intro i; simp [objSpanners, ih]
  have b5 : stavesOf s.short.parts.l ≤ 12 := by
    have : ∀ l : List Part, stavesOf (l.map Part.short) ≤ 3 * l.length := by
      intro l; induction l with
      | nil => simp [stavesOf]
      | cons p l ih =>
        have e : stavesOf ((p :: l).map Part.short) = p.short.staves.l.length + stavesOf (l.map Part.short) := by simp [stavesOf]
        have := b4 p; simp only [List.length_cons]; omega
    rw [e1]; have := this (s.parts.l.take 4); simp only [List.length_take] at this; omega
  refine ⟨?_, by omega, by rw [e1]; simp; omega, by rw [e2]; simp; omega, by rw [e3]; simp; omega, ?_, ?_, ?_⟩
  · unfold objs
    have h2 := l2 (s.parts.l.take 4) 0 0
    have h6 := l6 (s.measures.l.take 5) 0
    rw [← e1] at h2
    rw [← e2] at h6
    simp only [List.length_take] at h2 h6
    simp only [List.length_append, l7, e3, List.length_take]; omega
  · intro m y h; obtain ⟨x, rfl⟩ := mm m y h; have := b1 x; omega
  · intro m y c q h h'; obtain ⟨x, rfl⟩ := mm m y h; obtain ⟨z, rfl⟩ := cc _ _ _ h'; have := b2 z; omega
  · intro m y c q v z h h' h''; obtain ⟨x, rfl⟩ := mm m y h; obtain ⟨u, rfl⟩ := cc _ _ _ h'; obtain ⟨w, rfl⟩ := vv _ _ _ h''; have := b3 w; omega
end Go.Hem
/- What is small is tame; what is equal up to the kind of an empty list. -/
set_option linter.unusedSimpArgs false
set_option linter.unusedVariables false
namespace Go.Hem
def Voice.small (v : Voice) : Prop := v.events.l.length ≤ 5 ∧ v.tuplets.l.length ≤ 10 ∧ ∀ e ∈ v.events.l, e.tame
def Cell.small (c : Cell) : Prop := c.clefs.l.length ≤ 10 ∧ c.voices.l.length ≤ 3 ∧ ∀ v ∈ c.voices.l, v.small
def Measure.small (m : Measure) : Prop := m.tempi.l.length ≤ 10 ∧ m.cells.l.length ≤ 50 ∧ ∀ c ∈ m.cells.l, c.small
structure Score.small (s : Score) : Prop where
  parts : s.parts.l.length ≤ 40
  staves : ∀ p ∈ s.parts.l, p.staves.l.length ≤ 10
  measures : s.measures.l.length ≤ 20
  meas : ∀ m ∈ s.measures.l, m.small
  spanners : s.spanners.l.length ≤ 10
  last : s.last.l.length ≤ 10
theorem Voice.small.tame {v : Voice} (h : v.small) : v.tame := ⟨by have := h.1; omega, by have := h.2.1; omega, h.2.2⟩
theorem Cell.small.tame {v : Cell} (h : v.small) : v.tame := ⟨by have := h.1; omega, by have := h.2.1; omega, fun v hv => (h.2.2 v hv).tame⟩
theorem Measure.small.tame {v : Measure} (h : v.small) : v.tame := ⟨by have := h.1; omega, by have := h.2.1; omega, fun v hv => (h.2.2 v hv).tame⟩
theorem Score.small.tame {s : Score} (h : s.small) : s.tame := by
  obtain ⟨h1, h2, h3, h4, h5, h6⟩ := h
  exact ⟨by omega, fun p hp => by have := h2 p hp; unfold Part.tame; omega, by omega, fun m hm => (h4 m hm).tame, by omega, by omega⟩
theorem len_staves : ∀ (l : List Staff) st, (objStaves st l).length = l.length
  | [], _ => rfl
  | x :: l, st => by simp [objStaves, len_staves l]
theorem len_parts : ∀ (l : List Part) i st, (∀ p ∈ l, p.staves.l.length ≤ 10) → (objParts i st l).length ≤ 11 * l.length
  | [], _, _, _ => by simp [objParts]
  | x :: l, i, st, h => by
    have := len_parts l (i + 1) (st + x.staves.l.length) fun p hp => h p (by simp [hp])
    have := h x (by simp)
    simp only [objParts, List.length_cons, List.length_append, len_staves]; omega
theorem len_events : ∀ (l : List Event) m c v e, (objEvents m c v e l).length = l.length
  | [], _, _, _, _ => rfl
  | x :: l, m, c, v, e => by simp [objEvents, len_events l]
theorem len_voices : ∀ (l : List Voice) m c v, (∀ p ∈ l, p.small) → (objVoices m c v l).length ≤ 5 * l.length
  | [], _, _, _, _ => by simp [objVoices]
  | x :: l, m, c, v, h => by
    have := len_voices l m c (v + 1) fun p hp => h p (by simp [hp])
    have := (h x (by simp)).1
    simp only [objVoices, List.length_append, List.length_cons, len_events]; omega
theorem len_cells : ∀ (l : List Cell) m c, (∀ p ∈ l, p.small) → (objCells m c l).length ≤ 15 * l.length
  | [], _, _, _ => by simp [objCells]
  | x :: l, m, c, h => by
    have := len_cells l m (c + 1) fun p hp => h p (by simp [hp])
    obtain ⟨_, h1, h2⟩ := h x (by simp)
    have := len_voices x.voices.l m c 0 h2
    simp only [objCells, List.length_append, List.length_cons]; omega
theorem len_measures : ∀ (l : List Measure) m, (∀ p ∈ l, p.small) → (objMeasures m l).length ≤ 751 * l.length
  | [], _, _ => by simp [objMeasures]
  | x :: l, m, h => by
    have := len_measures l (m + 1) fun p hp => h p (by simp [hp])
    obtain ⟨_, h1, h2⟩ := h x (by simp)
    have := len_cells x.cells.l m 0 h2
    simp only [objMeasures, List.length_append, List.length_cons]; omega
theorem len_spanners : ∀ (l : List Spanner) i, (objSpanners i l).length = l.length
  | [], _ => rfl
  | x :: l, i => by simp [objSpanners, len_spanners l]
theorem staves_le : ∀ l : List Part, (∀ p ∈ l, p.staves.l.length ≤ 10) → stavesOf l ≤ 10 * l.length
  | [], _ => by simp [stavesOf]
  | p :: l, h => by
    have := staves_le l fun q hq => h q (by simp [hq])
    have := h p (by simp)
    have e : stavesOf (p :: l) = p.staves.l.length + stavesOf l := by simp [stavesOf]
    simp only [List.length_cons]; omega
theorem Score.small.Tame {s : Score} (h : s.small) : Tame s := by
  obtain ⟨h1, h2, h3, h4, h5, h6⟩ := h
  refine ⟨?_, by have := staves_le _ h2; omega, by omega, by omega, by omega, fun m y hy => ?_, fun m y c q hy hq => ?_, fun m y c q v z hy hq hz => ?_⟩
  · have := len_parts _ 0 0 h2
    have := len_measures _ 0 h4
    have := len_spanners s.spanners.l 0
    simp only [objs, List.length_append]; omega
  · have := (h4 y (List.mem_of_getElem? hy)).2.1; omega
  · have := ((h4 y (List.mem_of_getElem? hy)).2.2 q (List.mem_of_getElem? hq)).2.1; omega
  · have := (((h4 y (List.mem_of_getElem? hy)).2.2 q (List.mem_of_getElem? hq)).2.2 z (List.mem_of_getElem? hz)).1; omega
theorem Voice.small_short (v : Voice) : v.short.small := by
  have e : v.short.events.l = (v.events.l.take 5).map Event.short := l_of
  have e2 : v.short.tuplets.l = v.tuplets.l.take 3 := sl_take_len
  refine ⟨by rw [e]; simp; omega, by rw [e2]; simp; omega, fun x hx => ?_⟩
  rw [e] at hx
  obtain ⟨w, _, rfl⟩ := List.mem_map.1 hx
  exact w.tame_short
theorem Cell.small_short (v : Cell) : v.short.small := by
  have e : v.short.voices.l = (v.voices.l.take 3).map Voice.short := l_of
  have e2 : v.short.clefs.l = v.clefs.l.take 3 := sl_take_len
  refine ⟨by rw [e2]; simp; omega, by rw [e]; simp; omega, fun x hx => ?_⟩
  rw [e] at hx
  obtain ⟨w, _, rfl⟩ := List.mem_map.1 hx
  exact w.small_short
theorem Measure.small_short (v : Measure) : v.short.small := by
  have e : v.short.cells.l = (v.cells.l.take 6).map Cell.short := l_of
  have e2 : v.short.tempi.l = v.tempi.l.take 3 := sl_take_len
  refine ⟨by rw [e2]; simp; omega, by rw [e]; simp; omega, fun x hx => ?_⟩
  rw [e] at hx
  obtain ⟨w, _, rfl⟩ := List.mem_map.1 hx
  exact w.small_short
theorem Score.small_short (s : Score) : s.short.small := by
  have e1 : s.short.parts.l = (s.parts.l.take 4).map Part.short := l_of
  have e2 : s.short.measures.l = (s.measures.l.take 5).map Measure.short := l_of
  have e3 : s.short.spanners.l = s.spanners.l.take 6 := sl_take_len
  have e4 : s.short.last.l = s.last.l.take 4 := sl_take_len
  refine ⟨by rw [e1]; simp; omega, fun p hp => ?_, by rw [e2]; simp; omega, fun m hm => ?_, by rw [e3, List.length_take]; omega, by rw [e4, List.length_take]; omega⟩
  · rw [e1] at hp
    obtain ⟨w, _, rfl⟩ := List.mem_map.1 hp
    have : w.short.staves.l = w.staves.l.take 3 := sl_take_len
    rw [this, List.length_take]; omega
  · rw [e2] at hm
    obtain ⟨w, _, rfl⟩ := List.mem_map.1 hm
    exact w.small_short
theorem Voice.small_cl {v : Voice} (h : v.small) : v.cl.small := by
  obtain ⟨h1, h2, h3⟩ := h
  have e1 : v.cl.events.l = v.events.l := l_of
  have e2 : v.cl.tuplets.l = v.tuplets.l := l_of
  exact ⟨by rw [e1]; exact h1, by rw [e2]; exact h2, by rw [e1]; exact h3⟩
theorem Cell.small_cl {v : Cell} (h : v.small) : v.cl.small := by
  obtain ⟨h1, h2, h3⟩ := h
  have e1 : v.cl.voices.l = v.voices.l.map Voice.cl := l_of
  refine ⟨h1, by rw [e1, List.length_map]; exact h2, fun x hx => ?_⟩
  rw [e1] at hx
  obtain ⟨w, hw, rfl⟩ := List.mem_map.1 hx
  exact Voice.small_cl (h3 w hw)
theorem Measure.small_cl {v : Measure} (h : v.small) : v.cl.small := by
  obtain ⟨h1, h2, h3⟩ := h
  have e1 : v.cl.cells.l = v.cells.l.map Cell.cl := l_of
  refine ⟨h1, by rw [e1, List.length_map]; exact h2, fun x hx => ?_⟩
  rw [e1] at hx
  obtain ⟨w, hw, rfl⟩ := List.mem_map.1 hx
  exact Cell.small_cl (h3 w hw)
theorem Score.small_cl {v : Score} (h : v.small) : v.cl.small := by
  obtain ⟨h1, h2, h3, h4, h5, h6⟩ := h
  have e1 : v.cl.measures.l = v.measures.l.map Measure.cl := rfl
  refine ⟨h1, h2, by rw [e1, List.length_map]; exact h3, fun x hx => ?_, h5, h6⟩
  rw [e1] at hx
  obtain ⟨w, hw, rfl⟩ := List.mem_map.1 hx
  exact Measure.small_cl (h4 w hw)
theorem mem_set' {α : Type} {l : List α} {i : Nat} {x y : α} (h : y ∈ l.set i x) : y ∈ l ∨ y = x := by
  rcases List.mem_or_eq_of_mem_set h with h | h
  · exact .inl h
  · exact .inr h
theorem Voice.small_set {v : Voice} (h : v.small) {i : Nat} {e : Event} (he : e.tame) : (v.setE i e).small := by
  obtain ⟨h1, h2, h3⟩ := h
  refine ⟨by show (v.events.l.set i e).length ≤ 5; rw [List.length_set]; exact h1, h2, fun x hx => ?_⟩
  rcases mem_set' (show x ∈ v.events.l.set i e from hx) with h | rfl
  · exact h3 x h
  · exact he
theorem Cell.small_set {v : Cell} (h : v.small) {i : Nat} {e : Voice} (he : e.small) : (v.setV i e).small := by
  obtain ⟨h1, h2, h3⟩ := h
  refine ⟨h1, by show (v.voices.l.set i e).length ≤ 3; rw [List.length_set]; exact h2, fun x hx => ?_⟩
  rcases mem_set' (show x ∈ v.voices.l.set i e from hx) with h | rfl
  · exact h3 x h
  · exact he
theorem Measure.small_set {v : Measure} (h : v.small) {i : Nat} {e : Cell} (he : e.small) : (v.setC i e).small := by
  obtain ⟨h1, h2, h3⟩ := h
  refine ⟨h1, by show (v.cells.l.set i e).length ≤ 50; rw [List.length_set]; exact h2, fun x hx => ?_⟩
  rcases mem_set' (show x ∈ v.cells.l.set i e from hx) with h | rfl
  · exact h3 x h
  · exact he
theorem Score.small_set {v : Score} (h : v.small) {i : Nat} {e : Measure} (he : e.small) : (v.setM i e).small := by
  obtain ⟨h1, h2, h3, h4, h5, h6⟩ := h
  refine ⟨h1, h2, by show (v.measures.l.set i e).length ≤ 20; rw [List.length_set]; exact h3, fun x hx => ?_, h5, h6⟩
  rcases mem_set' (show x ∈ v.measures.l.set i e from hx) with h | rfl
  · exact h4 x h
  · exact he
theorem Score.small_pr {v : Score} (h : v.small) : v.pr.small := by
  obtain ⟨h1, h2, h3, h4, h5, h6⟩ := Score.small_cl h
  refine ⟨h1, h2, h3, h4, ?_, h6⟩
  have e1 : v.pr.spanners.l = v.spanners.l.filter fun x => isEv (objs v) x.from_ && isEv (objs v) x.to := by
    show Sl.l (v.spanners.map _) = _
    cases v.spanners <;> rfl
  rw [e1]
  exact Nat.le_trans (List.length_filter_le _ _) h5
theorem Score.small_none : Score.none.small := by
  refine ⟨by decide, fun p hp => ?_, by decide, fun p hp => ?_, by decide, by decide⟩
  · simp [Score.none, Sl.l] at hp
  · simp [Score.none, Sl.l] at hp

/-! ### Equal up to the kind of an empty list -/
theorem objVoices_cn (m c : Nat) : ∀ (l : List Voice) (v : Nat), objVoices m c v (l.map Voice.cn) = objVoices m c v l
  | [], _ => rfl
  | x :: l, v => by
    have e : x.cn.events.l = x.events.l.map Event.cn := l_of
    have e2 : ∀ (l : List Event) i, objEvents m c v i (l.map Event.cn) = objEvents m c v i l := by
      intro l
      induction l with
      | nil => intro i; rfl
      | cons y l ih => intro i; simp only [List.map_cons, objEvents, ih]; rfl
    simp only [List.map_cons, objVoices, objVoices_cn m c l, e, e2]
theorem objCells_cn (m : Nat) : ∀ (l : List Cell) (c : Nat), objCells m c (l.map Cell.cn) = objCells m c l
  | [], _ => rfl
  | x :: l, c => by
    have e : x.cn.voices.l = x.voices.l.map Voice.cn := l_of
    simp only [List.map_cons, objCells, objCells_cn m l, e, objVoices_cn]
theorem objMeasures_cn : ∀ (l : List Measure) (m : Nat), objMeasures m (l.map Measure.cn) = objMeasures m l
  | [], _ => rfl
  | x :: l, m => by
    have e : x.cn.cells.l = x.cells.l.map Cell.cn := l_of
    have e2 : oMeasure m x.cn = oMeasure m x := rfl
    simp only [List.map_cons, objMeasures, objMeasures_cn l, e, e2, objCells_cn]
theorem objParts_cn : ∀ (l : List Part) (i st : Nat), objParts i st (l.map Part.cn) = objParts i st l
  | [], _, _ => rfl
  | x :: l, i, st => by
    have e : x.cn.staves.l = x.staves.l := l_of
    have e2 : oPart i x.cn = oPart i x := rfl
    simp only [List.map_cons, objParts, objParts_cn l, e, e2]
theorem objs_cn (s : Score) : objs s.cn = objs s := by
  have e : s.cn.measures.l = s.measures.l.map Measure.cn := l_of
  have e2 : s.cn.parts.l = s.parts.l.map Part.cn := l_of
  have e3 : s.cn.spanners.l = s.spanners.l := l_of
  unfold objs
  rw [e, e2, e3, objMeasures_cn, objParts_cn]
theorem pruned_cn (a : Score) : a.pruned.cn = { a.cn with spanners := Sl.of (a.cn.spanners.l.filter fun p => isEv (objs a.cn) p.from_ && isEv (objs a.cn) p.to) } := by
  have e3 : a.cn.spanners.l = a.spanners.l := l_of
  have e4 : a.pruned.spanners.l = a.spanners.l.filter fun p => isEv (objs a) p.from_ && isEv (objs a) p.to := l_of
  rw [objs_cn, e3]
  unfold Score.cn
  rw [e4]; rfl
theorem pruned_congr {a b : Score} (h : a.cn = b.cn) : a.pruned.cn = b.pruned.cn := by rw [pruned_cn, pruned_cn, h]
theorem set_l {α : Type} {s : Sl α} {i : Nat} {x : α} (h : i < s.l.length) : Sl.l (s.set i x) = s.l.set i x := by
  rw [List.set_eq_take_append_cons_drop, if_pos h]
  simp [Sl.set, Sl.l]
theorem Score.small_setMeasure {v : Score} (h : v.small) {i : Nat} (hi : i < v.measures.l.length) {e : Measure} (he : e.small) : (v.setMeasure i e).small := by
  obtain ⟨h1, h2, h3, h4, h5, h6⟩ := h
  have e1 : (v.setMeasure i e).measures.l = v.measures.l.set i e := set_l hi
  refine ⟨h1, h2, by rw [e1, List.length_set]; exact h3, fun x hx => ?_, h5, h6⟩
  rw [e1] at hx
  rcases mem_set' hx with h | rfl
  · exact h4 x h
  · exact he
theorem Measure.small_setCell {v : Measure} (h : v.small) {i : Nat} (hi : i < v.cells.l.length) {e : Cell} (he : e.small) : (v.setCell i e).small := by
  obtain ⟨h1, h2, h3⟩ := h
  have e1 : (v.setCell i e).cells.l = v.cells.l.set i e := set_l hi
  refine ⟨h1, by rw [e1, List.length_set]; exact h2, fun x hx => ?_⟩
  rw [e1] at hx
  rcases mem_set' hx with h | rfl
  · exact h3 x h
  · exact he
theorem map_cl_cn (l : List Measure) : (l.map Measure.cl).map Measure.cn = l.map Measure.cn := by
  rw [List.map_map]; congr 1; funext v; exact v.cl_cn
theorem map_cl_cn2 (l : List Cell) : (l.map Cell.cl).map Cell.cn = l.map Cell.cn := by
  rw [List.map_map]; congr 1; funext v; exact v.cl_cn
/-- A list of a score's measures put anew, here and there. -/
theorem setM_cn {s : Score} {i : Nat} {x y : Measure} (hi : i < s.measures.l.length) (h : x.cn = y.cn) : (s.cl.setM i x).cn = (s.setMeasure i y).cn := by
  have e1 : (s.cl.setM i x).measures.l.map Measure.cn = (s.setMeasure i y).measures.l.map Measure.cn := by
    show ((s.measures.l.map Measure.cl).set i x).map Measure.cn = (Sl.l (s.measures.set i y)).map Measure.cn
    rw [set_l hi, List.map_set, map_cl_cn, List.map_set, h]
  unfold Score.cn
  rw [e1]; rfl
theorem setC_cn {m : Measure} {i : Nat} {x y : Cell} (hi : i < m.cells.l.length) (h : x.cn = y.cn) : (m.cl.setC i x).cn = (m.setCell i y).cn := by
  have e0 : m.cl.cells.l = m.cells.l.map Cell.cl := l_of
  have e1 : (m.cl.setC i x).cells.l.map Cell.cn = (m.setCell i y).cells.l.map Cell.cn := by
    show (m.cl.cells.l.set i x).map Cell.cn = (Sl.l (m.cells.set i y)).map Cell.cn
    rw [set_l hi, e0, List.map_set, map_cl_cn2, List.map_set, h]
  unfold Measure.cn
  rw [e1]; rfl
end Go.Hem
/- The law ScoreSets, by the interpreter. -/
set_option maxRecDepth 10000
set_option maxHeartbeats 4000000
set_option linter.unusedSimpArgs false
set_option linter.unusedVariables false
namespace Go.Hem
variable {pol : Pol}
theorem zero_pv (h28 : pol.pure 28 = true) (hp : pol.pure 99 = true) (hp2 : pol.pure 50 = true) (hp3 : pol.pure 113 = true) (hp4 : pol.pure 68 = true) (a : Score) (ha : a.tame) : Pv prog pol 31 [a.enc] (.sc (.bool (decide (a.cn = Score.none.cn)))) := by
  refine Pv_of' ok31 (by simp only [AV.closedBs, Score.enc_closed, Bool.and_self]) ?_
  simp -implicitDefEqProofs (maxDischargeDepth := 12) only [wpF, cf31, WW,List.replicate,e_splice,if_true,if_false,ite_true,ite_false,true_or,ne_eq,Nat.reduceAdd,Nat.reduceSub,Nat.reduceMul,Nat.reduceLeDiff,Nat.reduceEqDiff,Nat.reduceGT,Nat.reduceLT,Int.reduceLE,Int.reduceLT,Int.reduceToNat,Int.reduceAdd,reduceCtorEq,h_putc,beq_self_eq_true,eq_self,exists_eq_left,exists_eq_left', a.enc_eq]
  rw [← a.enc_eq]
  refine wA_pure h28 (same_pv hp hp2 hp3 hp4 a Score.none ha) ?_
  simp -implicitDefEqProofs (maxDischargeDepth := 12) only [WW,List.replicate,e_splice,if_true,if_false,ite_true,ite_false,true_or,ne_eq,Nat.reduceAdd,Nat.reduceSub,Nat.reduceMul,Nat.reduceLeDiff,Nat.reduceEqDiff,Nat.reduceGT,Nat.reduceLT,Int.reduceLE,Int.reduceLT,Int.reduceToNat,Int.reduceAdd,reduceCtorEq,h_putc,beq_self_eq_true,eq_self,exists_eq_left,exists_eq_left']
  exact frz_sc
def pures9 : List Nat := [29, 30, 32, 42, 43, 44, 45, 52] ++ pures8
def polP : Pol := ⟨fun f => pures9.contains f⟩
theorem polP_pr : PrPol polP := by unfold PrPol ClPol; decide
theorem known_run9 : okTrue (xPure (X prog polP memo0 1000) 19 []) = true := by decide +kernel
theorem known9_pv : Pv prog polP 19 [] (.sc (.bool true)) := pv_of_x memo0_ok rfl (okTrue_spec known_run9)
def Cell.none : Cell := ⟨Option.none, Option.none⟩
def Measure.first (m : Measure) : Cell := (m.cells.l[0]?).getD Cell.none
theorem Measure.small_first {m : Measure} (h : m.small) : m.first.small := by
  unfold Measure.first
  cases hc : m.cells.l[0]? with
  | none => exact ⟨by decide, by decide, fun v hv => by simp [Cell.none, Sl.l] at hv⟩
  | some c => exact h.2.2 c (List.mem_of_getElem? hc)
theorem case42 (s : Score) (hs : s.small) (m : Measure) (hm : m.small) (i : Int) : ∃ T E, T.small ∧ Pv prog polP 42 [s.enc, .sc (.int .i64 i), m.enc] (.tup [T.enc, .sc (.int .i64 E)]) ∧
    (((i < 0 ∨ (s.measures.l.length : Int) ≤ i) ∧ E = 2 ∧ T = Score.none) ∨ (∃ n : Nat, i = n ∧ n < s.measures.l.length ∧ m.cells.l.length ≠ stavesOf s.parts.l ∧ E = 20 ∧ T = Score.none) ∨
      (∃ n : Nat, i = n ∧ n < s.measures.l.length ∧ m.cells.l.length = stavesOf s.parts.l ∧ E = 0 ∧ T.cn = (s.setMeasure n m).pruned.cn)) := by
  by_cases h : i < 0 ∨ (s.measures.l.length : Int) ≤ i
  · exact ⟨Score.none, 2, Score.small_none, setm_er s i m h, .inl ⟨h, rfl, rfl⟩⟩
  · obtain ⟨n, rfl⟩ : ∃ n : Nat, i = n := ⟨i.toNat, by omega⟩
    have hn : n < s.measures.l.length := by omega
    by_cases h2 : m.cells.l.length = stavesOf s.parts.l
    · have hsm := Score.small_set (Score.small_cl hs) (i := n) (Measure.small_cl hm)
      refine ⟨(s.cl.setM n m.cl).pr, 0, Score.small_pr hsm, setm_ok polP_pr rfl rfl rfl rfl s hs.tame hs.Tame n hn m hm.tame h2 hsm.tame hsm.Tame, .inr (.inr ⟨n, rfl, hn, h2, rfl, ?_⟩)⟩
      rw [Score.pr_cn]
      exact pruned_congr (setM_cn hn m.cl_cn)
    · exact ⟨Score.none, 20, Score.small_none, setm_le rfl s hs.Tame.staves hs.Tame.parts n hn m h2, .inr (.inl ⟨n, rfl, hn, h2, rfl, rfl⟩)⟩
theorem case43 (s : Score) (hs : s.small) (c : Cell) (hc : c.small) (i j : Int) : ∃ T E, T.small ∧ Pv prog polP 43 [s.enc, .sc (.int .i64 i), .sc (.int .i64 j), c.enc] (.tup [T.enc, .sc (.int .i64 E)]) ∧
    (((i < 0 ∨ (s.measures.l.length : Int) ≤ i) ∧ E = 2 ∧ T = Score.none) ∨ (∃ (n : Nat) (y : Measure), i = n ∧ s.measures.l[n]? = some y ∧ (j < 0 ∨ (y.cells.l.length : Int) ≤ j) ∧ E = 2 ∧ T = Score.none) ∨
      (∃ (n k : Nat) (y : Measure), i = n ∧ j = k ∧ s.measures.l[n]? = some y ∧ k < y.cells.l.length ∧ E = 0 ∧ T.cn = (s.setMeasure n (y.setCell k c)).pruned.cn)) := by
  by_cases h : i < 0 ∨ (s.measures.l.length : Int) ≤ i
  · exact ⟨Score.none, 2, Score.small_none, setc_er s i j c h, .inl ⟨h, rfl, rfl⟩⟩
  · obtain ⟨n, rfl⟩ : ∃ n : Nat, i = n := ⟨i.toNat, by omega⟩
    have hn : n < s.measures.l.length := by omega
    obtain ⟨y, hy⟩ : ∃ y, s.measures.l[n]? = some y := ⟨_, List.getElem?_eq_getElem hn⟩
    by_cases h2 : j < 0 ∨ (y.cells.l.length : Int) ≤ j
    · exact ⟨Score.none, 2, Score.small_none, setc_er2 s n j c hy h2, .inr (.inl ⟨n, y, rfl, hy, h2, rfl, rfl⟩)⟩
    · obtain ⟨k, rfl⟩ : ∃ k : Nat, j = k := ⟨j.toNat, by omega⟩
      have hk : k < y.cells.l.length := by omega
      have hys := hs.meas y (List.mem_of_getElem? hy)
      have hsm := Score.small_set (Score.small_cl hs) (i := n) (Measure.small_set (Measure.small_cl hys) (i := k) (Cell.small_cl hc))
      refine ⟨(s.cl.setM n (y.cl.setC k c.cl)).pr, 0, Score.small_pr hsm, setc_ok polP_pr rfl rfl rfl s hs.tame hs.Tame n k hy hk c hc.tame hsm.tame hsm.Tame, .inr (.inr ⟨n, k, y, rfl, rfl, hy, hk, rfl, ?_⟩)⟩
      rw [Score.pr_cn]
      exact pruned_congr (setM_cn hn (setC_cn hk c.cl_cn))
theorem law9_pv (s : Score) (m : Measure) (i j : Int) : Pv prog polP 9 [s.enc, m.enc, .agg [.sc (.int .i64 i), .sc (.int .i64 j)]] (.sc (.bool true)) := by
  refine Pv_of' ok9 (by simp only [AV.closedBs, Score.enc_closed, Measure.enc_closed, AV.closedB, Bool.and_self]) ?_
  have hs := s.small_short
  have hm := m.small_short
  obtain ⟨T, E, hTs, hT42, hTc⟩ := case42 s.short hs m.short hm i
  obtain ⟨U, F, hUs, hU43, hUc⟩ := case43 s.short hs m.short.first (Measure.small_first hm) i j
  simp -implicitDefEqProofs (maxDischargeDepth := 12) only [wpF, cf9, WW,List.replicate,e_splice,if_true,if_false,ite_true,ite_false,true_or,ne_eq,Nat.reduceAdd,Nat.reduceSub,Nat.reduceMul,Nat.reduceLeDiff,Nat.reduceEqDiff,Nat.reduceGT,Nat.reduceLT,Int.reduceLE,Int.reduceLT,Int.reduceToNat,Int.reduceAdd,reduceCtorEq,h_putc,beq_self_eq_true,eq_self,exists_eq_left,exists_eq_left', s.enc_eq, m.enc_eq]
  rw [← s.enc_eq]
  refine wA_pure rfl (short_pv rfl rfl rfl rfl rfl s) ?_
  simp -implicitDefEqProofs (maxDischargeDepth := 12) only [WW,List.replicate,e_splice,if_true,if_false,ite_true,ite_false,true_or,ne_eq,Nat.reduceAdd,Nat.reduceSub,Nat.reduceMul,Nat.reduceLeDiff,Nat.reduceEqDiff,Nat.reduceGT,Nat.reduceLT,Int.reduceLE,Int.reduceLT,Int.reduceToNat,Int.reduceAdd,reduceCtorEq,h_putc,beq_self_eq_true,eq_self,exists_eq_left,exists_eq_left', m.enc_eq]
  rw [← m.enc_eq]
  refine wA_pure rfl (shortMeasure_pv rfl rfl rfl m) ?_
  simp -implicitDefEqProofs (maxDischargeDepth := 12) only [WW,List.replicate,e_splice,if_true,if_false,ite_true,ite_false,true_or,ne_eq,Nat.reduceAdd,Nat.reduceSub,Nat.reduceMul,Nat.reduceLeDiff,Nat.reduceEqDiff,Nat.reduceGT,Nat.reduceLT,Int.reduceLE,Int.reduceLT,Int.reduceToNat,Int.reduceAdd,reduceCtorEq,h_putc,beq_self_eq_true,eq_self,exists_eq_left,exists_eq_left', s.short.enc_eq, m.short.enc_eq]
  rw [← s.short.enc_eq, ← m.short.enc_eq]
  refine wA_pure rfl hT42 ?_
  simp -implicitDefEqProofs (maxDischargeDepth := 12) only [WW,List.replicate,e_splice,if_true,if_false,ite_true,ite_false,true_or,ne_eq,Nat.reduceAdd,Nat.reduceSub,Nat.reduceMul,Nat.reduceLeDiff,Nat.reduceEqDiff,Nat.reduceGT,Nat.reduceLT,Int.reduceLE,Int.reduceLT,Int.reduceToNat,Int.reduceAdd,reduceCtorEq,h_putc,beq_self_eq_true,eq_self,exists_eq_left,exists_eq_left', s.short.enc_eq, m.short.enc_eq, T.enc_eq]
  by_cases h0 : (0 : Int) < (m.short.cells.l.length : Int)
  · obtain ⟨c, hc⟩ : ∃ c, m.short.cells.l[0]? = some c := ⟨_, List.getElem?_eq_getElem (by omega)⟩
    have hf : m.short.first = c := by unfold Measure.first; rw [hc]; rfl
    rw [hf] at hU43 hUc
    have hcs : c.small := hf ▸ Measure.small_first hm
    simp -implicitDefEqProofs (maxDischargeDepth := 12) only [WW,List.replicate,e_splice,if_true,if_false,ite_true,ite_false,true_or,ne_eq,Nat.reduceAdd,Nat.reduceSub,Nat.reduceMul,Nat.reduceLeDiff,Nat.reduceEqDiff,Nat.reduceGT,Nat.reduceLT,Int.reduceLE,Int.reduceLT,Int.reduceToNat,Int.reduceAdd,reduceCtorEq,h_putc,beq_self_eq_true,eq_self,exists_eq_left,exists_eq_left', h0, hc, c.enc_eq, m.short.enc_eq, s.short.enc_eq]
    rw [← s.short.enc_eq, ← c.enc_eq]
    refine wA_pure rfl hU43 ?_
    simp -implicitDefEqProofs (maxDischargeDepth := 12) only [WW,List.replicate,e_splice,if_true,if_false,ite_true,ite_false,true_or,ne_eq,Nat.reduceAdd,Nat.reduceSub,Nat.reduceMul,Nat.reduceLeDiff,Nat.reduceEqDiff,Nat.reduceGT,Nat.reduceLT,Int.reduceLE,Int.reduceLT,Int.reduceToNat,Int.reduceAdd,reduceCtorEq,h_putc,beq_self_eq_true,eq_self,exists_eq_left,exists_eq_left', s.short.enc_eq, m.short.enc_eq, T.enc_eq, U.enc_eq, c.enc_eq]
    generalize hH : AHeap.put _ 5 _ = H
    have k0 : H.cells 0 = some [.sc (.str s.short.title), .sc (.bool s.short.written), slm Part.enc s.short.parts, slm Measure.enc s.short.measures, slm Spanner.enc s.short.spanners, slm ID.enc s.short.last] := by subst hH; simp -implicitDefEqProofs (maxDischargeDepth := 12) only [WW,List.replicate,e_splice,if_true,if_false,ite_true,ite_false,true_or,ne_eq,Nat.reduceAdd,Nat.reduceSub,Nat.reduceMul,Nat.reduceLeDiff,Nat.reduceEqDiff,Nat.reduceGT,Nat.reduceLT,Int.reduceLE,Int.reduceLT,Int.reduceToNat,Int.reduceAdd,reduceCtorEq,h_putc,beq_self_eq_true,eq_self,exists_eq_left,exists_eq_left', s.short.enc_eq, T.enc_eq, U.enc_eq]
    have k1 : H.cells 1 = some m.short.enc.cells := by subst hH; simp -implicitDefEqProofs (maxDischargeDepth := 12) only [WW,List.replicate,e_splice,if_true,if_false,ite_true,ite_false,true_or,ne_eq,Nat.reduceAdd,Nat.reduceSub,Nat.reduceMul,Nat.reduceLeDiff,Nat.reduceEqDiff,Nat.reduceGT,Nat.reduceLT,Int.reduceLE,Int.reduceLT,Int.reduceToNat,Int.reduceAdd,reduceCtorEq,h_putc,beq_self_eq_true,eq_self,exists_eq_left,exists_eq_left', m.short.enc_eq]
    have k3 : H.cells 3 = some [.sc (.str T.title), .sc (.bool T.written), slm Part.enc T.parts, slm Measure.enc T.measures, slm Spanner.enc T.spanners, slm ID.enc T.last] := by subst hH; simp -implicitDefEqProofs (maxDischargeDepth := 12) only [WW,List.replicate,e_splice,if_true,if_false,ite_true,ite_false,true_or,ne_eq,Nat.reduceAdd,Nat.reduceSub,Nat.reduceMul,Nat.reduceLeDiff,Nat.reduceEqDiff,Nat.reduceGT,Nat.reduceLT,Int.reduceLE,Int.reduceLT,Int.reduceToNat,Int.reduceAdd,reduceCtorEq,h_putc,beq_self_eq_true,eq_self,exists_eq_left,exists_eq_left', T.enc_eq]
    have k4 : H.cells 4 = some [slm ClefChange.enc c.clefs, slm Voice.enc c.voices] := by subst hH; simp -implicitDefEqProofs (maxDischargeDepth := 12) only [WW,List.replicate,e_splice,if_true,if_false,ite_true,ite_false,true_or,ne_eq,Nat.reduceAdd,Nat.reduceSub,Nat.reduceMul,Nat.reduceLeDiff,Nat.reduceEqDiff,Nat.reduceGT,Nat.reduceLT,Int.reduceLE,Int.reduceLT,Int.reduceToNat,Int.reduceAdd,reduceCtorEq,h_putc,beq_self_eq_true,eq_self,exists_eq_left,exists_eq_left', c.enc_eq]; try (subst hcc; rfl)
    have k5 : H.cells 5 = some [.sc (.str U.title), .sc (.bool U.written), slm Part.enc U.parts, slm Measure.enc U.measures, slm Spanner.enc U.spanners, slm ID.enc U.last] := by subst hH; simp -implicitDefEqProofs (maxDischargeDepth := 12) only [WW,List.replicate,e_splice,if_true,if_false,ite_true,ite_false,true_or,ne_eq,Nat.reduceAdd,Nat.reduceSub,Nat.reduceMul,Nat.reduceLeDiff,Nat.reduceEqDiff,Nat.reduceGT,Nat.reduceLT,Int.reduceLE,Int.reduceLT,Int.reduceToNat,Int.reduceAdd,reduceCtorEq,h_putc,beq_self_eq_true,eq_self,exists_eq_left,exists_eq_left', U.enc_eq]
    clear hH
    simp only [m.short.enc_eq, c_agg] at k1
    rw [← s.short.enc_eq, ← m.short.enc_eq, ← T.enc_eq, ← U.enc_eq]
    refine wA_pure rfl known9_pv ?_
    simp -implicitDefEqProofs (maxDischargeDepth := 12) only [WW,List.replicate,e_splice,if_true,if_false,ite_true,ite_false,true_or,ne_eq,Nat.reduceAdd,Nat.reduceSub,Nat.reduceMul,Nat.reduceLeDiff,Nat.reduceEqDiff,Nat.reduceGT,Nat.reduceLT,Int.reduceLE,Int.reduceLT,Int.reduceToNat,Int.reduceAdd,reduceCtorEq,h_putc,beq_self_eq_true,eq_self,exists_eq_left,exists_eq_left']
    have tm := hs.measures
    have zT : ∀ X : Score, X.small → X = Score.none → Pv prog polP 31 [X.enc] (.sc (.bool true)) := fun X h1 h2 => by
      have := zero_pv (pol := polP) rfl rfl rfl rfl rfl X h1.tame
      rwa [decide_eq_true (by rw [h2])] at this
    rcases hTc with ⟨ho, rfl, hTe⟩ | ⟨n, rfl, hn, hne, rfl, hTe⟩ | ⟨n, rfl, hn, heq, rfl, hTe⟩
    · obtain ⟨rfl, hUe⟩ : F = 2 ∧ U = Score.none := by
        rcases hUc with ⟨_, h1, h2⟩ | ⟨n, y, rfl, hy, _⟩ | ⟨n, k, y, rfl, _, hy, _⟩
        · exact ⟨h1, h2⟩
        · have := (List.getElem?_eq_some_iff.1 hy).1; omega
        · have := (List.getElem?_eq_some_iff.1 hy).1; omega
      by_cases i0 : i < 0
      · simp -implicitDefEqProofs (maxDischargeDepth := 12) only [WW,List.replicate,e_splice,if_true,if_false,ite_true,ite_false,true_or,ne_eq,Nat.reduceAdd,Nat.reduceSub,Nat.reduceMul,Nat.reduceLeDiff,Nat.reduceEqDiff,Nat.reduceGT,Nat.reduceLT,Int.reduceLE,Int.reduceLT,Int.reduceToNat,Int.reduceAdd,reduceCtorEq,h_putc,beq_self_eq_true,eq_self,exists_eq_left,exists_eq_left', i0, k0, k3, k5]
        rw [← T.enc_eq]
        refine wA_pure rfl (zT T hTs hTe) ?_
        simp -implicitDefEqProofs (maxDischargeDepth := 12) only [WW,List.replicate,e_splice,if_true,if_false,ite_true,ite_false,true_or,ne_eq,Nat.reduceAdd,Nat.reduceSub,Nat.reduceMul,Nat.reduceLeDiff,Nat.reduceEqDiff,Nat.reduceGT,Nat.reduceLT,Int.reduceLE,Int.reduceLT,Int.reduceToNat,Int.reduceAdd,reduceCtorEq,h_putc,beq_self_eq_true,eq_self,exists_eq_left,exists_eq_left', k0, k3, k5]
        rw [← U.enc_eq]
        refine wA_pure rfl (zT U hUs hUe) ?_
        simp -implicitDefEqProofs (maxDischargeDepth := 12) only [WW,List.replicate,e_splice,if_true,if_false,ite_true,ite_false,true_or,ne_eq,Nat.reduceAdd,Nat.reduceSub,Nat.reduceMul,Nat.reduceLeDiff,Nat.reduceEqDiff,Nat.reduceGT,Nat.reduceLT,Int.reduceLE,Int.reduceLT,Int.reduceToNat,Int.reduceAdd,reduceCtorEq,h_putc,beq_self_eq_true,eq_self,exists_eq_left,exists_eq_left']
        exact frz_sc
      · have i1 : (s.short.measures.l.length : Int) ≤ i := by omega
        simp -implicitDefEqProofs (maxDischargeDepth := 12) only [WW,List.replicate,e_splice,if_true,if_false,ite_true,ite_false,true_or,ne_eq,Nat.reduceAdd,Nat.reduceSub,Nat.reduceMul,Nat.reduceLeDiff,Nat.reduceEqDiff,Nat.reduceGT,Nat.reduceLT,Int.reduceLE,Int.reduceLT,Int.reduceToNat,Int.reduceAdd,reduceCtorEq,h_putc,beq_self_eq_true,eq_self,exists_eq_left,exists_eq_left', i0, i1, k0, k3, k5]
        rw [← T.enc_eq]
        refine wA_pure rfl (zT T hTs hTe) ?_
        simp -implicitDefEqProofs (maxDischargeDepth := 12) only [WW,List.replicate,e_splice,if_true,if_false,ite_true,ite_false,true_or,ne_eq,Nat.reduceAdd,Nat.reduceSub,Nat.reduceMul,Nat.reduceLeDiff,Nat.reduceEqDiff,Nat.reduceGT,Nat.reduceLT,Int.reduceLE,Int.reduceLT,Int.reduceToNat,Int.reduceAdd,reduceCtorEq,h_putc,beq_self_eq_true,eq_self,exists_eq_left,exists_eq_left', k0, k3, k5]
        rw [← U.enc_eq]
        refine wA_pure rfl (zT U hUs hUe) ?_
        simp -implicitDefEqProofs (maxDischargeDepth := 12) only [WW,List.replicate,e_splice,if_true,if_false,ite_true,ite_false,true_or,ne_eq,Nat.reduceAdd,Nat.reduceSub,Nat.reduceMul,Nat.reduceLeDiff,Nat.reduceEqDiff,Nat.reduceGT,Nat.reduceLT,Int.reduceLE,Int.reduceLT,Int.reduceToNat,Int.reduceAdd,reduceCtorEq,h_putc,beq_self_eq_true,eq_self,exists_eq_left,exists_eq_left']
        exact frz_sc
    · have i0 : ¬ (n : Int) < 0 := by omega
      have i1 : ¬ (s.short.measures.l.length : Int) ≤ (n : Int) := by omega
      have i2 : ¬ (m.short.cells.l.length : Int) = (stavesOf s.short.parts.l : Int) := by omega
      simp -implicitDefEqProofs (maxDischargeDepth := 12) only [WW,List.replicate,e_splice,if_true,if_false,ite_true,ite_false,true_or,ne_eq,Nat.reduceAdd,Nat.reduceSub,Nat.reduceMul,Nat.reduceLeDiff,Nat.reduceEqDiff,Nat.reduceGT,Nat.reduceLT,Int.reduceLE,Int.reduceLT,Int.reduceToNat,Int.reduceAdd,reduceCtorEq,h_putc,beq_self_eq_true,eq_self,exists_eq_left,exists_eq_left', i0, i1, k0, k1, k3, k5]
      rw [← s.short.enc_eq]
      refine wA_pure rfl (rstaves_pv s.short hs.Tame.staves hs.Tame.parts) ?_
      simp -implicitDefEqProofs (maxDischargeDepth := 12) only [WW,List.replicate,e_splice,if_true,if_false,ite_true,ite_false,true_or,ne_eq,Nat.reduceAdd,Nat.reduceSub,Nat.reduceMul,Nat.reduceLeDiff,Nat.reduceEqDiff,Nat.reduceGT,Nat.reduceLT,Int.reduceLE,Int.reduceLT,Int.reduceToNat,Int.reduceAdd,reduceCtorEq,h_putc,beq_self_eq_true,eq_self,exists_eq_left,exists_eq_left', i2, k0, k1, k3, k5]
      rw [← T.enc_eq]
      refine wA_pure rfl (zT T hTs hTe) ?_
      rcases hUc with ⟨h1, _, _⟩ | ⟨n', y, hnn, hy, hj, rfl, hUe⟩ | ⟨n', k, y, hnn, rfl, hy, hk, rfl, hUe⟩
      · omega
      · obtain rfl : n = n' := by omega
        by_cases j0 : j < 0
        · simp -implicitDefEqProofs (maxDischargeDepth := 12) only [WW,List.replicate,e_splice,if_true,if_false,ite_true,ite_false,true_or,ne_eq,Nat.reduceAdd,Nat.reduceSub,Nat.reduceMul,Nat.reduceLeDiff,Nat.reduceEqDiff,Nat.reduceGT,Nat.reduceLT,Int.reduceLE,Int.reduceLT,Int.reduceToNat,Int.reduceAdd,reduceCtorEq,h_putc,beq_self_eq_true,eq_self,exists_eq_left,exists_eq_left', j0, i0, i1, k0, k1, k3, k5]
          rw [← U.enc_eq]
          refine wA_pure rfl (zT U hUs hUe) ?_
          simp -implicitDefEqProofs (maxDischargeDepth := 12) only [WW,List.replicate,e_splice,if_true,if_false,ite_true,ite_false,true_or,ne_eq,Nat.reduceAdd,Nat.reduceSub,Nat.reduceMul,Nat.reduceLeDiff,Nat.reduceEqDiff,Nat.reduceGT,Nat.reduceLT,Int.reduceLE,Int.reduceLT,Int.reduceToNat,Int.reduceAdd,reduceCtorEq,h_putc,beq_self_eq_true,eq_self,exists_eq_left,exists_eq_left']
          exact frz_sc
        · have j1 : (y.cells.l.length : Int) ≤ j := by omega
          simp -implicitDefEqProofs (maxDischargeDepth := 12) only [WW,List.replicate,e_splice,if_true,if_false,ite_true,ite_false,true_or,ne_eq,Nat.reduceAdd,Nat.reduceSub,Nat.reduceMul,Nat.reduceLeDiff,Nat.reduceEqDiff,Nat.reduceGT,Nat.reduceLT,Int.reduceLE,Int.reduceLT,Int.reduceToNat,Int.reduceAdd,reduceCtorEq,h_putc,beq_self_eq_true,eq_self,exists_eq_left,exists_eq_left', j0, j1, i0, i1, k0, k1, k3, k5, hy, y.enc_eq]
          rw [← U.enc_eq]
          refine wA_pure rfl (zT U hUs hUe) ?_
          simp -implicitDefEqProofs (maxDischargeDepth := 12) only [WW,List.replicate,e_splice,if_true,if_false,ite_true,ite_false,true_or,ne_eq,Nat.reduceAdd,Nat.reduceSub,Nat.reduceMul,Nat.reduceLeDiff,Nat.reduceEqDiff,Nat.reduceGT,Nat.reduceLT,Int.reduceLE,Int.reduceLT,Int.reduceToNat,Int.reduceAdd,reduceCtorEq,h_putc,beq_self_eq_true,eq_self,exists_eq_left,exists_eq_left']
          exact frz_sc
      · obtain rfl : n = n' := by omega
        have j0 : ¬ (k : Int) < 0 := by omega
        have j1 : ¬ (y.cells.l.length : Int) ≤ (k : Int) := by omega
        have hys := hs.meas y (List.mem_of_getElem? hy)
        simp -implicitDefEqProofs (maxDischargeDepth := 12) only [WW,List.replicate,e_splice,if_true,if_false,ite_true,ite_false,true_or,ne_eq,Nat.reduceAdd,Nat.reduceSub,Nat.reduceMul,Nat.reduceLeDiff,Nat.reduceEqDiff,Nat.reduceGT,Nat.reduceLT,Int.reduceLE,Int.reduceLT,Int.reduceToNat,Int.reduceAdd,reduceCtorEq,h_putc,beq_self_eq_true,eq_self,exists_eq_left,exists_eq_left', j0, j1, i0, i1, k0, k1, k3, k4, k5, hy, y.enc_eq]
        rw [← U.enc_eq, ← s.short.enc_eq, ← c.enc_eq]
        refine wA_pure rfl (rsetc_pv rfl s.short hs.Tame n k y hy hk c) ?_
        simp -implicitDefEqProofs (maxDischargeDepth := 12) only [WW,List.replicate,e_splice,if_true,if_false,ite_true,ite_false,true_or,ne_eq,Nat.reduceAdd,Nat.reduceSub,Nat.reduceMul,Nat.reduceLeDiff,Nat.reduceEqDiff,Nat.reduceGT,Nat.reduceLT,Int.reduceLE,Int.reduceLT,Int.reduceToNat,Int.reduceAdd,reduceCtorEq,h_putc,beq_self_eq_true,eq_self,exists_eq_left,exists_eq_left', k0, k1, k3, k5]
        refine wA_pure rfl (rprune_pv rfl rfl (s.short.setMeasure n (y.setCell k c)) (Score.small_setMeasure hs hn (Measure.small_setCell hys hk hcs)).Tame) ?_
        simp -implicitDefEqProofs (maxDischargeDepth := 12) only [WW,List.replicate,e_splice,if_true,if_false,ite_true,ite_false,true_or,ne_eq,Nat.reduceAdd,Nat.reduceSub,Nat.reduceMul,Nat.reduceLeDiff,Nat.reduceEqDiff,Nat.reduceGT,Nat.reduceLT,Int.reduceLE,Int.reduceLT,Int.reduceToNat,Int.reduceAdd,reduceCtorEq,h_putc,beq_self_eq_true,eq_self,exists_eq_left,exists_eq_left', k0, k1, k3, k5]
        refine wA_pure rfl (same_pv rfl rfl rfl rfl U (s.short.setMeasure n (y.setCell k c)).pruned hUs.tame) ?_
        rw [decide_eq_true hUe]
        simp -implicitDefEqProofs (maxDischargeDepth := 12) only [WW,List.replicate,e_splice,if_true,if_false,ite_true,ite_false,true_or,ne_eq,Nat.reduceAdd,Nat.reduceSub,Nat.reduceMul,Nat.reduceLeDiff,Nat.reduceEqDiff,Nat.reduceGT,Nat.reduceLT,Int.reduceLE,Int.reduceLT,Int.reduceToNat,Int.reduceAdd,reduceCtorEq,h_putc,beq_self_eq_true,eq_self,exists_eq_left,exists_eq_left']
        exact frz_sc
    · have i0 : ¬ (n : Int) < 0 := by omega
      have i1 : ¬ (s.short.measures.l.length : Int) ≤ (n : Int) := by omega
      have i2 : (m.short.cells.l.length : Int) = (stavesOf s.short.parts.l : Int) := by omega
      simp -implicitDefEqProofs (maxDischargeDepth := 12) only [WW,List.replicate,e_splice,if_true,if_false,ite_true,ite_false,true_or,ne_eq,Nat.reduceAdd,Nat.reduceSub,Nat.reduceMul,Nat.reduceLeDiff,Nat.reduceEqDiff,Nat.reduceGT,Nat.reduceLT,Int.reduceLE,Int.reduceLT,Int.reduceToNat,Int.reduceAdd,reduceCtorEq,h_putc,beq_self_eq_true,eq_self,exists_eq_left,exists_eq_left', i0, i1, k0, k1, k3, k5]
      rw [← s.short.enc_eq]
      refine wA_pure rfl (rstaves_pv s.short hs.Tame.staves hs.Tame.parts) ?_
      simp -implicitDefEqProofs (maxDischargeDepth := 12) only [WW,List.replicate,e_splice,if_true,if_false,ite_true,ite_false,true_or,ne_eq,Nat.reduceAdd,Nat.reduceSub,Nat.reduceMul,Nat.reduceLeDiff,Nat.reduceEqDiff,Nat.reduceGT,Nat.reduceLT,Int.reduceLE,Int.reduceLT,Int.reduceToNat,Int.reduceAdd,reduceCtorEq,h_putc,beq_self_eq_true,eq_self,exists_eq_left,exists_eq_left', i2, k0, k1, k3, k5]
      rw [← s.short.enc_eq, ← T.enc_eq, ← m.short.enc_eq]
      refine wA_pure rfl (rsetm_pv s.short hs.Tame n hn m.short) ?_
      simp -implicitDefEqProofs (maxDischargeDepth := 12) only [WW,List.replicate,e_splice,if_true,if_false,ite_true,ite_false,true_or,ne_eq,Nat.reduceAdd,Nat.reduceSub,Nat.reduceMul,Nat.reduceLeDiff,Nat.reduceEqDiff,Nat.reduceGT,Nat.reduceLT,Int.reduceLE,Int.reduceLT,Int.reduceToNat,Int.reduceAdd,reduceCtorEq,h_putc,beq_self_eq_true,eq_self,exists_eq_left,exists_eq_left', k0, k1, k3, k5]
      refine wA_pure rfl (rprune_pv rfl rfl (s.short.setMeasure n m.short) (Score.small_setMeasure hs hn hm).Tame) ?_
      simp -implicitDefEqProofs (maxDischargeDepth := 12) only [WW,List.replicate,e_splice,if_true,if_false,ite_true,ite_false,true_or,ne_eq,Nat.reduceAdd,Nat.reduceSub,Nat.reduceMul,Nat.reduceLeDiff,Nat.reduceEqDiff,Nat.reduceGT,Nat.reduceLT,Int.reduceLE,Int.reduceLT,Int.reduceToNat,Int.reduceAdd,reduceCtorEq,h_putc,beq_self_eq_true,eq_self,exists_eq_left,exists_eq_left', k0, k1, k3, k5]
      refine wA_pure rfl (same_pv rfl rfl rfl rfl T (s.short.setMeasure n m.short).pruned hTs.tame) ?_
      rw [decide_eq_true hTe]
      rcases hUc with ⟨h1, _, _⟩ | ⟨n', y, hnn, hy, hj, rfl, hUe⟩ | ⟨n', k, y, hnn, rfl, hy, hk, rfl, hUe⟩
      · omega
      · obtain rfl : n = n' := by omega
        by_cases j0 : j < 0
        · simp -implicitDefEqProofs (maxDischargeDepth := 12) only [WW,List.replicate,e_splice,if_true,if_false,ite_true,ite_false,true_or,ne_eq,Nat.reduceAdd,Nat.reduceSub,Nat.reduceMul,Nat.reduceLeDiff,Nat.reduceEqDiff,Nat.reduceGT,Nat.reduceLT,Int.reduceLE,Int.reduceLT,Int.reduceToNat,Int.reduceAdd,reduceCtorEq,h_putc,beq_self_eq_true,eq_self,exists_eq_left,exists_eq_left', j0, i0, i1, k0, k1, k3, k5]
          rw [← U.enc_eq]
          refine wA_pure rfl (zT U hUs hUe) ?_
          simp -implicitDefEqProofs (maxDischargeDepth := 12) only [WW,List.replicate,e_splice,if_true,if_false,ite_true,ite_false,true_or,ne_eq,Nat.reduceAdd,Nat.reduceSub,Nat.reduceMul,Nat.reduceLeDiff,Nat.reduceEqDiff,Nat.reduceGT,Nat.reduceLT,Int.reduceLE,Int.reduceLT,Int.reduceToNat,Int.reduceAdd,reduceCtorEq,h_putc,beq_self_eq_true,eq_self,exists_eq_left,exists_eq_left']
          exact frz_sc
        · have j1 : (y.cells.l.length : Int) ≤ j := by omega
          simp -implicitDefEqProofs (maxDischargeDepth := 12) only [WW,List.replicate,e_splice,if_true,if_false,ite_true,ite_false,true_or,ne_eq,Nat.reduceAdd,Nat.reduceSub,Nat.reduceMul,Nat.reduceLeDiff,Nat.reduceEqDiff,Nat.reduceGT,Nat.reduceLT,Int.reduceLE,Int.reduceLT,Int.reduceToNat,Int.reduceAdd,reduceCtorEq,h_putc,beq_self_eq_true,eq_self,exists_eq_left,exists_eq_left', j0, j1, i0, i1, k0, k1, k3, k5, hy, y.enc_eq]
          rw [← U.enc_eq]
          refine wA_pure rfl (zT U hUs hUe) ?_
          simp -implicitDefEqProofs (maxDischargeDepth := 12) only [WW,List.replicate,e_splice,if_true,if_false,ite_true,ite_false,true_or,ne_eq,Nat.reduceAdd,Nat.reduceSub,Nat.reduceMul,Nat.reduceLeDiff,Nat.reduceEqDiff,Nat.reduceGT,Nat.reduceLT,Int.reduceLE,Int.reduceLT,Int.reduceToNat,Int.reduceAdd,reduceCtorEq,h_putc,beq_self_eq_true,eq_self,exists_eq_left,exists_eq_left']
          exact frz_sc
      · obtain rfl : n = n' := by omega
        have j0 : ¬ (k : Int) < 0 := by omega
        have j1 : ¬ (y.cells.l.length : Int) ≤ (k : Int) := by omega
        have hys := hs.meas y (List.mem_of_getElem? hy)
        simp -implicitDefEqProofs (maxDischargeDepth := 12) only [WW,List.replicate,e_splice,if_true,if_false,ite_true,ite_false,true_or,ne_eq,Nat.reduceAdd,Nat.reduceSub,Nat.reduceMul,Nat.reduceLeDiff,Nat.reduceEqDiff,Nat.reduceGT,Nat.reduceLT,Int.reduceLE,Int.reduceLT,Int.reduceToNat,Int.reduceAdd,reduceCtorEq,h_putc,beq_self_eq_true,eq_self,exists_eq_left,exists_eq_left', j0, j1, i0, i1, k0, k1, k3, k4, k5, hy, y.enc_eq]
        rw [← U.enc_eq, ← s.short.enc_eq, ← c.enc_eq]
        refine wA_pure rfl (rsetc_pv rfl s.short hs.Tame n k y hy hk c) ?_
        simp -implicitDefEqProofs (maxDischargeDepth := 12) only [WW,List.replicate,e_splice,if_true,if_false,ite_true,ite_false,true_or,ne_eq,Nat.reduceAdd,Nat.reduceSub,Nat.reduceMul,Nat.reduceLeDiff,Nat.reduceEqDiff,Nat.reduceGT,Nat.reduceLT,Int.reduceLE,Int.reduceLT,Int.reduceToNat,Int.reduceAdd,reduceCtorEq,h_putc,beq_self_eq_true,eq_self,exists_eq_left,exists_eq_left', k0, k1, k3, k5]
        refine wA_pure rfl (rprune_pv rfl rfl (s.short.setMeasure n (y.setCell k c)) (Score.small_setMeasure hs hn (Measure.small_setCell hys hk hcs)).Tame) ?_
        simp -implicitDefEqProofs (maxDischargeDepth := 12) only [WW,List.replicate,e_splice,if_true,if_false,ite_true,ite_false,true_or,ne_eq,Nat.reduceAdd,Nat.reduceSub,Nat.reduceMul,Nat.reduceLeDiff,Nat.reduceEqDiff,Nat.reduceGT,Nat.reduceLT,Int.reduceLE,Int.reduceLT,Int.reduceToNat,Int.reduceAdd,reduceCtorEq,h_putc,beq_self_eq_true,eq_self,exists_eq_left,exists_eq_left', k0, k1, k3, k5]
        refine wA_pure rfl (same_pv rfl rfl rfl rfl U (s.short.setMeasure n (y.setCell k c)).pruned hUs.tame) ?_
        rw [decide_eq_true hUe]
        simp -implicitDefEqProofs (maxDischargeDepth := 12) only [WW,List.replicate,e_splice,if_true,if_false,ite_true,ite_false,true_or,ne_eq,Nat.reduceAdd,Nat.reduceSub,Nat.reduceMul,Nat.reduceLeDiff,Nat.reduceEqDiff,Nat.reduceGT,Nat.reduceLT,Int.reduceLE,Int.reduceLT,Int.reduceToNat,Int.reduceAdd,reduceCtorEq,h_putc,beq_self_eq_true,eq_self,exists_eq_left,exists_eq_left']
        exact frz_sc
  · have hc0 : m.short.cells.l = [] := List.length_eq_zero_iff.1 (by omega)
    have hf : m.short.first = Cell.none := by unfold Measure.first; rw [hc0]; rfl
    rw [hf] at hU43 hUc
    have hcs : Cell.none.small := hf ▸ Measure.small_first hm
    generalize hcc : Cell.none = c at hU43 hUc hcs
    have ce : (c.enc : AV) = .agg [.sc .nils, .sc .nils] := by rw [← hcc]; rfl
    simp -implicitDefEqProofs (maxDischargeDepth := 12) only [WW,List.replicate,e_splice,if_true,if_false,ite_true,ite_false,true_or,ne_eq,Nat.reduceAdd,Nat.reduceSub,Nat.reduceMul,Nat.reduceLeDiff,Nat.reduceEqDiff,Nat.reduceGT,Nat.reduceLT,Int.reduceLE,Int.reduceLT,Int.reduceToNat,Int.reduceAdd,reduceCtorEq,h_putc,beq_self_eq_true,eq_self,exists_eq_left,exists_eq_left', h0, ce, m.short.enc_eq, s.short.enc_eq]
    rw [← s.short.enc_eq]
    rw [ce] at hU43
    refine wA_pure rfl hU43 ?_
    simp -implicitDefEqProofs (maxDischargeDepth := 12) only [WW,List.replicate,e_splice,if_true,if_false,ite_true,ite_false,true_or,ne_eq,Nat.reduceAdd,Nat.reduceSub,Nat.reduceMul,Nat.reduceLeDiff,Nat.reduceEqDiff,Nat.reduceGT,Nat.reduceLT,Int.reduceLE,Int.reduceLT,Int.reduceToNat,Int.reduceAdd,reduceCtorEq,h_putc,beq_self_eq_true,eq_self,exists_eq_left,exists_eq_left', s.short.enc_eq, m.short.enc_eq, T.enc_eq, U.enc_eq]
    rw [← ce]
    generalize hH : AHeap.put _ 5 _ = H
    have k0 : H.cells 0 = some [.sc (.str s.short.title), .sc (.bool s.short.written), slm Part.enc s.short.parts, slm Measure.enc s.short.measures, slm Spanner.enc s.short.spanners, slm ID.enc s.short.last] := by subst hH; simp -implicitDefEqProofs (maxDischargeDepth := 12) only [WW,List.replicate,e_splice,if_true,if_false,ite_true,ite_false,true_or,ne_eq,Nat.reduceAdd,Nat.reduceSub,Nat.reduceMul,Nat.reduceLeDiff,Nat.reduceEqDiff,Nat.reduceGT,Nat.reduceLT,Int.reduceLE,Int.reduceLT,Int.reduceToNat,Int.reduceAdd,reduceCtorEq,h_putc,beq_self_eq_true,eq_self,exists_eq_left,exists_eq_left', s.short.enc_eq, T.enc_eq, U.enc_eq]
    have k1 : H.cells 1 = some m.short.enc.cells := by subst hH; simp -implicitDefEqProofs (maxDischargeDepth := 12) only [WW,List.replicate,e_splice,if_true,if_false,ite_true,ite_false,true_or,ne_eq,Nat.reduceAdd,Nat.reduceSub,Nat.reduceMul,Nat.reduceLeDiff,Nat.reduceEqDiff,Nat.reduceGT,Nat.reduceLT,Int.reduceLE,Int.reduceLT,Int.reduceToNat,Int.reduceAdd,reduceCtorEq,h_putc,beq_self_eq_true,eq_self,exists_eq_left,exists_eq_left', m.short.enc_eq]
    have k3 : H.cells 3 = some [.sc (.str T.title), .sc (.bool T.written), slm Part.enc T.parts, slm Measure.enc T.measures, slm Spanner.enc T.spanners, slm ID.enc T.last] := by subst hH; simp -implicitDefEqProofs (maxDischargeDepth := 12) only [WW,List.replicate,e_splice,if_true,if_false,ite_true,ite_false,true_or,ne_eq,Nat.reduceAdd,Nat.reduceSub,Nat.reduceMul,Nat.reduceLeDiff,Nat.reduceEqDiff,Nat.reduceGT,Nat.reduceLT,Int.reduceLE,Int.reduceLT,Int.reduceToNat,Int.reduceAdd,reduceCtorEq,h_putc,beq_self_eq_true,eq_self,exists_eq_left,exists_eq_left', T.enc_eq]
    have k4 : H.cells 4 = some [slm ClefChange.enc c.clefs, slm Voice.enc c.voices] := by subst hH; simp -implicitDefEqProofs (maxDischargeDepth := 12) only [WW,List.replicate,e_splice,if_true,if_false,ite_true,ite_false,true_or,ne_eq,Nat.reduceAdd,Nat.reduceSub,Nat.reduceMul,Nat.reduceLeDiff,Nat.reduceEqDiff,Nat.reduceGT,Nat.reduceLT,Int.reduceLE,Int.reduceLT,Int.reduceToNat,Int.reduceAdd,reduceCtorEq,h_putc,beq_self_eq_true,eq_self,exists_eq_left,exists_eq_left', c.enc_eq]; try (subst hcc; rfl)
    have k5 : H.cells 5 = some [.sc (.str U.title), .sc (.bool U.written), slm Part.enc U.parts, slm Measure.enc U.measures, slm Spanner.enc U.spanners, slm ID.enc U.last] := by subst hH; simp -implicitDefEqProofs (maxDischargeDepth := 12) only [WW,List.replicate,e_splice,if_true,if_false,ite_true,ite_false,true_or,ne_eq,Nat.reduceAdd,Nat.reduceSub,Nat.reduceMul,Nat.reduceLeDiff,Nat.reduceEqDiff,Nat.reduceGT,Nat.reduceLT,Int.reduceLE,Int.reduceLT,Int.reduceToNat,Int.reduceAdd,reduceCtorEq,h_putc,beq_self_eq_true,eq_self,exists_eq_left,exists_eq_left', U.enc_eq]
    clear hH
    simp only [m.short.enc_eq, c_agg] at k1
    rw [← s.short.enc_eq, ← m.short.enc_eq, ← T.enc_eq, ← U.enc_eq]
    refine wA_pure rfl known9_pv ?_
    simp -implicitDefEqProofs (maxDischargeDepth := 12) only [WW,List.replicate,e_splice,if_true,if_false,ite_true,ite_false,true_or,ne_eq,Nat.reduceAdd,Nat.reduceSub,Nat.reduceMul,Nat.reduceLeDiff,Nat.reduceEqDiff,Nat.reduceGT,Nat.reduceLT,Int.reduceLE,Int.reduceLT,Int.reduceToNat,Int.reduceAdd,reduceCtorEq,h_putc,beq_self_eq_true,eq_self,exists_eq_left,exists_eq_left']
    have tm := hs.measures
    have zT : ∀ X : Score, X.small → X = Score.none → Pv prog polP 31 [X.enc] (.sc (.bool true)) := fun X h1 h2 => by
      have := zero_pv (pol := polP) rfl rfl rfl rfl rfl X h1.tame
      rwa [decide_eq_true (by rw [h2])] at this
    rcases hTc with ⟨ho, rfl, hTe⟩ | ⟨n, rfl, hn, hne, rfl, hTe⟩ | ⟨n, rfl, hn, heq, rfl, hTe⟩
    · obtain ⟨rfl, hUe⟩ : F = 2 ∧ U = Score.none := by
        rcases hUc with ⟨_, h1, h2⟩ | ⟨n, y, rfl, hy, _⟩ | ⟨n, k, y, rfl, _, hy, _⟩
        · exact ⟨h1, h2⟩
        · have := (List.getElem?_eq_some_iff.1 hy).1; omega
        · have := (List.getElem?_eq_some_iff.1 hy).1; omega
      by_cases i0 : i < 0
      · simp -implicitDefEqProofs (maxDischargeDepth := 12) only [WW,List.replicate,e_splice,if_true,if_false,ite_true,ite_false,true_or,ne_eq,Nat.reduceAdd,Nat.reduceSub,Nat.reduceMul,Nat.reduceLeDiff,Nat.reduceEqDiff,Nat.reduceGT,Nat.reduceLT,Int.reduceLE,Int.reduceLT,Int.reduceToNat,Int.reduceAdd,reduceCtorEq,h_putc,beq_self_eq_true,eq_self,exists_eq_left,exists_eq_left', i0, k0, k3, k5]
        rw [← T.enc_eq]
        refine wA_pure rfl (zT T hTs hTe) ?_
        simp -implicitDefEqProofs (maxDischargeDepth := 12) only [WW,List.replicate,e_splice,if_true,if_false,ite_true,ite_false,true_or,ne_eq,Nat.reduceAdd,Nat.reduceSub,Nat.reduceMul,Nat.reduceLeDiff,Nat.reduceEqDiff,Nat.reduceGT,Nat.reduceLT,Int.reduceLE,Int.reduceLT,Int.reduceToNat,Int.reduceAdd,reduceCtorEq,h_putc,beq_self_eq_true,eq_self,exists_eq_left,exists_eq_left', k0, k3, k5]
        rw [← U.enc_eq]
        refine wA_pure rfl (zT U hUs hUe) ?_
        simp -implicitDefEqProofs (maxDischargeDepth := 12) only [WW,List.replicate,e_splice,if_true,if_false,ite_true,ite_false,true_or,ne_eq,Nat.reduceAdd,Nat.reduceSub,Nat.reduceMul,Nat.reduceLeDiff,Nat.reduceEqDiff,Nat.reduceGT,Nat.reduceLT,Int.reduceLE,Int.reduceLT,Int.reduceToNat,Int.reduceAdd,reduceCtorEq,h_putc,beq_self_eq_true,eq_self,exists_eq_left,exists_eq_left']
        exact frz_sc
      · have i1 : (s.short.measures.l.length : Int) ≤ i := by omega
        simp -implicitDefEqProofs (maxDischargeDepth := 12) only [WW,List.replicate,e_splice,if_true,if_false,ite_true,ite_false,true_or,ne_eq,Nat.reduceAdd,Nat.reduceSub,Nat.reduceMul,Nat.reduceLeDiff,Nat.reduceEqDiff,Nat.reduceGT,Nat.reduceLT,Int.reduceLE,Int.reduceLT,Int.reduceToNat,Int.reduceAdd,reduceCtorEq,h_putc,beq_self_eq_true,eq_self,exists_eq_left,exists_eq_left', i0, i1, k0, k3, k5]
        rw [← T.enc_eq]
        refine wA_pure rfl (zT T hTs hTe) ?_
        simp -implicitDefEqProofs (maxDischargeDepth := 12) only [WW,List.replicate,e_splice,if_true,if_false,ite_true,ite_false,true_or,ne_eq,Nat.reduceAdd,Nat.reduceSub,Nat.reduceMul,Nat.reduceLeDiff,Nat.reduceEqDiff,Nat.reduceGT,Nat.reduceLT,Int.reduceLE,Int.reduceLT,Int.reduceToNat,Int.reduceAdd,reduceCtorEq,h_putc,beq_self_eq_true,eq_self,exists_eq_left,exists_eq_left', k0, k3, k5]
        rw [← U.enc_eq]
        refine wA_pure rfl (zT U hUs hUe) ?_
        simp -implicitDefEqProofs (maxDischargeDepth := 12) only [WW,List.replicate,e_splice,if_true,if_false,ite_true,ite_false,true_or,ne_eq,Nat.reduceAdd,Nat.reduceSub,Nat.reduceMul,Nat.reduceLeDiff,Nat.reduceEqDiff,Nat.reduceGT,Nat.reduceLT,Int.reduceLE,Int.reduceLT,Int.reduceToNat,Int.reduceAdd,reduceCtorEq,h_putc,beq_self_eq_true,eq_self,exists_eq_left,exists_eq_left']
        exact frz_sc
    · have i0 : ¬ (n : Int) < 0 := by omega
      have i1 : ¬ (s.short.measures.l.length : Int) ≤ (n : Int) := by omega
      have i2 : ¬ (m.short.cells.l.length : Int) = (stavesOf s.short.parts.l : Int) := by omega
      simp -implicitDefEqProofs (maxDischargeDepth := 12) only [WW,List.replicate,e_splice,if_true,if_false,ite_true,ite_false,true_or,ne_eq,Nat.reduceAdd,Nat.reduceSub,Nat.reduceMul,Nat.reduceLeDiff,Nat.reduceEqDiff,Nat.reduceGT,Nat.reduceLT,Int.reduceLE,Int.reduceLT,Int.reduceToNat,Int.reduceAdd,reduceCtorEq,h_putc,beq_self_eq_true,eq_self,exists_eq_left,exists_eq_left', i0, i1, k0, k1, k3, k5]
      rw [← s.short.enc_eq]
      refine wA_pure rfl (rstaves_pv s.short hs.Tame.staves hs.Tame.parts) ?_
      simp -implicitDefEqProofs (maxDischargeDepth := 12) only [WW,List.replicate,e_splice,if_true,if_false,ite_true,ite_false,true_or,ne_eq,Nat.reduceAdd,Nat.reduceSub,Nat.reduceMul,Nat.reduceLeDiff,Nat.reduceEqDiff,Nat.reduceGT,Nat.reduceLT,Int.reduceLE,Int.reduceLT,Int.reduceToNat,Int.reduceAdd,reduceCtorEq,h_putc,beq_self_eq_true,eq_self,exists_eq_left,exists_eq_left', i2, k0, k1, k3, k5]
      rw [← T.enc_eq]
      refine wA_pure rfl (zT T hTs hTe) ?_
      rcases hUc with ⟨h1, _, _⟩ | ⟨n', y, hnn, hy, hj, rfl, hUe⟩ | ⟨n', k, y, hnn, rfl, hy, hk, rfl, hUe⟩
      · omega
      · obtain rfl : n = n' := by omega
        by_cases j0 : j < 0
        · simp -implicitDefEqProofs (maxDischargeDepth := 12) only [WW,List.replicate,e_splice,if_true,if_false,ite_true,ite_false,true_or,ne_eq,Nat.reduceAdd,Nat.reduceSub,Nat.reduceMul,Nat.reduceLeDiff,Nat.reduceEqDiff,Nat.reduceGT,Nat.reduceLT,Int.reduceLE,Int.reduceLT,Int.reduceToNat,Int.reduceAdd,reduceCtorEq,h_putc,beq_self_eq_true,eq_self,exists_eq_left,exists_eq_left', j0, i0, i1, k0, k1, k3, k5]
          rw [← U.enc_eq]
          refine wA_pure rfl (zT U hUs hUe) ?_
          simp -implicitDefEqProofs (maxDischargeDepth := 12) only [WW,List.replicate,e_splice,if_true,if_false,ite_true,ite_false,true_or,ne_eq,Nat.reduceAdd,Nat.reduceSub,Nat.reduceMul,Nat.reduceLeDiff,Nat.reduceEqDiff,Nat.reduceGT,Nat.reduceLT,Int.reduceLE,Int.reduceLT,Int.reduceToNat,Int.reduceAdd,reduceCtorEq,h_putc,beq_self_eq_true,eq_self,exists_eq_left,exists_eq_left']
          exact frz_sc
        · have j1 : (y.cells.l.length : Int) ≤ j := by omega
          simp -implicitDefEqProofs (maxDischargeDepth := 12) only [WW,List.replicate,e_splice,if_true,if_false,ite_true,ite_false,true_or,ne_eq,Nat.reduceAdd,Nat.reduceSub,Nat.reduceMul,Nat.reduceLeDiff,Nat.reduceEqDiff,Nat.reduceGT,Nat.reduceLT,Int.reduceLE,Int.reduceLT,Int.reduceToNat,Int.reduceAdd,reduceCtorEq,h_putc,beq_self_eq_true,eq_self,exists_eq_left,exists_eq_left', j0, j1, i0, i1, k0, k1, k3, k5, hy, y.enc_eq]
          rw [← U.enc_eq]
          refine wA_pure rfl (zT U hUs hUe) ?_
          simp -implicitDefEqProofs (maxDischargeDepth := 12) only [WW,List.replicate,e_splice,if_true,if_false,ite_true,ite_false,true_or,ne_eq,Nat.reduceAdd,Nat.reduceSub,Nat.reduceMul,Nat.reduceLeDiff,Nat.reduceEqDiff,Nat.reduceGT,Nat.reduceLT,Int.reduceLE,Int.reduceLT,Int.reduceToNat,Int.reduceAdd,reduceCtorEq,h_putc,beq_self_eq_true,eq_self,exists_eq_left,exists_eq_left']
          exact frz_sc
      · obtain rfl : n = n' := by omega
        have j0 : ¬ (k : Int) < 0 := by omega
        have j1 : ¬ (y.cells.l.length : Int) ≤ (k : Int) := by omega
        have hys := hs.meas y (List.mem_of_getElem? hy)
        simp -implicitDefEqProofs (maxDischargeDepth := 12) only [WW,List.replicate,e_splice,if_true,if_false,ite_true,ite_false,true_or,ne_eq,Nat.reduceAdd,Nat.reduceSub,Nat.reduceMul,Nat.reduceLeDiff,Nat.reduceEqDiff,Nat.reduceGT,Nat.reduceLT,Int.reduceLE,Int.reduceLT,Int.reduceToNat,Int.reduceAdd,reduceCtorEq,h_putc,beq_self_eq_true,eq_self,exists_eq_left,exists_eq_left', j0, j1, i0, i1, k0, k1, k3, k4, k5, hy, y.enc_eq]
        rw [← U.enc_eq, ← s.short.enc_eq, ← c.enc_eq]
        refine wA_pure rfl (rsetc_pv rfl s.short hs.Tame n k y hy hk c) ?_
        simp -implicitDefEqProofs (maxDischargeDepth := 12) only [WW,List.replicate,e_splice,if_true,if_false,ite_true,ite_false,true_or,ne_eq,Nat.reduceAdd,Nat.reduceSub,Nat.reduceMul,Nat.reduceLeDiff,Nat.reduceEqDiff,Nat.reduceGT,Nat.reduceLT,Int.reduceLE,Int.reduceLT,Int.reduceToNat,Int.reduceAdd,reduceCtorEq,h_putc,beq_self_eq_true,eq_self,exists_eq_left,exists_eq_left', k0, k1, k3, k5]
        refine wA_pure rfl (rprune_pv rfl rfl (s.short.setMeasure n (y.setCell k c)) (Score.small_setMeasure hs hn (Measure.small_setCell hys hk hcs)).Tame) ?_
        simp -implicitDefEqProofs (maxDischargeDepth := 12) only [WW,List.replicate,e_splice,if_true,if_false,ite_true,ite_false,true_or,ne_eq,Nat.reduceAdd,Nat.reduceSub,Nat.reduceMul,Nat.reduceLeDiff,Nat.reduceEqDiff,Nat.reduceGT,Nat.reduceLT,Int.reduceLE,Int.reduceLT,Int.reduceToNat,Int.reduceAdd,reduceCtorEq,h_putc,beq_self_eq_true,eq_self,exists_eq_left,exists_eq_left', k0, k1, k3, k5]
        refine wA_pure rfl (same_pv rfl rfl rfl rfl U (s.short.setMeasure n (y.setCell k c)).pruned hUs.tame) ?_
        rw [decide_eq_true hUe]
        simp -implicitDefEqProofs (maxDischargeDepth := 12) only [WW,List.replicate,e_splice,if_true,if_false,ite_true,ite_false,true_or,ne_eq,Nat.reduceAdd,Nat.reduceSub,Nat.reduceMul,Nat.reduceLeDiff,Nat.reduceEqDiff,Nat.reduceGT,Nat.reduceLT,Int.reduceLE,Int.reduceLT,Int.reduceToNat,Int.reduceAdd,reduceCtorEq,h_putc,beq_self_eq_true,eq_self,exists_eq_left,exists_eq_left']
        exact frz_sc
    · have i0 : ¬ (n : Int) < 0 := by omega
      have i1 : ¬ (s.short.measures.l.length : Int) ≤ (n : Int) := by omega
      have i2 : (m.short.cells.l.length : Int) = (stavesOf s.short.parts.l : Int) := by omega
      simp -implicitDefEqProofs (maxDischargeDepth := 12) only [WW,List.replicate,e_splice,if_true,if_false,ite_true,ite_false,true_or,ne_eq,Nat.reduceAdd,Nat.reduceSub,Nat.reduceMul,Nat.reduceLeDiff,Nat.reduceEqDiff,Nat.reduceGT,Nat.reduceLT,Int.reduceLE,Int.reduceLT,Int.reduceToNat,Int.reduceAdd,reduceCtorEq,h_putc,beq_self_eq_true,eq_self,exists_eq_left,exists_eq_left', i0, i1, k0, k1, k3, k5]
      rw [← s.short.enc_eq]
      refine wA_pure rfl (rstaves_pv s.short hs.Tame.staves hs.Tame.parts) ?_
      simp -implicitDefEqProofs (maxDischargeDepth := 12) only [WW,List.replicate,e_splice,if_true,if_false,ite_true,ite_false,true_or,ne_eq,Nat.reduceAdd,Nat.reduceSub,Nat.reduceMul,Nat.reduceLeDiff,Nat.reduceEqDiff,Nat.reduceGT,Nat.reduceLT,Int.reduceLE,Int.reduceLT,Int.reduceToNat,Int.reduceAdd,reduceCtorEq,h_putc,beq_self_eq_true,eq_self,exists_eq_left,exists_eq_left', i2, k0, k1, k3, k5]
      rw [← s.short.enc_eq, ← T.enc_eq, ← m.short.enc_eq]
      refine wA_pure rfl (rsetm_pv s.short hs.Tame n hn m.short) ?_
      simp -implicitDefEqProofs (maxDischargeDepth := 12) only [WW,List.replicate,e_splice,if_true,if_false,ite_true,ite_false,true_or,ne_eq,Nat.reduceAdd,Nat.reduceSub,Nat.reduceMul,Nat.reduceLeDiff,Nat.reduceEqDiff,Nat.reduceGT,Nat.reduceLT,Int.reduceLE,Int.reduceLT,Int.reduceToNat,Int.reduceAdd,reduceCtorEq,h_putc,beq_self_eq_true,eq_self,exists_eq_left,exists_eq_left', k0, k1, k3, k5]
      refine wA_pure rfl (rprune_pv rfl rfl (s.short.setMeasure n m.short) (Score.small_setMeasure hs hn hm).Tame) ?_
      simp -implicitDefEqProofs (maxDischargeDepth := 12) only [WW,List.replicate,e_splice,if_true,if_false,ite_true,ite_false,true_or,ne_eq,Nat.reduceAdd,Nat.reduceSub,Nat.reduceMul,Nat.reduceLeDiff,Nat.reduceEqDiff,Nat.reduceGT,Nat.reduceLT,Int.reduceLE,Int.reduceLT,Int.reduceToNat,Int.reduceAdd,reduceCtorEq,h_putc,beq_self_eq_true,eq_self,exists_eq_left,exists_eq_left', k0, k1, k3, k5]
      refine wA_pure rfl (same_pv rfl rfl rfl rfl T (s.short.setMeasure n m.short).pruned hTs.tame) ?_
      rw [decide_eq_true hTe]
      rcases hUc with ⟨h1, _, _⟩ | ⟨n', y, hnn, hy, hj, rfl, hUe⟩ | ⟨n', k, y, hnn, rfl, hy, hk, rfl, hUe⟩
      · omega
      · obtain rfl : n = n' := by omega
        by_cases j0 : j < 0
        · simp -implicitDefEqProofs (maxDischargeDepth := 12) only [WW,List.replicate,e_splice,if_true,if_false,ite_true,ite_false,true_or,ne_eq,Nat.reduceAdd,Nat.reduceSub,Nat.reduceMul,Nat.reduceLeDiff,Nat.reduceEqDiff,Nat.reduceGT,Nat.reduceLT,Int.reduceLE,Int.reduceLT,Int.reduceToNat,Int.reduceAdd,reduceCtorEq,h_putc,beq_self_eq_true,eq_self,exists_eq_left,exists_eq_left', j0, i0, i1, k0, k1, k3, k5]
          rw [← U.enc_eq]
          refine wA_pure rfl (zT U hUs hUe) ?_
          simp -implicitDefEqProofs (maxDischargeDepth := 12) only [WW,List.replicate,e_splice,if_true,if_false,ite_true,ite_false,true_or,ne_eq,Nat.reduceAdd,Nat.reduceSub,Nat.reduceMul,Nat.reduceLeDiff,Nat.reduceEqDiff,Nat.reduceGT,Nat.reduceLT,Int.reduceLE,Int.reduceLT,Int.reduceToNat,Int.reduceAdd,reduceCtorEq,h_putc,beq_self_eq_true,eq_self,exists_eq_left,exists_eq_left']
          exact frz_sc
        · have j1 : (y.cells.l.length : Int) ≤ j := by omega
          simp -implicitDefEqProofs (maxDischargeDepth := 12) only [WW,List.replicate,e_splice,if_true,if_false,ite_true,ite_false,true_or,ne_eq,Nat.reduceAdd,Nat.reduceSub,Nat.reduceMul,Nat.reduceLeDiff,Nat.reduceEqDiff,Nat.reduceGT,Nat.reduceLT,Int.reduceLE,Int.reduceLT,Int.reduceToNat,Int.reduceAdd,reduceCtorEq,h_putc,beq_self_eq_true,eq_self,exists_eq_left,exists_eq_left', j0, j1, i0, i1, k0, k1, k3, k5, hy, y.enc_eq]
          rw [← U.enc_eq]
          refine wA_pure rfl (zT U hUs hUe) ?_
          simp -implicitDefEqProofs (maxDischargeDepth := 12) only [WW,List.replicate,e_splice,if_true,if_false,ite_true,ite_false,true_or,ne_eq,Nat.reduceAdd,Nat.reduceSub,Nat.reduceMul,Nat.reduceLeDiff,Nat.reduceEqDiff,Nat.reduceGT,Nat.reduceLT,Int.reduceLE,Int.reduceLT,Int.reduceToNat,Int.reduceAdd,reduceCtorEq,h_putc,beq_self_eq_true,eq_self,exists_eq_left,exists_eq_left']
          exact frz_sc
      · obtain rfl : n = n' := by omega
        have j0 : ¬ (k : Int) < 0 := by omega
        have j1 : ¬ (y.cells.l.length : Int) ≤ (k : Int) := by omega
        have hys := hs.meas y (List.mem_of_getElem? hy)
        simp -implicitDefEqProofs (maxDischargeDepth := 12) only [WW,List.replicate,e_splice,if_true,if_false,ite_true,ite_false,true_or,ne_eq,Nat.reduceAdd,Nat.reduceSub,Nat.reduceMul,Nat.reduceLeDiff,Nat.reduceEqDiff,Nat.reduceGT,Nat.reduceLT,Int.reduceLE,Int.reduceLT,Int.reduceToNat,Int.reduceAdd,reduceCtorEq,h_putc,beq_self_eq_true,eq_self,exists_eq_left,exists_eq_left', j0, j1, i0, i1, k0, k1, k3, k4, k5, hy, y.enc_eq]
        rw [← U.enc_eq, ← s.short.enc_eq, ← c.enc_eq]
        refine wA_pure rfl (rsetc_pv rfl s.short hs.Tame n k y hy hk c) ?_
        simp -implicitDefEqProofs (maxDischargeDepth := 12) only [WW,List.replicate,e_splice,if_true,if_false,ite_true,ite_false,true_or,ne_eq,Nat.reduceAdd,Nat.reduceSub,Nat.reduceMul,Nat.reduceLeDiff,Nat.reduceEqDiff,Nat.reduceGT,Nat.reduceLT,Int.reduceLE,Int.reduceLT,Int.reduceToNat,Int.reduceAdd,reduceCtorEq,h_putc,beq_self_eq_true,eq_self,exists_eq_left,exists_eq_left', k0, k1, k3, k5]
        refine wA_pure rfl (rprune_pv rfl rfl (s.short.setMeasure n (y.setCell k c)) (Score.small_setMeasure hs hn (Measure.small_setCell hys hk hcs)).Tame) ?_
        simp -implicitDefEqProofs (maxDischargeDepth := 12) only [WW,List.replicate,e_splice,if_true,if_false,ite_true,ite_false,true_or,ne_eq,Nat.reduceAdd,Nat.reduceSub,Nat.reduceMul,Nat.reduceLeDiff,Nat.reduceEqDiff,Nat.reduceGT,Nat.reduceLT,Int.reduceLE,Int.reduceLT,Int.reduceToNat,Int.reduceAdd,reduceCtorEq,h_putc,beq_self_eq_true,eq_self,exists_eq_left,exists_eq_left', k0, k1, k3, k5]
        refine wA_pure rfl (same_pv rfl rfl rfl rfl U (s.short.setMeasure n (y.setCell k c)).pruned hUs.tame) ?_
        rw [decide_eq_true hUe]
        simp -implicitDefEqProofs (maxDischargeDepth := 12) only [WW,List.replicate,e_splice,if_true,if_false,ite_true,ite_false,true_or,ne_eq,Nat.reduceAdd,Nat.reduceSub,Nat.reduceMul,Nat.reduceLeDiff,Nat.reduceEqDiff,Nat.reduceGT,Nat.reduceLT,Int.reduceLE,Int.reduceLT,Int.reduceToNat,Int.reduceAdd,reduceCtorEq,h_putc,beq_self_eq_true,eq_self,exists_eq_left,exists_eq_left']
        exact frz_sc
end Go.Hem
