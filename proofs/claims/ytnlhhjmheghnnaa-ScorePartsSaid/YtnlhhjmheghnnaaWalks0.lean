/- Walks. -/
import Derived.Test.YtnlhhjmheghnnaaHemCode
import Derived.Test.YtnlhhjmheghnnaaHemData
import Derived.Test.YtnlhhjmheghnnaaHemBun
import Derived.Test.YtnlhhjmheghnnaaHemRange
import Derived.Test.YtnlhhjmheghnnaaHemCode2
set_option maxRecDepth 10000
set_option linter.unusedSimpArgs false
set_option linter.unusedVariables false
namespace Go.Hem
noncomputable abbrev prog:=Go.Proofs.Try.prog
variable {pol : Pol}
def stavesOf (l : List Part) : Nat:=(l.map fun p => p.staves.l.length).sum
theorem stavesOf_take {l : List Part} {i : Nat} {p : Part} (h : l[i]? = some p) : stavesOf (l.take (i + 1)) = stavesOf (l.take i) + p.staves.l.length:=by
  simp [stavesOf,List.take_add_one,h]
theorem stavesOf_le {l : List Part} {i : Nat} : stavesOf (l.take i) ≤ stavesOf l:=by
  have h : stavesOf (l.take i ++ l.drop i) = stavesOf (l.take i) + stavesOf (l.drop i):=by simp [stavesOf,-List.take_append_drop]
  rw [List.take_append_drop] at h
  omega
theorem staves_pv (x : Score) (hx : stavesOf x.parts.l < 1000000) (hl : x.parts.l.length < 1000000) : Pv prog pol 23 [x.enc] (.sc (.int .i64 (stavesOf x.parts.l))):=by
  refine Pv_of ok23 (by simp [AV.closedBs,Score.enc_closed]) ?_
  simp -implicitDefEqProofs (maxDischargeDepth:=12) only [wpF,cf23,WW,List.replicate,e_splice,if_true,if_false,ite_true,ite_false,true_or,ne_eq,seval,h_putc,beq_self_eq_true,eq_self,exists_eq_left,exists_eq_left',ID.enc,Place.enc,O.enc,Interval.enc,Staff.enc,Part.enc,Metre.enc,ClefChange.enc,Tuplet.enc,Pitch.enc,Head.enc,Grace.enc,Syllable.enc,Val.enc,Event.enc,Voice.enc,Cell.enc,Tempo.enc,Measure.enc,Spanner.enc,Score.enc]
  refine wp_loop (Inv:=fun k t H => ∃ (i : Nat) (x5 x6 x10 x11 x12 x13 x14 x15 x16 x17 x18 : AV),i + k = x.parts.l.length∧t = [x.enc,.ptr 0 0,.sc (.int .i64 0),.sc (.int .i64 (stavesOf (x.parts.l.take i))),.sc .undef,x5,x6,slm Part.enc x.parts,
     .sc (.int .i64 x.parts.l.length),.sc (.int .i64 i),x10,x11,x12,x13,x14,x15,x16,x17,x18,.sc .undef]) (k:=x.parts.l.length) ?_ ⟨0,_,_,_,_,_,_,_,_,_,_,_,Nat.zero_add _,by simp only [List.take_zero,show stavesOf [] = 0 from rfl,Int.natCast_zero,Int.cast_ofNat_Int]; rfl⟩
  rintro k t H ⟨i,x5,x6,x10,x11,x12,x13,x14,x15,x16,x17,x18,hk,rfl⟩
  simp -implicitDefEqProofs (maxDischargeDepth:=12) only [WW,List.replicate,e_splice,if_true,if_false,ite_true,ite_false,true_or,ne_eq,seval,h_putc,beq_self_eq_true,eq_self,exists_eq_left,exists_eq_left']
  refine wB_of (fun hc => ?_) (fun hc => ?_)
  · simp only [decide_eq_true_eq] at hc
    have hi : i < x.parts.l.length:=by omega
    obtain ⟨p,hp⟩ : ∃ p,x.parts.l[i]? = some p:=⟨_,List.getElem?_eq_getElem hi⟩
    have h1:=stavesOf_take hp
    have h2 : stavesOf (x.parts.l.take (i + 1)) ≤ _:=stavesOf_le
    have e1 : IntKind.i64.wrap ((stavesOf (x.parts.l.take i) : Int) + (p.staves.l.length : Int)) = (stavesOf (x.parts.l.take (i + 1)) : Int):=by rw [w64 (by omega) (by omega)]; omega
    have e2 : IntKind.i64.wrap ((i : Int) + 1) = ((i + 1 : Nat) : Int):=by rw [w64 (by omega) (by omega)]; omega
    simp -implicitDefEqProofs (maxDischargeDepth:=12) only [WW,List.replicate,e_splice,if_true,if_false,ite_true,ite_false,true_or,ne_eq,seval,h_putc,beq_self_eq_true,eq_self,exists_eq_left,exists_eq_left',hp,Part.enc,e1,e2]
    exact ⟨k - 1,by omega,i + 1,_,_,_,_,_,_,_,_,_,_,_,by omega,rfl⟩
  · simp only [decide_eq_false_iff_not] at hc
    have hi : i = x.parts.l.length:=by omega
    subst hi
    simp -implicitDefEqProofs (maxDischargeDepth:=12) only [WW,List.replicate,e_splice,if_true,if_false,ite_true,ite_false,true_or,ne_eq,seval,h_putc,beq_self_eq_true,eq_self,exists_eq_left,exists_eq_left']
    rw [List.take_length]
    exact ⟨_,freeze_sc⟩
end Go.Hem
namespace Go.Hem
variable {pol : Pol}
end Go.Hem
set_option maxHeartbeats 4000000
namespace Go.Hem
variable {pol : Pol}
theorem row_O : RowOf 9 O.enc:=⟨by decide,fun _ => ⟨rfl,rfl⟩⟩
theorem of_snoc' {α : Type} {l : List α} {y : α} : (some (Sl.l (Sl.of l) ++ [y]) : Sl α) = Sl.of (l ++ [y]):=by
  rw [l_of]; unfold Sl.of; cases l <;> rfl
def oPart (i : Nat) (p : Part) : O:=⟨p.id,⟨1,i,0,0,0,0,0⟩⟩
def oStaff (st : Nat) (p : Staff) : O:=⟨p.id,⟨2,0,st,0,0,0,0⟩⟩
def oMeasure (m : Nat) (x : Measure) : O:=⟨x.id,⟨3,0,0,m,0,0,0⟩⟩
def oEvent (m c v e : Nat) (x : Event) : O:=⟨x.id,⟨4,0,c,m,v,e,0⟩⟩
def oSpanner (i : Nat) (x : Spanner) : O:=⟨x.id,⟨5,0,0,0,0,0,i⟩⟩
def objStaves (st : Nat) : List Staff→List O
  | [] => []
  | s :: r => oStaff st s :: objStaves (st + 1) r
def objParts (i st : Nat) : List Part→List O
  | [] => []
  | p :: r => oPart i p :: (objStaves st p.staves.l ++ objParts (i + 1) (st + p.staves.l.length) r)
def objEvents (m c v e : Nat) : List Event→List O
  | [] => []
  | x :: r => oEvent m c v e x :: objEvents m c v (e + 1) r
def objVoices (m c v : Nat) : List Voice→List O
  | [] => []
  | x :: r => objEvents m c v 0 x.events.l ++ objVoices m c (v + 1) r
def objCells (m c : Nat) : List Cell→List O
  | [] => []
  | x :: r => objVoices m c 0 x.voices.l ++ objCells m (c + 1) r
def objMeasures (m : Nat) : List Measure→List O
  | [] => []
  | x :: r => oMeasure m x :: (objCells m 0 x.cells.l ++ objMeasures (m + 1) r)
def objSpanners (i : Nat) : List Spanner→List O
  | [] => []
  | x :: r => oSpanner i x :: objSpanners (i + 1) r
def objs (s : Score) : List O:=objParts 0 0 s.parts.l ++ (objMeasures 0 s.measures.l ++ objSpanners 0 s.spanners.l)
section
variable {m c v e i st : Nat}
theorem drop_cons {α : Type} {l : List α} {i : Nat} {y : α} (h : l[i]? = some y) : l.drop i = y :: l.drop (i + 1):=by
  obtain ⟨hi,rfl⟩:=List.getElem?_eq_some_iff.1 h
  exact List.drop_eq_getElem_cons hi
theorem drop_end {α : Type} {l : List α} {i : Nat} (h : ¬ ((i : Int) < (l.length : Int))) : l.drop i = []:=List.drop_of_length_le (by omega)
theorem len_pre {a b : List O} {s : Score} (h : a ++ b = objs s) : a.length ≤ (objs s).length:=by rw [← h]; simp
theorem stavesOf_at {l : List Part} {i : Nat} {p : Part} (h : l[i]? = some p) : stavesOf (l.take i) + p.staves.l.length ≤ stavesOf l:=by
  rw [← stavesOf_take h]; exact stavesOf_le
end
structure Tame (s : Score) : Prop where
  objs : (objs s).length < 1000000
  staves : stavesOf s.parts.l < 1000000
  parts : s.parts.l.length < 1000000
  measures : s.measures.l.length < 1000000
  spanners : s.spanners.l.length < 1000000
  cells : ∀ (m : Nat) y,s.measures.l[m]? = some y→y.cells.l.length < 1000000
  voices : ∀ (m : Nat) y (c : Nat) q,s.measures.l[m]? = some y→y.cells.l[c]? = some q→q.voices.l.length < 1000000
  events : ∀ (m : Nat) y (c : Nat) q (v : Nat) z,s.measures.l[m]? = some y→y.cells.l[c]? = some q→q.voices.l[v]? = some z→z.events.l.length < 1000000
theorem robjects_pv (s : Score) (hT : Tame s) : Pv prog pol 16 [s.enc] (slm O.enc (Sl.of (objs s))):=by
  obtain ⟨hs,hst,hl1,hl2,hl3,hT1,hT2,hT3⟩:=hT
  refine Pv_of' ok16 (by simp only [AV.closedBs,Score.enc_closed,Bool.and_self]) ?_
  simp -implicitDefEqProofs (maxDischargeDepth:=12) only [wpF,cf16,WW,List.replicate,e_splice,if_true,if_false,ite_true,ite_false,true_or,ne_eq,seval,h_putc,beq_self_eq_true,eq_self,exists_eq_left,exists_eq_left',s.enc_eq]
  -- the parts
  refine wp_loop (Inv:=fun k t H => ∃ (i : Nat) (fp : List Nat) (done : List O) (a : AV),i + k = s.parts.l.length∧H.cells 0 = some s.enc.cells∧done ++ (objParts i (stavesOf (s.parts.l.take i)) (s.parts.l.drop i) ++ (objMeasures 0 s.measures.l ++ objSpanners 0 s.spanners.l)) = objs s ∧
    Acc 1 9 O.enc H a (Sl.of done) fp∧(∀ b ∈ fp,1 ≤ b) ∧
    ∃ x : Nat→AV,t = [s.enc,.ptr 0 0,.sc .nils,a,.sc (.int .i64 (stavesOf (s.parts.l.take i))),.sc (.int .i64 i),x 6,x 7,x 8,x 9,x 10,x 11,x 12,x 13,x 14,x 15,x 16,x 17,x 18,x 19,x 20,x 21,x 22,x 23,x 24,x 25,x 26,x 27,x 28,x 29,x 30,x 31,x 32,x 33,x 34,x 35,x 36,x 37,x 38,x 39,x 40,x 41,x 42,x 43,x 44,x 45,x 46,x 47,x 48,x 49,x 50,x 51,x 52,x 53,x 54,x 55,x 56,x 57,x 58,x 59,x 60,x 61,x 62,x 63,x 64,x 65,x 66,x 67,x 68,x 69,x 70,x 71,x 72,x 73,x 74,x 75,x 76,x 77,x 78,x 79,x 80,x 81,x 82,x 83,x 84,x 85,x 86,x 87,x 88,x 89,x 90,x 91,x 92,x 93,x 94,x 95,x 96,x 97,x 98,x 99,x 100,x 101,x 102,x 103,x 104,x 105,x 106,x 107,x 108,x 109,x 110,x 111,x 112,x 113,x 114,x 115,x 116,x 117,x 118,x 119,x 120,x 121,x 122,x 123,x 124,x 125,x 126,x 127,x 128,x 129,x 130,x 131,x 132,x 133,x 134,x 135,x 136,x 137,x 138,x 139,x 140,x 141,x 142,x 143,x 144,x 145,x 146,x 147,x 148,x 149,x 150,x 151,x 152,x 153,x 154]) (k:=s.parts.l.length) ?_
    ⟨0,[],[],_,by omega,?_,rfl,acc_none,by simp,ex_x rfl⟩
  rotate_left
  · simp -implicitDefEqProofs (maxDischargeDepth:=12) only [WW,List.replicate,e_splice,if_true,if_false,ite_true,ite_false,true_or,ne_eq,seval,h_putc,beq_self_eq_true,eq_self,exists_eq_left,exists_eq_left']; rfl
  rintro k t H ⟨i,fp,done,a,hk,hH0,hd,hA,hfp,x,rfl⟩
  simp only [s.enc_eq,c_agg] at hH0
  by_cases h1 : (i : Int) < (s.parts.l.length : Int)
  · obtain ⟨p,hp⟩ : ∃ y,s.parts.l[i]? = some y:=⟨_,List.getElem?_eq_getElem (by omega)⟩
    have e2 : IntKind.i64.wrap ((i : Int) + 1) = ((i + 1 : Nat) : Int):=by rw [w64 (by omega) (by omega)]; omega
    have hst2:=stavesOf_at hp
    simp -implicitDefEqProofs (maxDischargeDepth:=12) only [WW,List.replicate,e_splice,if_true,if_false,ite_true,ite_false,true_or,ne_eq,seval,h_putc,beq_self_eq_true,eq_self,exists_eq_left,exists_eq_left',hH0,h1,hp,p.enc_eq]
    -- oPart i p: the list's fact,drop_cons hp,objParts: what is added,$3: the element's fact
    refine wA_app2 row_O hA (by repeat (first | exact Keep.refl | refine Keep.put (by (try simp only [AHeap.next_alloc,AHeap.next_put]); omega) ?_ | refine Keep.alloc (by (try simp only [AHeap.next_alloc,AHeap.next_put]); omega) ?_)) (by simp) (ys:=[oPart i p]) (by simp) rfl (asrc_new (by simp) rfl) (own_one (O.enc_plain _) rfl) Apart.nil_right ?_ ?_
    · rw [l_of]; have:=len_pre hd; simp only [List.length_cons,List.length_nil]; omega
    intro v' H2 fp' hA' hn2 hk2 hfp2 ho2 hc2
    rw [of_snoc'] at hA'
    have g0:=(hk2 0 (fun h => by have:=hfp 0 h; omega) (h_lt hH0)).trans hH0
    have hfp3 : ∀ b ∈ fp',1 ≤ b:=fun b hb => by
      rcases hfp2 b hb with h | h | h
      · exact hfp b h
      · simp at h
      · have:=h_lt hH0; omega
    have hd':=hd
    rw [drop_cons hp,objParts] at hd'
    try simp only [List.cons_append] at hd'
    rw [List.append_cons] at hd'
    simp -implicitDefEqProofs (maxDischargeDepth:=12) only [WW,List.replicate,e_splice,if_true,if_false,ite_true,ite_false,true_or,ne_eq,seval,h_putc,beq_self_eq_true,eq_self,exists_eq_left,exists_eq_left']
    -- its staves
    refine wp_loop (Inv:=fun k t H => ∃ (j : Nat) (fp : List Nat) (done : List O) (a : AV),j + k = p.staves.l.length∧H.cells 0 = some s.enc.cells∧done ++ (objStaves (stavesOf (s.parts.l.take i) + j) (p.staves.l.drop j) ++ objParts (i + 1) (stavesOf (s.parts.l.take i) + p.staves.l.length) (s.parts.l.drop (i + 1)) ++ (objMeasures 0 s.measures.l ++ objSpanners 0 s.spanners.l)) = objs s ∧
      Acc 1 9 O.enc H a (Sl.of done) fp∧(∀ b ∈ fp,1 ≤ b) ∧
      ∃ x : Nat→AV,t = [s.enc,.ptr 0 0,.sc .nils,a,.sc (.int .i64 ((stavesOf (s.parts.l.take i) + j : Nat) : Int)),.sc (.int .i64 i),.sc (.int .i64 j),x 7,x 8,x 9,x 10,x 11,x 12,x 13,x 14,x 15,x 16,x 17,x 18,x 19,x 20,x 21,x 22,x 23,x 24,x 25,x 26,x 27,x 28,x 29,x 30,x 31,x 32,x 33,x 34,x 35,x 36,x 37,x 38,x 39,x 40,x 41,x 42,x 43,x 44,x 45,x 46,x 47,x 48,x 49,x 50,x 51,x 52,x 53,x 54,x 55,x 56,x 57,x 58,x 59,x 60,x 61,x 62,x 63,x 64,x 65,x 66,x 67,x 68,x 69,x 70,x 71,x 72,x 73,x 74,x 75,x 76,x 77,x 78,x 79,x 80,x 81,x 82,x 83,x 84,x 85,x 86,x 87,x 88,x 89,x 90,x 91,x 92,x 93,x 94,x 95,x 96,x 97,x 98,x 99,x 100,x 101,x 102,x 103,x 104,x 105,x 106,x 107,x 108,x 109,x 110,x 111,x 112,x 113,x 114,x 115,x 116,x 117,x 118,x 119,x 120,x 121,x 122,x 123,x 124,x 125,x 126,x 127,x 128,x 129,x 130,x 131,x 132,x 133,x 134,x 135,x 136,x 137,x 138,x 139,x 140,x 141,x 142,x 143,x 144,x 145,x 146,x 147,x 148,x 149,x 150,x 151,x 152,x 153,x 154]) (k:=p.staves.l.length) ?_
      ⟨0,fp',done ++ [oPart i p],_,by omega,g0,by simpa using hd',hA',hfp3,ex_x rfl⟩
    clear hA' hA hH0 g0 hd hd' hfp hfp2 hfp3 hk2 hn2 x hc2 ho2
    rintro k' t H ⟨j,fp,done,a,hk',hH0,hd,hA,hfp,x,rfl⟩
    simp only [s.enc_eq,c_agg] at hH0
    by_cases h3 : (j : Int) < (p.staves.l.length : Int)
    · obtain ⟨q,hq⟩ : ∃ y,p.staves.l[j]? = some y:=⟨_,List.getElem?_eq_getElem (by omega)⟩
      have e3 : IntKind.i64.wrap ((j : Int) + 1) = ((j + 1 : Nat) : Int):=by rw [w64 (by omega) (by omega)]; omega
      have e4 : IntKind.i64.wrap (((stavesOf (s.parts.l.take i) + j : Nat) : Int) + 1) = ((stavesOf (s.parts.l.take i) + (j + 1) : Nat) : Int):=by rw [w64 (by omega) (by omega)]; omega
      simp -implicitDefEqProofs (maxDischargeDepth:=12) only [WW,List.replicate,e_splice,if_true,if_false,ite_true,ite_false,true_or,ne_eq,seval,h_putc,beq_self_eq_true,eq_self,exists_eq_left,exists_eq_left',hH0,h3,hp,hq,p.enc_eq,q.enc_eq]
      -- oStaff (stavesOf (s.parts.l.take i) + j) q: the list's fact,drop_cons hq,objStaves: what is added,$3: the element's fact
      refine wA_app2 row_O hA (by repeat (first | exact Keep.refl | refine Keep.put (by (try simp only [AHeap.next_alloc,AHeap.next_put]); omega) ?_ | refine Keep.alloc (by (try simp only [AHeap.next_alloc,AHeap.next_put]); omega) ?_)) (by simp) (ys:=[oStaff (stavesOf (s.parts.l.take i) + j) q]) (by simp) rfl (asrc_new (by simp) rfl) (own_one (O.enc_plain _) rfl) Apart.nil_right ?_ ?_
      · rw [l_of]; have:=len_pre hd; simp only [List.length_cons,List.length_nil]; omega
      intro v' H2 fp' hA' hn2 hk2 hfp2 ho2 hc2
      rw [of_snoc'] at hA'
      have g0:=(hk2 0 (fun h => by have:=hfp 0 h; omega) (h_lt hH0)).trans hH0
      have hfp3 : ∀ b ∈ fp',1 ≤ b:=fun b hb => by
        rcases hfp2 b hb with h | h | h
        · exact hfp b h
        · simp at h
        · have:=h_lt hH0; omega
      have hd':=hd
      rw [drop_cons hq,objStaves] at hd'
      try simp only [List.cons_append] at hd'
      rw [List.append_cons] at hd'
      simp -implicitDefEqProofs (maxDischargeDepth:=12) only [WW,List.replicate,e_splice,if_true,if_false,ite_true,ite_false,true_or,ne_eq,seval,h_putc,beq_self_eq_true,eq_self,exists_eq_left,exists_eq_left',e3,e4]
      exact ⟨k' - 1,by omega,j + 1,fp',_,v',by omega,g0,by simpa [Nat.add_assoc] using hd',hA',hfp3,ex_x rfl⟩
    · have hj : j = p.staves.l.length:=by omega
      simp -implicitDefEqProofs (maxDischargeDepth:=12) only [WW,List.replicate,e_splice,if_true,if_false,ite_true,ite_false,true_or,ne_eq,seval,h_putc,beq_self_eq_true,eq_self,exists_eq_left,exists_eq_left',hH0,h3,hp,p.enc_eq,e2]
      rw [drop_end h3] at hd
      simp only [objStaves,List.nil_append] at hd
      rw [hj,← stavesOf_take hp]
      rw [← stavesOf_take hp] at hd
      exact ⟨k - 1,by omega,i + 1,fp,done,a,by omega,rfl,hd,hA,hfp,ex_x rfl⟩
  · simp -implicitDefEqProofs (maxDischargeDepth:=12) only [WW,List.replicate,e_splice,if_true,if_false,ite_true,ite_false,true_or,ne_eq,seval,h_putc,beq_self_eq_true,eq_self,exists_eq_left,exists_eq_left',hH0,h1]
    rw [drop_end h1] at hd
    simp only [objParts,List.nil_append] at hd
    -- the measures
    refine wp_loop (Inv:=fun k t H => ∃ (m : Nat) (fp : List Nat) (done : List O) (a : AV),m + k = s.measures.l.length∧H.cells 0 = some s.enc.cells∧done ++ (objMeasures m (s.measures.l.drop m) ++ objSpanners 0 s.spanners.l) = objs s ∧
      Acc 1 9 O.enc H a (Sl.of done) fp∧(∀ b ∈ fp,1 ≤ b) ∧
      ∃ x : Nat→AV,t = [s.enc,.ptr 0 0,.sc .nils,a,x 4,x 5,x 6,.sc (.int .i64 m),x 8,x 9,x 10,x 11,x 12,x 13,x 14,x 15,x 16,x 17,x 18,x 19,x 20,x 21,x 22,x 23,x 24,x 25,x 26,x 27,x 28,x 29,x 30,x 31,x 32,x 33,x 34,x 35,x 36,x 37,x 38,x 39,x 40,x 41,x 42,x 43,x 44,x 45,x 46,x 47,x 48,x 49,x 50,x 51,x 52,x 53,x 54,x 55,x 56,x 57,x 58,x 59,x 60,x 61,x 62,x 63,x 64,x 65,x 66,x 67,x 68,x 69,x 70,x 71,x 72,x 73,x 74,x 75,x 76,x 77,x 78,x 79,x 80,x 81,x 82,x 83,x 84,x 85,x 86,x 87,x 88,x 89,x 90,x 91,x 92,x 93,x 94,x 95,x 96,x 97,x 98,x 99,x 100,x 101,x 102,x 103,x 104,x 105,x 106,x 107,x 108,x 109,x 110,x 111,x 112,x 113,x 114,x 115,x 116,x 117,x 118,x 119,x 120,x 121,x 122,x 123,x 124,x 125,x 126,x 127,x 128,x 129,x 130,x 131,x 132,x 133,x 134,x 135,x 136,x 137,x 138,x 139,x 140,x 141,x 142,x 143,x 144,x 145,x 146,x 147,x 148,x 149,x 150,x 151,x 152,x 153,x 154]) (k:=s.measures.l.length) ?_
      ⟨0,fp,done,_,by omega,hH0,by simpa using hd,hA,hfp,ex_x rfl⟩
    clear hA hH0 hd hfp x h1 hk
    rintro k t H ⟨m,fp,done,a,hk,hH0,hd,hA,hfp,x,rfl⟩
    simp only [s.enc_eq,c_agg] at hH0
    by_cases h1 : (m : Int) < (s.measures.l.length : Int)
    · obtain ⟨y,hy⟩ : ∃ y,s.measures.l[m]? = some y:=⟨_,List.getElem?_eq_getElem (by omega)⟩
      have e2 : IntKind.i64.wrap ((m : Int) + 1) = ((m + 1 : Nat) : Int):=by rw [w64 (by omega) (by omega)]; omega
      simp -implicitDefEqProofs (maxDischargeDepth:=12) only [WW,List.replicate,e_splice,if_true,if_false,ite_true,ite_false,true_or,ne_eq,seval,h_putc,beq_self_eq_true,eq_self,exists_eq_left,exists_eq_left',hH0,h1,hy,y.enc_eq]
      -- oMeasure m y: the list's fact,drop_cons hy,objMeasures: what is added,$3: the element's fact
      refine wA_app2 row_O hA (by repeat (first | exact Keep.refl | refine Keep.put (by (try simp only [AHeap.next_alloc,AHeap.next_put]); omega) ?_ | refine Keep.alloc (by (try simp only [AHeap.next_alloc,AHeap.next_put]); omega) ?_)) (by simp) (ys:=[oMeasure m y]) (by simp) rfl (asrc_new (by simp) rfl) (own_one (O.enc_plain _) rfl) Apart.nil_right ?_ ?_
      · rw [l_of]; have:=len_pre hd; simp only [List.length_cons,List.length_nil]; omega
      intro v' H2 fp' hA' hn2 hk2 hfp2 ho2 hc2
      rw [of_snoc'] at hA'
      have g0:=(hk2 0 (fun h => by have:=hfp 0 h; omega) (h_lt hH0)).trans hH0
      have hfp3 : ∀ b ∈ fp',1 ≤ b:=fun b hb => by
        rcases hfp2 b hb with h | h | h
        · exact hfp b h
        · simp at h
        · have:=h_lt hH0; omega
      have hd':=hd
      rw [drop_cons hy,objMeasures] at hd'
      try simp only [List.cons_append] at hd'
      rw [List.append_cons] at hd'
      simp -implicitDefEqProofs (maxDischargeDepth:=12) only [WW,List.replicate,e_splice,if_true,if_false,ite_true,ite_false,true_or,ne_eq,seval,h_putc,beq_self_eq_true,eq_self,exists_eq_left,exists_eq_left']
      -- its cells
      refine wp_loop (Inv:=fun k t H => ∃ (c : Nat) (fp : List Nat) (done : List O) (a : AV),c + k = y.cells.l.length∧H.cells 0 = some s.enc.cells∧done ++ (objCells m c (y.cells.l.drop c) ++ objMeasures (m + 1) (s.measures.l.drop (m + 1)) ++ objSpanners 0 s.spanners.l) = objs s ∧
        Acc 1 9 O.enc H a (Sl.of done) fp∧(∀ b ∈ fp,1 ≤ b) ∧
        ∃ x : Nat→AV,t = [s.enc,.ptr 0 0,.sc .nils,a,x 4,x 5,x 6,.sc (.int .i64 m),.sc (.int .i64 c),x 9,x 10,x 11,x 12,x 13,x 14,x 15,x 16,x 17,x 18,x 19,x 20,x 21,x 22,x 23,x 24,x 25,x 26,x 27,x 28,x 29,x 30,x 31,x 32,x 33,x 34,x 35,x 36,x 37,x 38,x 39,x 40,x 41,x 42,x 43,x 44,x 45,x 46,x 47,x 48,x 49,x 50,x 51,x 52,x 53,x 54,x 55,x 56,x 57,x 58,x 59,x 60,x 61,x 62,x 63,x 64,x 65,x 66,x 67,x 68,x 69,x 70,x 71,x 72,x 73,x 74,x 75,x 76,x 77,x 78,x 79,x 80,x 81,x 82,x 83,x 84,x 85,x 86,x 87,x 88,x 89,x 90,x 91,x 92,x 93,x 94,x 95,x 96,x 97,x 98,x 99,x 100,x 101,x 102,x 103,x 104,x 105,x 106,x 107,x 108,x 109,x 110,x 111,x 112,x 113,x 114,x 115,x 116,x 117,x 118,x 119,x 120,x 121,x 122,x 123,x 124,x 125,x 126,x 127,x 128,x 129,x 130,x 131,x 132,x 133,x 134,x 135,x 136,x 137,x 138,x 139,x 140,x 141,x 142,x 143,x 144,x 145,x 146,x 147,x 148,x 149,x 150,x 151,x 152,x 153,x 154]) (k:=y.cells.l.length) ?_
        ⟨0,fp',done ++ [oMeasure m y],_,by omega,g0,by simpa using hd',hA',hfp3,ex_x rfl⟩
      clear hA' hA hH0 g0 hd hd' hfp hfp2 hfp3 hk2 hn2 x hc2 ho2
      rintro k' t H ⟨c,fp,done,a,hk',hH0,hd,hA,hfp,x,rfl⟩
      simp only [s.enc_eq,c_agg] at hH0
      by_cases h3 : (c : Int) < (y.cells.l.length : Int)
      · obtain ⟨q,hq⟩ : ∃ q,y.cells.l[c]? = some q:=⟨_,List.getElem?_eq_getElem (by omega)⟩
        simp -implicitDefEqProofs (maxDischargeDepth:=12) only [WW,List.replicate,e_splice,if_true,if_false,ite_true,ite_false,true_or,ne_eq,seval,h_putc,beq_self_eq_true,eq_self,exists_eq_left,exists_eq_left',hH0,h3,hy,hq,y.enc_eq,q.enc_eq]
        rw [drop_cons hq] at hd
        simp only [objCells] at hd
        -- its voices
        refine wp_loop (Inv:=fun k t H => ∃ (v : Nat) (fp : List Nat) (done : List O) (a : AV),v + k = q.voices.l.length∧H.cells 0 = some s.enc.cells∧done ++ (objVoices m c v (q.voices.l.drop v) ++ objCells m (c + 1) (y.cells.l.drop (c + 1)) ++ objMeasures (m + 1) (s.measures.l.drop (m + 1)) ++ objSpanners 0 s.spanners.l) = objs s ∧
          Acc 1 9 O.enc H a (Sl.of done) fp∧(∀ b ∈ fp,1 ≤ b) ∧
          ∃ x : Nat→AV,t = [s.enc,.ptr 0 0,.sc .nils,a,x 4,x 5,x 6,.sc (.int .i64 m),.sc (.int .i64 c),slm Voice.enc q.voices,.sc (.int .i64 v),x 11,x 12,x 13,x 14,x 15,x 16,x 17,x 18,x 19,x 20,x 21,x 22,x 23,x 24,x 25,x 26,x 27,x 28,x 29,x 30,x 31,x 32,x 33,x 34,x 35,x 36,x 37,x 38,x 39,x 40,x 41,x 42,x 43,x 44,x 45,x 46,x 47,x 48,x 49,x 50,x 51,x 52,x 53,x 54,x 55,x 56,x 57,x 58,x 59,x 60,x 61,x 62,x 63,x 64,x 65,x 66,x 67,x 68,x 69,x 70,x 71,x 72,x 73,x 74,x 75,x 76,x 77,x 78,x 79,x 80,x 81,x 82,x 83,x 84,x 85,x 86,x 87,x 88,x 89,x 90,x 91,x 92,x 93,x 94,x 95,x 96,x 97,x 98,x 99,x 100,x 101,x 102,x 103,x 104,x 105,x 106,x 107,x 108,x 109,x 110,x 111,x 112,x 113,x 114,x 115,x 116,x 117,x 118,x 119,x 120,x 121,x 122,x 123,x 124,x 125,x 126,x 127,x 128,x 129,x 130,x 131,x 132,x 133,x 134,x 135,x 136,x 137,x 138,x 139,x 140,x 141,x 142,x 143,x 144,x 145,x 146,x 147,x 148,x 149,x 150,x 151,x 152,x 153,x 154]) (k:=q.voices.l.length) ?_
          ⟨0,fp,done,_,by omega,hH0,by simpa using hd,hA,hfp,ex_x rfl⟩
        clear hA hH0 hd hfp x
        rintro k2 t H ⟨v,fp,done,a,hk2',hH0,hd,hA,hfp,x,rfl⟩
        simp only [s.enc_eq,c_agg] at hH0
        by_cases h5 : (v : Int) < (q.voices.l.length : Int)
        · obtain ⟨z,hz⟩ : ∃ z,q.voices.l[v]? = some z:=⟨_,List.getElem?_eq_getElem (by omega)⟩
          simp -implicitDefEqProofs (maxDischargeDepth:=12) only [WW,List.replicate,e_splice,if_true,if_false,ite_true,ite_false,true_or,ne_eq,seval,h_putc,beq_self_eq_true,eq_self,exists_eq_left,exists_eq_left',hH0,h5,hz,z.enc_eq]
          rw [drop_cons hz] at hd
          simp only [objVoices] at hd
          -- its events
          refine wp_loop (Inv:=fun k t H => ∃ (e : Nat) (fp : List Nat) (done : List O) (a : AV),e + k = z.events.l.length∧H.cells 0 = some s.enc.cells∧done ++ (objEvents m c v e (z.events.l.drop e) ++ objVoices m c (v + 1) (q.voices.l.drop (v + 1)) ++ objCells m (c + 1) (y.cells.l.drop (c + 1)) ++ objMeasures (m + 1) (s.measures.l.drop (m + 1)) ++ objSpanners 0 s.spanners.l) = objs s ∧
            Acc 1 9 O.enc H a (Sl.of done) fp∧(∀ b ∈ fp,1 ≤ b) ∧
            ∃ x : Nat→AV,t = [s.enc,.ptr 0 0,.sc .nils,a,x 4,x 5,x 6,.sc (.int .i64 m),.sc (.int .i64 c),slm Voice.enc q.voices,.sc (.int .i64 v),.sc (.int .i64 e),x 12,x 13,x 14,x 15,x 16,x 17,x 18,x 19,x 20,x 21,x 22,x 23,x 24,x 25,x 26,x 27,x 28,x 29,x 30,x 31,x 32,x 33,x 34,x 35,x 36,x 37,x 38,x 39,x 40,x 41,x 42,x 43,x 44,x 45,x 46,x 47,x 48,x 49,x 50,x 51,x 52,x 53,x 54,x 55,x 56,x 57,x 58,x 59,x 60,x 61,x 62,x 63,x 64,x 65,x 66,x 67,x 68,x 69,x 70,x 71,x 72,x 73,x 74,x 75,x 76,x 77,x 78,x 79,x 80,x 81,x 82,x 83,x 84,x 85,x 86,x 87,x 88,x 89,x 90,x 91,x 92,x 93,x 94,x 95,x 96,x 97,x 98,x 99,x 100,x 101,x 102,x 103,x 104,x 105,x 106,x 107,x 108,x 109,x 110,x 111,x 112,x 113,x 114,x 115,x 116,x 117,x 118,x 119,x 120,x 121,x 122,x 123,x 124,x 125,x 126,x 127,x 128,x 129,x 130,x 131,x 132,x 133,x 134,x 135,x 136,x 137,x 138,x 139,x 140,x 141,x 142,x 143,x 144,x 145,x 146,x 147,x 148,x 149,x 150,x 151,x 152,x 153,x 154]) (k:=z.events.l.length) ?_
            ⟨0,fp,done,_,by omega,hH0,by simpa using hd,hA,hfp,ex_x rfl⟩
          clear hA hH0 hd hfp x
          rintro k3 t H ⟨e,fp,done,a,hk3,hH0,hd,hA,hfp,x,rfl⟩
          simp only [s.enc_eq,c_agg] at hH0
          by_cases h7 : (e : Int) < (z.events.l.length : Int)
          · obtain ⟨w,hw⟩ : ∃ w,z.events.l[e]? = some w:=⟨_,List.getElem?_eq_getElem (by omega)⟩
            simp -implicitDefEqProofs (maxDischargeDepth:=12) only [WW,List.replicate,e_splice,if_true,if_false,ite_true,ite_false,true_or,ne_eq,seval,h_putc,beq_self_eq_true,eq_self,exists_eq_left,exists_eq_left',hH0,h7,hz,hw,z.enc_eq,w.enc_eq]
            -- oEvent m c v e w: the list's fact,drop_cons hw,objEvents: what is added,$3: the element's fact
            refine wA_app2 row_O hA (by repeat (first | exact Keep.refl | refine Keep.put (by (try simp only [AHeap.next_alloc,AHeap.next_put]); omega) ?_ | refine Keep.alloc (by (try simp only [AHeap.next_alloc,AHeap.next_put]); omega) ?_)) (by simp) (ys:=[oEvent m c v e w]) (by simp) rfl (asrc_new (by simp) rfl) (own_one (O.enc_plain _) rfl) Apart.nil_right ?_ ?_
            · rw [l_of]; have:=len_pre hd; simp only [List.length_cons,List.length_nil]; omega
            intro v' H2 fp' hA' hn2 hk2 hfp2 ho2 hc2
            rw [of_snoc'] at hA'
            have g0:=(hk2 0 (fun h => by have:=hfp 0 h; omega) (h_lt hH0)).trans hH0
            have hfp3 : ∀ b ∈ fp',1 ≤ b:=fun b hb => by
              rcases hfp2 b hb with h | h | h
              · exact hfp b h
              · simp at h
              · have:=h_lt hH0; omega
            have hd':=hd
            rw [drop_cons hw,objEvents] at hd'
            try simp only [List.cons_append] at hd'
            rw [List.append_cons] at hd'
            have hb1:=hT3 _ _ _ _ _ _ hy hq hz
            have e5 : IntKind.i64.wrap ((e : Int) + 1) = ((e + 1 : Nat) : Int):=by rw [w64 (by omega) (by omega)]; omega
            simp -implicitDefEqProofs (maxDischargeDepth:=12) only [WW,List.replicate,e_splice,if_true,if_false,ite_true,ite_false,true_or,ne_eq,seval,h_putc,beq_self_eq_true,eq_self,exists_eq_left,exists_eq_left',e5]
            exact ⟨k3 - 1,by omega,e + 1,fp',_,v',by omega,g0,by simpa using hd',hA',hfp3,ex_x rfl⟩
          · have hb1:=hT2 _ _ _ _ hy hq
            have e5 : IntKind.i64.wrap ((v : Int) + 1) = ((v + 1 : Nat) : Int):=by rw [w64 (by omega) (by omega)]; omega
            simp -implicitDefEqProofs (maxDischargeDepth:=12) only [WW,List.replicate,e_splice,if_true,if_false,ite_true,ite_false,true_or,ne_eq,seval,h_putc,beq_self_eq_true,eq_self,exists_eq_left,exists_eq_left',h7,hz,z.enc_eq,e5]
            rw [drop_end h7] at hd
            simp only [objEvents,List.nil_append] at hd
            exact ⟨k2 - 1,by omega,v + 1,fp,done,a,by omega,hH0,hd,hA,hfp,ex_x rfl⟩
        · have hb1:=hT1 _ _ hy
          have e5 : IntKind.i64.wrap ((c : Int) + 1) = ((c + 1 : Nat) : Int):=by rw [w64 (by omega) (by omega)]; omega
          simp -implicitDefEqProofs (maxDischargeDepth:=12) only [WW,List.replicate,e_splice,if_true,if_false,ite_true,ite_false,true_or,ne_eq,seval,h_putc,beq_self_eq_true,eq_self,exists_eq_left,exists_eq_left',h5,e5]
          rw [drop_end h5] at hd
          simp only [objVoices,List.nil_append] at hd
          exact ⟨k' - 1,by omega,c + 1,fp,done,a,by omega,hH0,hd,hA,hfp,ex_x rfl⟩
      · simp -implicitDefEqProofs (maxDischargeDepth:=12) only [WW,List.replicate,e_splice,if_true,if_false,ite_true,ite_false,true_or,ne_eq,seval,h_putc,beq_self_eq_true,eq_self,exists_eq_left,exists_eq_left',hH0,h3,hy,y.enc_eq,e2]
        rw [drop_end h3] at hd
        simp only [objCells,List.nil_append] at hd
        exact ⟨k - 1,by omega,m + 1,fp,done,a,by omega,rfl,hd,hA,hfp,ex_x rfl⟩
    · simp -implicitDefEqProofs (maxDischargeDepth:=12) only [WW,List.replicate,e_splice,if_true,if_false,ite_true,ite_false,true_or,ne_eq,seval,h_putc,beq_self_eq_true,eq_self,exists_eq_left,exists_eq_left',hH0,h1]
      rw [drop_end h1] at hd
      simp only [objMeasures,List.nil_append] at hd
      -- the spanners
      refine wp_loop (Inv:=fun k t H => ∃ (i : Nat) (fp : List Nat) (done : List O) (a : AV),i + k = s.spanners.l.length∧H.cells 0 = some s.enc.cells∧done ++ objSpanners i (s.spanners.l.drop i) = objs s ∧
        Acc 1 9 O.enc H a (Sl.of done) fp∧(∀ b ∈ fp,1 ≤ b) ∧
        ∃ x : Nat→AV,t = [s.enc,.ptr 0 0,.sc .nils,a,x 4,x 5,x 6,x 7,x 8,x 9,x 10,x 11,.sc (.int .i64 i),x 13,x 14,x 15,x 16,x 17,x 18,x 19,x 20,x 21,x 22,x 23,x 24,x 25,x 26,x 27,x 28,x 29,x 30,x 31,x 32,x 33,x 34,x 35,x 36,x 37,x 38,x 39,x 40,x 41,x 42,x 43,x 44,x 45,x 46,x 47,x 48,x 49,x 50,x 51,x 52,x 53,x 54,x 55,x 56,x 57,x 58,x 59,x 60,x 61,x 62,x 63,x 64,x 65,x 66,x 67,x 68,x 69,x 70,x 71,x 72,x 73,x 74,x 75,x 76,x 77,x 78,x 79,x 80,x 81,x 82,x 83,x 84,x 85,x 86,x 87,x 88,x 89,x 90,x 91,x 92,x 93,x 94,x 95,x 96,x 97,x 98,x 99,x 100,x 101,x 102,x 103,x 104,x 105,x 106,x 107,x 108,x 109,x 110,x 111,x 112,x 113,x 114,x 115,x 116,x 117,x 118,x 119,x 120,x 121,x 122,x 123,x 124,x 125,x 126,x 127,x 128,x 129,x 130,x 131,x 132,x 133,x 134,x 135,x 136,x 137,x 138,x 139,x 140,x 141,x 142,x 143,x 144,x 145,x 146,x 147,x 148,x 149,x 150,x 151,x 152,x 153,x 154]) (k:=s.spanners.l.length) ?_
        ⟨0,fp,done,_,by omega,hH0,by simpa using hd,hA,hfp,ex_x rfl⟩
      clear hA hH0 hd hfp x
      rintro k t H ⟨i,fp,done,a,hk,hH0,hd,hA,hfp,x,rfl⟩
      simp only [s.enc_eq,c_agg] at hH0
      by_cases h1 : (i : Int) < (s.spanners.l.length : Int)
      · obtain ⟨y,hy⟩ : ∃ y,s.spanners.l[i]? = some y:=⟨_,List.getElem?_eq_getElem (by omega)⟩
        have e2 : IntKind.i64.wrap ((i : Int) + 1) = ((i + 1 : Nat) : Int):=by rw [w64 (by omega) (by omega)]; omega
        simp -implicitDefEqProofs (maxDischargeDepth:=12) only [WW,List.replicate,e_splice,if_true,if_false,ite_true,ite_false,true_or,ne_eq,seval,h_putc,beq_self_eq_true,eq_self,exists_eq_left,exists_eq_left',hH0,h1,hy,y.enc_eq]
        -- oSpanner i y: the list's fact,drop_cons hy,objSpanners: what is added,$3: the element's fact
        refine wA_app2 row_O hA (by repeat (first | exact Keep.refl | refine Keep.put (by (try simp only [AHeap.next_alloc,AHeap.next_put]); omega) ?_ | refine Keep.alloc (by (try simp only [AHeap.next_alloc,AHeap.next_put]); omega) ?_)) (by simp) (ys:=[oSpanner i y]) (by simp) rfl (asrc_new (by simp) rfl) (own_one (O.enc_plain _) rfl) Apart.nil_right ?_ ?_
        · rw [l_of]; have:=len_pre hd; simp only [List.length_cons,List.length_nil]; omega
        intro v' H2 fp' hA' hn2 hk2 hfp2 ho2 hc2
        rw [of_snoc'] at hA'
        have g0:=(hk2 0 (fun h => by have:=hfp 0 h; omega) (h_lt hH0)).trans hH0
        have hfp3 : ∀ b ∈ fp',1 ≤ b:=fun b hb => by
          rcases hfp2 b hb with h | h | h
          · exact hfp b h
          · simp at h
          · have:=h_lt hH0; omega
        have hd':=hd
        rw [drop_cons hy,objSpanners] at hd'
        try simp only [List.cons_append] at hd'
        rw [List.append_cons] at hd'
        simp -implicitDefEqProofs (maxDischargeDepth:=12) only [WW,List.replicate,e_splice,if_true,if_false,ite_true,ite_false,true_or,ne_eq,seval,h_putc,beq_self_eq_true,eq_self,exists_eq_left,exists_eq_left',e2]
        exact ⟨k - 1,by omega,i + 1,fp',_,v',by omega,g0,by simpa using hd',hA',hfp3,ex_x rfl⟩
      · simp -implicitDefEqProofs (maxDischargeDepth:=12) only [WW,List.replicate,e_splice,if_true,if_false,ite_true,ite_false,true_or,ne_eq,seval,h_putc,beq_self_eq_true,eq_self,exists_eq_left,exists_eq_left',hH0,h1]
        rw [drop_end h1] at hd
        simp only [objSpanners,List.append_nil] at hd
        rw [hd] at hA
        exact hA.frz row_O (by omega)
end Go.Hem
namespace Go.Hem
variable {pol : Pol}
def ID.zero : ID:=⟨0,0⟩
def Place.zero : Place:=⟨0,0,0,0,0,0,0⟩
theorem id_eq {a b : ID} : (decide (a.site = b.site) && decide (a.number = b.number)) = decide (a = b):=by
  cases a; cases b; simp only [ID.mk.injEq,Bool.decide_and]
end Go.Hem
namespace Go.Hem
variable {pol : Pol}
end Go.Hem
namespace Go.Hem
variable {pol : Pol}
def isEv (l : List O) (id : ID) : Bool:=l.any fun o => decide (o.place.kind = 4) && decide (o.id = id)
def Score.pruned (s : Score) : Score:={ s with spanners:=Sl.of (s.spanners.l.filter fun p => isEv (objs s) p.from_ && isEv (objs s) p.to) }
theorem isEv_skip {o : O} {l : List O} {id : ID} (h : ¬ o.place.kind = 4 ∨ ¬ o.id = id) : isEv (o :: l) id = isEv l id:=by
  unfold isEv
  rw [List.any_cons]
  rcases h with h | h <;> simp [h]
theorem risEv_pv (hp : pol.pure 16 = true) (s : Score) (hT : Tame s) (id : ID) : Pv prog pol 71 [s.enc,id.enc] (.sc (.bool (isEv (objs s) id))):=by
  refine Pv_of' ok71 (by simp only [AV.closedBs,Score.enc_closed,ID.enc_closed,Bool.and_self]) ?_
  simp -implicitDefEqProofs (maxDischargeDepth:=12) only [wpF,cf71,WW,List.replicate,e_splice,if_true,if_false,ite_true,ite_false,true_or,ne_eq,seval,h_putc,beq_self_eq_true,eq_self,exists_eq_left,exists_eq_left',s.enc_eq,id.enc_eq]
  rw [← s.enc_eq]
  refine wA_pure hp (robjects_pv s hT) ?_
  simp -implicitDefEqProofs (maxDischargeDepth:=12) only [WW,List.replicate,e_splice,if_true,if_false,ite_true,ite_false,true_or,ne_eq,seval,h_putc,beq_self_eq_true,eq_self,exists_eq_left,exists_eq_left']
  refine wp_loop (Inv:=fun k t H => ∃ (i : Nat),i + k = (objs s).length∧H.cells 1 = some id.enc.cells∧isEv (objs s) id = isEv ((objs s).drop i) id ∧
    ∃ x : Nat→AV,t = [s.enc,id.enc,.ptr 0 0,.ptr 1 0,.sc (.bool false),slm O.enc (Sl.of (objs s)),.sc (.int .i64 i),x 7,x 8,x 9,x 10,x 11,x 12,x 13,x 14,x 15,x 16,x 17,x 18,x 19,x 20,x 21,x 22,x 23,x 24,x 25,x 26,x 27,x 28,x 29,x 30]) (k:=(objs s).length) ?_
    ⟨0,by omega,?_,by simp,ex_x rfl⟩
  rotate_left
  · simp -implicitDefEqProofs (maxDischargeDepth:=12) only [WW,List.replicate,e_splice,if_true,if_false,ite_true,ite_false,true_or,ne_eq,seval,h_putc,beq_self_eq_true,eq_self,exists_eq_left,exists_eq_left']; rfl
  rintro k t H ⟨i,hk,hH1,hf,x,rfl⟩
  simp only [id.enc_eq,c_agg] at hH1
  have hb:=hT.objs
  by_cases h1 : (i : Int) < ((objs s).length : Int)
  · obtain ⟨o,ho⟩ : ∃ y,(objs s)[i]? = some y:=⟨_,List.getElem?_eq_getElem (by omega)⟩
    have e2 : IntKind.i64.wrap ((i : Int) + 1) = ((i + 1 : Nat) : Int):=by rw [w64 (by omega) (by omega)]; omega
    rw [drop_cons ho] at hf
    by_cases h2 : o.place.kind = 4
    · by_cases h3 : o.id = id
      · have : isEv (objs s) id = true:=by rw [hf]; unfold isEv; rw [List.any_cons,decide_eq_true h2,decide_eq_true h3]; rfl
        rw [this]
        simp -implicitDefEqProofs (maxDischargeDepth:=12) only [WW,List.replicate,e_splice,if_true,if_false,ite_true,ite_false,true_or,ne_eq,seval,h_putc,beq_self_eq_true,eq_self,exists_eq_left,exists_eq_left',hH1,l_of,h1,ho,o.enc_eq,id_eq,h2,h3]
        exact frz_sc
      · rw [isEv_skip (.inr h3)] at hf
        simp -implicitDefEqProofs (maxDischargeDepth:=12) only [WW,List.replicate,e_splice,if_true,if_false,ite_true,ite_false,true_or,ne_eq,seval,h_putc,beq_self_eq_true,eq_self,exists_eq_left,exists_eq_left',hH1,l_of,h1,ho,o.enc_eq,id_eq,h2,h3,e2]
        exact ⟨k - 1,by omega,i + 1,by omega,rfl,hf,ex_x rfl⟩
    · rw [isEv_skip (.inl h2)] at hf
      simp -implicitDefEqProofs (maxDischargeDepth:=12) only [WW,List.replicate,e_splice,if_true,if_false,ite_true,ite_false,true_or,ne_eq,seval,h_putc,beq_self_eq_true,eq_self,exists_eq_left,exists_eq_left',hH1,l_of,h1,ho,o.enc_eq,id_eq,h2,e2]
      exact ⟨k - 1,by omega,i + 1,by omega,rfl,hf,ex_x rfl⟩
  · rw [drop_end h1] at hf
    have : isEv (objs s) id = false:=by rw [hf]; rfl
    rw [this]
    simp -implicitDefEqProofs (maxDischargeDepth:=12) only [WW,List.replicate,e_splice,if_true,if_false,ite_true,ite_false,true_or,ne_eq,seval,h_putc,beq_self_eq_true,eq_self,exists_eq_left,exists_eq_left',hH1,l_of,h1]
    exact frz_sc
theorem row_Spanner : RowOf 7 Spanner.enc:=⟨by decide,fun _ => ⟨rfl,rfl⟩⟩
theorem own_imm {α : Type} {f : α→AV} {s : Sl α} {H : AHeap} {d : Nat} (hf : ∀ v,AV.closedB (f v) = true) : Own (d + 1) H (slm f s) (slm f s) []:=by
  cases s with
  | none => exact ⟨rfl,rfl⟩
  | some l => exact ⟨rfl,rfl,rfl,closedBs_map hf⟩
theorem spanners_frz {s : Score} {H : AHeap} {a : AV} {l : Sl Spanner} {fp : List Nat} (h : Acc 1 7 Spanner.enc H a l fp) :
    Frz (.agg [.sc (.str s.title),.sc (.bool s.written),slm Part.enc s.parts,slm Measure.enc s.measures,a,slm ID.enc s.last]) H (Score.enc { s with spanners:=l }):=by
  obtain ⟨fq,hO,-⟩:=h.own row_Spanner
  refine OwnX.frz (I:=true) (d:=3) (fp:=[] ++ ([] ++ ([] ++ ([] ++ (fq ++ ([] ++ [])))))) ?_ (by decide)
  exact ⟨_,rfl,.cons .scal (.cons .scal (.cons (own_imm Part.enc_closed) (.cons (own_imm Measure.enc_closed) (.cons hO (.cons (own_imm ID.enc_closed) .nil Apart.nil_left) Apart.nil_right) Apart.nil_left) Apart.nil_left) Apart.nil_left) Apart.nil_left⟩
theorem rprune_pv (hp : pol.pure 16 = true) (hp2 : pol.pure 71 = true) (s : Score) (hT : Tame s) : Pv prog pol 30 [s.enc] s.pruned.enc:=by
  refine Pv_of' ok30 (by simp only [AV.closedBs,Score.enc_closed,Bool.and_self]) ?_
  simp -implicitDefEqProofs (maxDischargeDepth:=12) only [wpF,cf30,WW,List.replicate,e_splice,if_true,if_false,ite_true,ite_false,true_or,ne_eq,seval,h_putc,beq_self_eq_true,eq_self,exists_eq_left,exists_eq_left',s.enc_eq]
  have hb:=hT.spanners
  refine wp_loop (Inv:=fun k t H => ∃ (i : Nat) (fp : List Nat) (a : AV),i + k = s.spanners.l.length∧H.cells 0 = some s.enc.cells∧(∃ z,H.cells 1 = some z∧z.length = 6)∧Acc 1 7 Spanner.enc H a (Sl.of ((s.spanners.l.take i).filter fun p => isEv (objs s) p.from_ && isEv (objs s) p.to)) fp∧(∀ b ∈ fp,2 ≤ b) ∧
    ∃ x : Nat→AV,t = [s.enc,.ptr 0 0,.ptr 1 0,a,.sc (.int .i64 i),x 5,x 6,x 7,x 8,x 9,x 10,x 11,x 12,x 13,x 14,x 15,x 16,x 17,x 18,x 19,x 20,x 21,x 22,x 23,x 24,x 25,x 26,x 27,x 28,x 29,x 30,x 31,x 32,x 33,x 34,x 35,x 36,x 37,x 38,x 39,x 40]) (k:=s.spanners.l.length) ?_
    ⟨0,[],_,by omega,?_,?_,acc_none,by simp,ex_x rfl⟩
  rotate_left
  · simp -implicitDefEqProofs (maxDischargeDepth:=12) only [WW,List.replicate,e_splice,if_true,if_false,ite_true,ite_false,true_or,ne_eq,seval,h_putc,beq_self_eq_true,eq_self,exists_eq_left,exists_eq_left']; rfl
  · exact ⟨_,by simp -implicitDefEqProofs (maxDischargeDepth:=12) only [WW,List.replicate,e_splice,if_true,if_false,ite_true,ite_false,true_or,ne_eq,seval,h_putc,beq_self_eq_true,eq_self,exists_eq_left,exists_eq_left']; rfl,rfl⟩
  rintro k t H ⟨i,fp,a,hk,hH0,⟨z,hH1,hz⟩,hA,hfp,x,rfl⟩
  simp only [s.enc_eq,c_agg] at hH0
  by_cases h1 : (i : Int) < (s.spanners.l.length : Int)
  · obtain ⟨o,ho⟩ : ∃ y,s.spanners.l[i]? = some y:=⟨_,List.getElem?_eq_getElem (by omega)⟩
    have e2 : IntKind.i64.wrap ((i : Int) + 1) = ((i + 1 : Nat) : Int):=by rw [w64 (by omega) (by omega)]; omega
    have ek : (s.spanners.l.take (i + 1)).filter (fun p => isEv (objs s) p.from_ && isEv (objs s) p.to) = (s.spanners.l.take i).filter (fun p => isEv (objs s) p.from_ && isEv (objs s) p.to) ++ (if isEv (objs s) o.from_ && isEv (objs s) o.to then [o] else []):=by
      rw [List.take_add_one,ho,List.filter_append]
      cases h : (isEv (objs s) o.from_ && isEv (objs s) o.to) <;> simp [h]
    simp -implicitDefEqProofs (maxDischargeDepth:=12) only [WW,List.replicate,e_splice,if_true,if_false,ite_true,ite_false,true_or,ne_eq,seval,h_putc,beq_self_eq_true,eq_self,exists_eq_left,exists_eq_left',hH0,h1,ho,o.enc_eq]
    refine wA_pure hp2 (risEv_pv hp s hT o.from_) ?_
    cases hf : isEv (objs s) o.from_ with
    | false =>
      rw [hf,Bool.false_and,if_neg Bool.false_ne_true,List.append_nil] at ek
      simp -implicitDefEqProofs (maxDischargeDepth:=12) only [WW,List.replicate,e_splice,if_true,if_false,ite_true,ite_false,true_or,ne_eq,seval,h_putc,beq_self_eq_true,eq_self,exists_eq_left,exists_eq_left',hH0,h1,ho,o.enc_eq,e2]
      exact ⟨k - 1,by omega,i + 1,fp,a,by omega,rfl,⟨z,hH1,hz⟩,by rw [ek]; exact hA,hfp,ex_x rfl⟩
    | true =>
      simp -implicitDefEqProofs (maxDischargeDepth:=12) only [WW,List.replicate,e_splice,if_true,if_false,ite_true,ite_false,true_or,ne_eq,seval,h_putc,beq_self_eq_true,eq_self,exists_eq_left,exists_eq_left',hH0,h1,ho,o.enc_eq,e2]
      refine wA_pure hp2 (risEv_pv hp s hT o.to) ?_
      cases ht : isEv (objs s) o.to with
      | false =>
        rw [hf,ht,Bool.and_false,if_neg Bool.false_ne_true,List.append_nil] at ek
        simp -implicitDefEqProofs (maxDischargeDepth:=12) only [WW,List.replicate,e_splice,if_true,if_false,ite_true,ite_false,true_or,ne_eq,seval,h_putc,beq_self_eq_true,eq_self,exists_eq_left,exists_eq_left',hH0,h1,ho,o.enc_eq,e2]
        exact ⟨k - 1,by omega,i + 1,fp,a,by omega,rfl,⟨z,hH1,hz⟩,by rw [ek]; exact hA,hfp,ex_x rfl⟩
      | true =>
        rw [hf,ht,Bool.and_self,if_pos rfl] at ek
        simp -implicitDefEqProofs (maxDischargeDepth:=12) only [WW,List.replicate,e_splice,if_true,if_false,ite_true,ite_false,true_or,ne_eq,seval,h_putc,beq_self_eq_true,eq_self,exists_eq_left,exists_eq_left',hH0,h1,ho,o.enc_eq,e2]
        refine wA_app2 row_Spanner hA (by repeat (first | exact Keep.refl | refine Keep.put (by (try simp only [AHeap.next_alloc,AHeap.next_put]); omega) ?_ | refine Keep.alloc (by (try simp only [AHeap.next_alloc,AHeap.next_put]); omega) ?_)) (by simp) (ys:=[o]) (by simp) rfl (asrc_new (by simp) rfl) (own_one (Spanner.enc_plain _) o.enc_eq) Apart.nil_right ?_ ?_
        · rw [l_of]
          have:=List.length_filter_le (fun p : Spanner => isEv (objs s) p.from_ && isEv (objs s) p.to) (s.spanners.l.take i)
          simp only [List.length_take,List.length_cons,List.length_nil] at this ⊢; omega
        intro v' H2 fp' hA' hn2 hk2 hfp2 ho2 hc2
        rw [of_snoc',← ek] at hA'
        have g0:=(hk2 0 (fun h => by have:=hfp 0 h; omega) (h_lt hH0)).trans hH0
        have g1:=(hk2 1 (fun h => by have:=hfp 1 h; omega) (h_lt hH1)).trans hH1
        have hfp3 : ∀ b ∈ fp',2 ≤ b:=fun b hb => by
          rcases hfp2 b hb with h | h | h
          · exact hfp b h
          · simp at h
          · have:=h_lt hH1; omega
        simp -implicitDefEqProofs (maxDischargeDepth:=12) only [WW,List.replicate,e_splice,if_true,if_false,ite_true,ite_false,true_or,ne_eq,seval,h_putc,beq_self_eq_true,eq_self,exists_eq_left,exists_eq_left',e2]
        exact ⟨k - 1,by omega,i + 1,fp',v',by omega,g0,⟨z,g1,hz⟩,hA',hfp3,ex_x rfl⟩
  · have ek : s.spanners.l.take i = s.spanners.l:=List.take_of_length_le (by omega)
    rw [ek] at hA
    have hl1 : 0 < H.next:=h_lt hH0
    have hl2 : 1 < H.next:=h_lt hH1
    have hA1 : ∀ x y,Acc 1 7 Spanner.enc ((H.put 0 x).put 1 y) a (Sl.of (s.spanners.l.filter fun p => isEv (objs s) p.from_ && isEv (objs s) p.to)) fp:=fun x y => hA.fr fun b hb => by
      have:=hfp b hb
      rw [cells_of_get (AHeap.get_put_ne _ y (show b ≠ 1 by omega)),cells_of_get (AHeap.get_put_ne _ x (show b ≠ 0 by omega))]
    simp -implicitDefEqProofs (maxDischargeDepth:=12) only [WW,List.replicate,e_splice,if_true,if_false,ite_true,ite_false,true_or,ne_eq,seval,h_putc,beq_self_eq_true,eq_self,exists_eq_left,exists_eq_left',hH0,hH1,h1,hA.cells,hA.one,hz]
    exact spanners_frz (hA1 _ _)
end Go.Hem
namespace Go.Hem
variable {pol : Pol}
theorem rstaves_pv (x : Score) (hx : stavesOf x.parts.l < 1000000) (hl : x.parts.l.length < 1000000) : Pv prog pol 20 [x.enc] (.sc (.int .i64 (stavesOf x.parts.l))):=by
  refine Pv_of ok20 (by simp [AV.closedBs,Score.enc_closed]) ?_
  simp -implicitDefEqProofs (maxDischargeDepth:=12) only [wpF,cf20,WW,List.replicate,e_splice,if_true,if_false,ite_true,ite_false,true_or,ne_eq,seval,h_putc,beq_self_eq_true,eq_self,exists_eq_left,exists_eq_left',ID.enc,Place.enc,O.enc,Interval.enc,Staff.enc,Part.enc,Metre.enc,ClefChange.enc,Tuplet.enc,Pitch.enc,Head.enc,Grace.enc,Syllable.enc,Val.enc,Event.enc,Voice.enc,Cell.enc,Tempo.enc,Measure.enc,Spanner.enc,Score.enc]
  refine wp_loop (Inv:=fun k t H => H.cells 0 = some x.enc.cells∧∃ (i : Nat) (x5 x6 x7 x8 x9 x10 x11 x12 x13 x14 x15 x16 x17 x18 x19 x20 : AV),i + k = x.parts.l.length∧t = [x.enc,.ptr 0 0,.sc (.int .i64 0),.sc (.int .i64 (stavesOf (x.parts.l.take i))),.sc (.int .i64 i),x5,x6,x7,x8,x9,x10,x11,x12,x13,x14,x15,x16,x17,x18,x19,x20,.sc .undef]) (k:=x.parts.l.length) ?_
    ⟨by simp only [h_alloc]; rfl,0,_,_,_,_,_,_,_,_,_,_,_,_,_,_,_,_,Nat.zero_add _,by simp only [List.take_zero,show stavesOf [] = 0 from rfl,Int.natCast_zero,Int.cast_ofNat_Int]; rfl⟩
  rintro k t H ⟨hH,i,x5,x6,x7,x8,x9,x10,x11,x12,x13,x14,x15,x16,x17,x18,x19,x20,hk,rfl⟩
  simp only [Score.enc,c_agg] at hH
  simp -implicitDefEqProofs (maxDischargeDepth:=12) only [WW,List.replicate,e_splice,if_true,if_false,ite_true,ite_false,true_or,ne_eq,seval,h_putc,beq_self_eq_true,eq_self,exists_eq_left,exists_eq_left',hH]
  refine wB_of (fun hc => ?_) (fun hc => ?_)
  · simp only [decide_eq_true_eq] at hc
    have hi : i < x.parts.l.length:=by omega
    obtain ⟨p,hp⟩ : ∃ p,x.parts.l[i]? = some p:=⟨_,List.getElem?_eq_getElem hi⟩
    have h1:=stavesOf_take hp
    have h2 : stavesOf (x.parts.l.take (i + 1)) ≤ _:=stavesOf_le
    have e1 : IntKind.i64.wrap ((stavesOf (x.parts.l.take i) : Int) + (p.staves.l.length : Int)) = (stavesOf (x.parts.l.take (i + 1)) : Int):=by rw [w64 (by omega) (by omega)]; omega
    have e2 : IntKind.i64.wrap ((i : Int) + 1) = ((i + 1 : Nat) : Int):=by rw [w64 (by omega) (by omega)]; omega
    simp -implicitDefEqProofs (maxDischargeDepth:=12) only [WW,List.replicate,e_splice,if_true,if_false,ite_true,ite_false,true_or,ne_eq,seval,h_putc,beq_self_eq_true,eq_self,exists_eq_left,exists_eq_left',hH,hp,Part.enc,e1,e2]
    exact ⟨k - 1,by omega,rfl,i + 1,_,_,_,_,_,_,_,_,_,_,_,_,_,_,_,_,by omega,rfl⟩
  · simp only [decide_eq_false_iff_not] at hc
    have hi : i = x.parts.l.length:=by omega
    subst hi
    simp -implicitDefEqProofs (maxDischargeDepth:=12) only [WW,List.replicate,e_splice,if_true,if_false,ite_true,ite_false,true_or,ne_eq,seval,h_putc,beq_self_eq_true,eq_self,exists_eq_left,exists_eq_left']
    rw [List.take_length]
    exact ⟨_,freeze_sc⟩
theorem rfirst_pv (x : Score) (m : Nat) (hx : stavesOf x.parts.l < 1000000) (hl : x.parts.l.length < 1000000) (hm : m ≤ x.parts.l.length) : Pv prog pol 24 [x.enc,.sc (.int .i64 m)] (.sc (.int .i64 (stavesOf (x.parts.l.take m)))):=by
  refine Pv_of ok24 (by simp [AV.closedBs,AV.closedB,Score.enc_closed]) ?_
  simp -implicitDefEqProofs (maxDischargeDepth:=12) only [wpF,cf24,WW,List.replicate,e_splice,if_true,if_false,ite_true,ite_false,true_or,ne_eq,seval,h_putc,beq_self_eq_true,eq_self,exists_eq_left,exists_eq_left',ID.enc,Place.enc,O.enc,Interval.enc,Staff.enc,Part.enc,Metre.enc,ClefChange.enc,Tuplet.enc,Pitch.enc,Head.enc,Grace.enc,Syllable.enc,Val.enc,Event.enc,Voice.enc,Cell.enc,Tempo.enc,Measure.enc,Spanner.enc,Score.enc]
  refine wp_loop (Inv:=fun k t H => H.cells 0 = some x.enc.cells∧∃ (i : Nat) (x7 x8 x9 x10 x11 x12 x13 x14 x15 x16 x17 x18 x19 x20 : AV),i + k = m∧t = [x.enc,.sc (.int .i64 m),.ptr 0 0,.sc .undef,.sc (.int .i64 0),.sc (.int .i64 (stavesOf (x.parts.l.take i))),.sc (.int .i64 i),x7,x8,x9,x10,x11,x12,x13,x14,x15,x16,x17,x18,x19,x20,.sc .undef]) (k:=m) ?_
    ⟨by simp only [h_alloc]; rfl,0,_,_,_,_,_,_,_,_,_,_,_,_,_,_,Nat.zero_add _,by simp only [List.take_zero,show stavesOf [] = 0 from rfl,Int.natCast_zero,Int.cast_ofNat_Int]; rfl⟩
  rintro k t H ⟨hH,i,x7,x8,x9,x10,x11,x12,x13,x14,x15,x16,x17,x18,x19,x20,hk,rfl⟩
  simp only [Score.enc,c_agg] at hH
  simp -implicitDefEqProofs (maxDischargeDepth:=12) only [WW,List.replicate,e_splice,if_true,if_false,ite_true,ite_false,true_or,ne_eq,seval,h_putc,beq_self_eq_true,eq_self,exists_eq_left,exists_eq_left',hH]
  refine wB_of (fun hc => ?_) (fun hc => ?_)
  · simp only [decide_eq_true_eq] at hc
    have hi : i < x.parts.l.length:=by omega
    obtain ⟨p,hp⟩ : ∃ p,x.parts.l[i]? = some p:=⟨_,List.getElem?_eq_getElem hi⟩
    have h1:=stavesOf_take hp
    have h2 : stavesOf (x.parts.l.take (i + 1)) ≤ _:=stavesOf_le
    have e1 : IntKind.i64.wrap ((stavesOf (x.parts.l.take i) : Int) + (p.staves.l.length : Int)) = (stavesOf (x.parts.l.take (i + 1)) : Int):=by rw [w64 (by omega) (by omega)]; omega
    have e2 : IntKind.i64.wrap ((i : Int) + 1) = ((i + 1 : Nat) : Int):=by rw [w64 (by omega) (by omega)]; omega
    simp -implicitDefEqProofs (maxDischargeDepth:=12) only [WW,List.replicate,e_splice,if_true,if_false,ite_true,ite_false,true_or,ne_eq,seval,h_putc,beq_self_eq_true,eq_self,exists_eq_left,exists_eq_left',hH,hp,Part.enc,e1,e2]
    exact ⟨k - 1,by omega,rfl,i + 1,_,_,_,_,_,_,_,_,_,_,_,_,_,_,by omega,rfl⟩
  · simp only [decide_eq_false_iff_not] at hc
    have hi : i = m:=by omega
    subst hi
    simp -implicitDefEqProofs (maxDischargeDepth:=12) only [WW,List.replicate,e_splice,if_true,if_false,ite_true,ite_false,true_or,ne_eq,seval,h_putc,beq_self_eq_true,eq_self,exists_eq_left,exists_eq_left']
    exact ⟨_,freeze_sc⟩
end Go.Hem
namespace Go.Hem
variable {pol : Pol}
end Go.Hem
namespace Go.Hem
variable {pol : Pol}
end Go.Hem
namespace Go.Hem
variable {pol : Pol}
theorem min_cast (n m : Nat) : (if (m : Int) < (n : Int) then (m : Int) else (n : Int)) = ((min n m : Nat) : Int):=by split <;> omega
theorem min20 (n : Nat) : (if (20 : Int) < (n : Int) then (20 : Int) else (n : Int)) = ((min n 20 : Nat) : Int):=min_cast n 20
theorem min3 (n : Nat) : (if (3 : Int) < (n : Int) then (3 : Int) else (n : Int)) = ((min n 3 : Nat) : Int):=min_cast n 3
theorem slm_take {α : Type} {f : α→AV} {s : Sl α} {n : Nat} : slm f (s.map fun x => x.take (min s.l.length n)) = slm f (s.map (·.take n)):=by
  cases s with
  | none => rfl
  | some l =>
    have e : l.take (min l.length n) = l.take n:=by rw [List.take_eq_take_iff]; omega
    simp only [Option.map_some,l_some,e]
def Part.short (p : Part) : Part:={ p with name:=p.name.extract 0 (min p.name.size 20),staves:=p.staves.map (·.take 3) }
theorem shortPart_pv (p : Part) : Pv prog pol 58 [p.enc] p.short.enc:=by
  refine Pv_of' ok58 (by simp [AV.closedBs,Part.enc_closed]) ?_
  simp -implicitDefEqProofs (maxDischargeDepth:=12) only [wpF,cf58,WW,List.replicate,e_splice,if_true,if_false,ite_true,ite_false,true_or,ne_eq,seval,h_putc,beq_self_eq_true,eq_self,exists_eq_left,exists_eq_left',p.enc_eq,min20,min3,e_cutm Staff.enc_len,Nat.min_le_left,slm_take]
  exact frz_plain rfl (Part.enc_plain _)
end Go.Hem
namespace Go.Hem
variable {pol : Pol}
theorem of_snoc {α : Type} {l : List α} {y : α} : (some (Sl.l (Sl.of l) ++ [y]) : Sl α) = Sl.of (l ++ [y]):=by
  rw [l_of]; unfold Sl.of; cases l <;> rfl
theorem take_snoc {α : Type} {l : List α} {i : Nat} {y : α} (h : l[i]? = some y) : l.take (i + 1) = l.take i ++ [y]:=by
  simp [List.take_add_one,h]
def Syllable.short (x : Syllable) : Syllable:={ x with text:=x.text.extract 0 (min x.text.size 260) }
def shortLyrics (s : Sl Syllable) : Sl Syllable:=Sl.of ((s.l.take 6).map Syllable.short)
theorem row_Syllable : RowOf 2 Syllable.enc:=⟨by decide,fun _ => ⟨rfl,rfl⟩⟩
theorem min260 (n : Nat) : (if (260 : Int) < (n : Int) then (260 : Int) else (n : Int)) = ((min n 260 : Nat) : Int):=min_cast n 260
theorem shortLyrics_pv (s : Sl Syllable) : Pv prog pol 96 [slm Syllable.enc s] (slm Syllable.enc (shortLyrics s)):=by
  refine Pv_of' ok96 (by simp only [AV.closedBs,closedB_slm Syllable.enc_closed,Bool.and_self]) ?_
  simp -implicitDefEqProofs (maxDischargeDepth:=12) only [wpF,cf96,WW,List.replicate,e_splice,if_true,if_false,ite_true,ite_false,true_or,ne_eq,seval,h_putc,beq_self_eq_true,eq_self,exists_eq_left,exists_eq_left']
  refine wp_loop (Inv:=fun k t H => ∃ (i : Nat) (fp : List Nat) (a : AV),i + k = 6∧i ≤ s.l.length ∧
    Acc 1 2 Syllable.enc H a (Sl.of ((s.l.take i).map Syllable.short)) fp∧∃ x : Nat→AV,t = [slm Syllable.enc s,.sc .undef,.sc .nils,a,.sc (.int .i64 i),x 5,x 6,x 7,x 8,x 9,x 10,x 11,x 12,x 13,x 14,x 15,x 16,x 17,x 18,x 19,x 20,x 21,x 22,x 23,x 24,x 25,x 26,x 27,x 28,x 29,x 30,x 31,.sc .undef]) (k:=6) ?_
    ⟨0,[],_,rfl,Nat.zero_le _,acc_none,ex_x rfl⟩
  rintro k t H ⟨i,fp,a,hk,hi,hA,x,rfl⟩
  by_cases h1 : (i : Int) < (s.l.length : Int)
  · by_cases h2 : (i : Int) < 6
    · obtain ⟨y,hy⟩ : ∃ y,s.l[i]? = some y:=⟨_,List.getElem?_eq_getElem (by omega)⟩
      have e2 : IntKind.i64.wrap ((i : Int) + 1) = ((i + 1 : Nat) : Int):=by rw [w64 (by omega) (by omega)]; omega
      simp -implicitDefEqProofs (maxDischargeDepth:=12) only [WW,List.replicate,e_splice,if_true,if_false,ite_true,ite_false,true_or,ne_eq,seval,h_putc,beq_self_eq_true,eq_self,exists_eq_left,exists_eq_left',h1,h2,hy,y.enc_eq,min260,Nat.min_le_left]
      refine wA_app row_Syllable (hA.keep (by repeat (first | exact Keep.refl | refine Keep.put (by (try simp only [AHeap.next_alloc,AHeap.next_put]); omega) ?_ | refine Keep.alloc (by (try simp only [AHeap.next_alloc,AHeap.next_put]); omega) ?_))) (ys:=[y.short]) (by simp) rfl (asrc_new (by simp) rfl) (own_one (Syllable.enc_plain y.short) y.short.enc_eq) Apart.nil_right ?_ ?_
      · rw [l_of]; simp only [List.length_map,List.length_take,List.length_cons,List.length_nil]; omega
      intro v' H' fp' hA' hn hk hfp
      rw [of_snoc,← List.map_singleton,← List.map_append,← take_snoc hy] at hA'
      simp -implicitDefEqProofs (maxDischargeDepth:=12) only [WW,List.replicate,e_splice,if_true,if_false,ite_true,ite_false,true_or,ne_eq,seval,h_putc,beq_self_eq_true,eq_self,exists_eq_left,exists_eq_left',e2]
      exact ⟨k - 1,by omega,i + 1,_,_,by omega,by omega,hA',ex_x rfl⟩
    · simp -implicitDefEqProofs (maxDischargeDepth:=12) only [WW,List.replicate,e_splice,if_true,if_false,ite_true,ite_false,true_or,ne_eq,seval,h_putc,beq_self_eq_true,eq_self,exists_eq_left,exists_eq_left',h1,h2]
      have e : (s.l.take i) = s.l.take 6:=by rw [show i = 6 by omega]
      rw [e] at hA
      exact hA.frz row_Syllable (by omega)
  · simp -implicitDefEqProofs (maxDischargeDepth:=12) only [WW,List.replicate,e_splice,if_true,if_false,ite_true,ite_false,true_or,ne_eq,seval,h_putc,beq_self_eq_true,eq_self,exists_eq_left,exists_eq_left',h1]
    have e : (s.l.take i) = s.l.take 6:=by rw [List.take_of_length_le (by omega),List.take_of_length_le (by omega)]
    rw [e] at hA
    exact hA.frz row_Syllable (by omega)
end Go.Hem
namespace Go.Hem
variable {pol : Pol}
theorem min12 (n : Nat) : (if (12 : Int) < (n : Int) then (12 : Int) else (n : Int)) = ((min n 12 : Nat) : Int):=min_cast n 12
theorem min6 (n : Nat) : (if (6 : Int) < (n : Int) then (6 : Int) else (n : Int)) = ((min n 6 : Nat) : Int):=min_cast n 6
theorem min4 (n : Nat) : (if (4 : Int) < (n : Int) then (4 : Int) else (n : Int)) = ((min n 4 : Nat) : Int):=min_cast n 4
def Event.short (e : Event) : Event:={ e with heads:=e.heads.map (·.take 12),graces:=e.graces.map (·.take 12),lyrics:=shortLyrics e.lyrics }
theorem shortEvent_pv (hp : pol.pure 96 = true) (e : Event) : Pv prog pol 46 [e.enc] e.short.enc:=by
  refine Pv_of' ok46 (by simp only [AV.closedBs,Event.enc_closed,Bool.and_self]) ?_
  simp -implicitDefEqProofs (maxDischargeDepth:=12) only [wpF,cf46,WW,List.replicate,e_splice,if_true,if_false,ite_true,ite_false,true_or,ne_eq,seval,h_putc,beq_self_eq_true,eq_self,exists_eq_left,exists_eq_left',e.enc_eq,min12,e_cutm Head.enc_len,e_cutm Grace.enc_len,Nat.min_le_left,slm_take]
  refine wA_pure hp (shortLyrics_pv e.lyrics) ?_
  simp -implicitDefEqProofs (maxDischargeDepth:=12) only [WW,List.replicate,e_splice,if_true,if_false,ite_true,ite_false,true_or,ne_eq,seval,h_putc,beq_self_eq_true,eq_self,exists_eq_left,exists_eq_left']
  exact frz_plain rfl (Event.enc_plain _)
end Go.Hem
namespace Go.Hem
variable {pol : Pol}
def Voice.short (v : Voice) : Voice:={ events:=Sl.of ((v.events.l.take 5).map Event.short),tuplets:=v.tuplets.map (·.take 3) }
def Cell.short (c : Cell) : Cell:={ clefs:=c.clefs.map (·.take 3),voices:=Sl.of ((c.voices.l.take 3).map Voice.short) }
theorem row_Event : RowOf 13 Event.enc:=⟨by decide,fun _ => ⟨rfl,rfl⟩⟩
theorem row_Voice : RowOf 2 Voice.enc:=⟨by decide,fun _ => ⟨rfl,rfl⟩⟩
theorem row_Cell : RowOf 2 Cell.enc:=⟨by decide,fun _ => ⟨rfl,rfl⟩⟩
theorem row_Measure : RowOf 22 Measure.enc:=⟨by decide,fun _ => ⟨rfl,rfl⟩⟩
theorem row_Part : RowOf 6 Part.enc:=⟨by decide,fun _ => ⟨rfl,rfl⟩⟩
theorem shortCell_pv (hp : pol.pure 46 = true) (hp2 : pol.pure 96 = true) (c : Cell) : Pv prog pol 59 [c.enc] c.short.enc:=by
  refine Pv_of' ok59 (by simp only [AV.closedBs,Cell.enc_closed,Bool.and_self]) ?_
  simp -implicitDefEqProofs (maxDischargeDepth:=12) only [wpF,cf59,WW,List.replicate,e_splice,if_true,if_false,ite_true,ite_false,true_or,ne_eq,seval,h_putc,beq_self_eq_true,eq_self,exists_eq_left,exists_eq_left',c.enc_eq,min3,e_cutm ClefChange.enc_len,Nat.min_le_left,slm_take]
  refine wp_loop (Inv:=fun k t H => ∃ (i : Nat) (fp : List Nat) (a : AV),i + k = 3∧i ≤ c.voices.l.length∧H.cells 0 = some [slm ClefChange.enc c.clefs,slm Voice.enc c.voices]∧H.cells 1 = some [.sc .nils,.sc .nils] ∧
    H.cells 2 = some [slm ClefChange.enc c.short.clefs,a]∧Acc 3 2 Voice.enc H a (Sl.of ((c.voices.l.take i).map Voice.short)) fp∧(∀ b ∈ fp,3 ≤ b) ∧
    ∃ x : Nat→AV,t = [.agg [slm ClefChange.enc c.clefs,slm Voice.enc c.voices],.ptr 0 0,.ptr 1 0,.ptr 2 0,.sc (.int .i64 i),x 5,x 6,x 7,x 8,x 9,x 10,x 11,x 12,x 13,x 14,x 15,x 16,x 17,x 18,x 19,x 20,x 21,x 22,x 23,x 24,x 25,x 26,x 27,x 28,x 29,x 30,x 31,x 32,x 33,x 34,x 35,x 36,x 37,x 38,x 39,x 40,x 41,x 42,x 43,x 44,x 45,x 46,x 47,x 48,x 49,x 50,x 51,x 52,x 53,x 54,x 55,x 56,x 57,x 58,x 59,x 60,x 61,x 62,x 63,x 64,x 65,x 66,x 67,x 68,x 69,x 70,x 71,x 72,x 73,x 74,x 75,x 76,x 77,.sc .undef]) (k:=3) ?_
    ⟨0,[],_,rfl,Nat.zero_le _,?_,?_,?_,acc_none,by simp,ex_x rfl⟩
  rotate_left
  · simp -implicitDefEqProofs (maxDischargeDepth:=12) only [WW,List.replicate,e_splice,if_true,if_false,ite_true,ite_false,true_or,ne_eq,seval,h_putc,beq_self_eq_true,eq_self,exists_eq_left,exists_eq_left']
  · simp -implicitDefEqProofs (maxDischargeDepth:=12) only [WW,List.replicate,e_splice,if_true,if_false,ite_true,ite_false,true_or,ne_eq,seval,h_putc,beq_self_eq_true,eq_self,exists_eq_left,exists_eq_left']
  · simp -implicitDefEqProofs (maxDischargeDepth:=12) only [WW,List.replicate,e_splice,if_true,if_false,ite_true,ite_false,true_or,ne_eq,seval,h_putc,beq_self_eq_true,eq_self,exists_eq_left,exists_eq_left']; rfl
  rintro k t H ⟨i,fp,a,hk,hi,hH0,hH1,hH2,hA,hfp,x,rfl⟩
  by_cases h1 : (i : Int) < (c.voices.l.length : Int)
  · by_cases h2 : (i : Int) < 3
    · obtain ⟨y,hy⟩ : ∃ y,c.voices.l[i]? = some y:=⟨_,List.getElem?_eq_getElem (by omega)⟩
      have e2 : IntKind.i64.wrap ((i : Int) + 1) = ((i + 1 : Nat) : Int):=by rw [w64 (by omega) (by omega)]; omega
      simp -implicitDefEqProofs (maxDischargeDepth:=12) only [WW,List.replicate,e_splice,if_true,if_false,ite_true,ite_false,true_or,ne_eq,seval,h_putc,beq_self_eq_true,eq_self,exists_eq_left,exists_eq_left',hH0,h1,h2,hy,y.enc_eq,min3,e_cutm Tuplet.enc_len,Nat.min_le_left,slm_take]
      have e0:=hA.lts
      refine wp_loop (Inv:=fun k' t H' => ∃ (j : Nat) (fq : List Nat) (ev : AV),j + k' = 5∧j ≤ y.events.l.length∧H'.cells 0 = some [slm ClefChange.enc c.clefs,slm Voice.enc c.voices]∧H'.cells 1 = some [.sc .nils,.sc .nils] ∧
        H'.cells 2 = some [slm ClefChange.enc c.short.clefs,a]∧Acc 3 2 Voice.enc H' a (Sl.of ((c.voices.l.take i).map Voice.short)) fp∧H.next < H'.next∧H'.cells H.next = some [ev,slm Tuplet.enc y.short.tuplets] ∧
        Acc 2 13 Event.enc H' ev (Sl.of ((y.events.l.take j).map Event.short)) fq∧(∀ b ∈ fq,H.next < b) ∧
        ∃ x : Nat→AV,t = [.agg [slm ClefChange.enc c.clefs,slm Voice.enc c.voices],.ptr 0 0,.ptr 1 0,.ptr 2 0,.sc (.int .i64 i),.ptr H.next 0,.sc (.int .i64 j),x 7,x 8,x 9,x 10,x 11,x 12,x 13,x 14,x 15,x 16,x 17,x 18,x 19,x 20,x 21,x 22,x 23,x 24,x 25,x 26,x 27,x 28,x 29,x 30,x 31,x 32,x 33,x 34,x 35,x 36,x 37,x 38,x 39,x 40,x 41,x 42,x 43,x 44,x 45,x 46,x 47,x 48,x 49,x 50,x 51,x 52,x 53,x 54,x 55,x 56,x 57,x 58,x 59,x 60,x 61,x 62,x 63,x 64,x 65,x 66,x 67,x 68,x 69,x 70,x 71,x 72,x 73,x 74,x 75,x 76,x 77,.sc .undef]) (k:=5) ?_
        ⟨0,[],_,rfl,Nat.zero_le _,?_,?_,?_,hA.keep (by repeat (first | exact Keep.refl | refine Keep.put (by (try simp only [AHeap.next_alloc,AHeap.next_put]); omega) ?_ | refine Keep.alloc (by (try simp only [AHeap.next_alloc,AHeap.next_put]); omega) ?_)),?_,?_,acc_none,by simp,ex_x rfl⟩
      rotate_left
      · have:=h_lt hH0
        simp -implicitDefEqProofs (maxDischargeDepth:=12) only [WW,List.replicate,e_splice,if_true,if_false,ite_true,ite_false,true_or,ne_eq,seval,h_putc,beq_self_eq_true,eq_self,exists_eq_left,exists_eq_left',hH0,show ¬ 0 = H.next by omega]
      · have:=h_lt hH1
        simp -implicitDefEqProofs (maxDischargeDepth:=12) only [WW,List.replicate,e_splice,if_true,if_false,ite_true,ite_false,true_or,ne_eq,seval,h_putc,beq_self_eq_true,eq_self,exists_eq_left,exists_eq_left',hH1,show ¬ 1 = H.next by omega]
      · have:=h_lt hH2
        simp -implicitDefEqProofs (maxDischargeDepth:=12) only [WW,List.replicate,e_splice,if_true,if_false,ite_true,ite_false,true_or,ne_eq,seval,h_putc,beq_self_eq_true,eq_self,exists_eq_left,exists_eq_left',hH2,show ¬ 2 = H.next by omega]
      · simp
      · simp -implicitDefEqProofs (maxDischargeDepth:=12) only [WW,List.replicate,e_splice,if_true,if_false,ite_true,ite_false,true_or,ne_eq,seval,h_putc,beq_self_eq_true,eq_self,exists_eq_left,exists_eq_left']; rfl
      have l2:=h_lt hH2
      clear hH0 hH1 hH2 hA x
      rintro k' t H' ⟨j,fq,ev,hk',hj,hH0,hH1,hH2,hA,hn,hbv,hE,hfq,x,rfl⟩
      by_cases h3 : (j : Int) < (y.events.l.length : Int)
      · by_cases h4 : (j : Int) < 5
        · obtain ⟨z,hz⟩ : ∃ z,y.events.l[j]? = some z:=⟨_,List.getElem?_eq_getElem (by omega)⟩
          have e3 : IntKind.i64.wrap ((j : Int) + 1) = ((j + 1 : Nat) : Int):=by rw [w64 (by omega) (by omega)]; omega
          simp -implicitDefEqProofs (maxDischargeDepth:=12) only [WW,List.replicate,e_splice,if_true,if_false,ite_true,ite_false,true_or,ne_eq,seval,h_putc,beq_self_eq_true,eq_self,exists_eq_left,exists_eq_left',hH0,hH1,hH2,hbv,h3,h4,hy,hz,y.enc_eq,z.enc_eq]
          refine wA_pure hp (shortEvent_pv hp2 z) ?_
          simp -implicitDefEqProofs (maxDischargeDepth:=12) only [WW,List.replicate,e_splice,if_true,if_false,ite_true,ite_false,true_or,ne_eq,seval,h_putc,beq_self_eq_true,eq_self,exists_eq_left,exists_eq_left',z.short.enc_eq]
          refine wA_app2 row_Event hE (by repeat (first | exact Keep.refl | refine Keep.put (by (try simp only [AHeap.next_alloc,AHeap.next_put]); omega) ?_ | refine Keep.alloc (by (try simp only [AHeap.next_alloc,AHeap.next_put]); omega) ?_)) (by simp) (ys:=[z.short]) (by simp) rfl (asrc_new (by simp) rfl) (own_one (Event.enc_plain z.short) z.short.enc_eq) Apart.nil_right ?_ ?_
          · rw [l_of]; simp only [List.length_map,List.length_take,List.length_cons,List.length_nil]; omega
          intro v' H2 fp' hA' hn2 hk2 hfp2 ho2 hc2
          rw [of_snoc,← List.map_singleton,← List.map_append,← take_snoc hz] at hA'
          have g0:=(hk2 0 (fun h => by have:=hfq 0 h; omega) (by omega)).trans hH0
          have g1:=(hk2 1 (fun h => by have:=hfq 1 h; omega) (by omega)).trans hH1
          have g2:=(hk2 2 (fun h => by have:=hfq 2 h; omega) (by omega)).trans hH2
          have gb:=(hk2 H.next (fun h => by have:=hfq _ h; omega) (by omega)).trans hbv
          have hfp3 : ∀ b ∈ fp',H.next < b:=fun b hb => by
            rcases hfp2 b hb with h | h | h
            · exact hfq b h
            · simp at h
            · omega
          simp -implicitDefEqProofs (maxDischargeDepth:=12) only [WW,List.replicate,e_splice,if_true,if_false,ite_true,ite_false,true_or,ne_eq,seval,h_putc,beq_self_eq_true,eq_self,exists_eq_left,exists_eq_left',e3,g0,g1,g2,gb,ho2,hc2,show ¬ 0 = H.next by omega,show ¬ 1 = H.next by omega,show ¬ 2 = H.next by omega]
          refine ⟨k' - 1,by omega,j + 1,fp',v',by omega,by omega,?_,by omega,rfl,hA'.fr fun b hb => h_put_ne (by have:=hfp3 b hb; omega),hfp3,ex_x rfl⟩
          exact hA.fr fun b hb => by
              have:=e0 b hb
              rw [h_put_ne (by omega),hk2 b (fun h => by have:=hfq b h; omega) (by omega)]
        · simp -implicitDefEqProofs (maxDischargeDepth:=12) only [WW,List.replicate,e_splice,if_true,if_false,ite_true,ite_false,true_or,ne_eq,seval,h_putc,beq_self_eq_true,eq_self,exists_eq_left,exists_eq_left',hH0,hH1,hH2,hbv,h3,h4,hy,y.enc_eq,hE.one]
          have hj5 : y.events.l.take j = y.events.l.take 5:=by rw [List.take_eq_take_iff]; omega
          rw [hj5] at hE
          obtain ⟨fq',hOE,hq'⟩:=hE.own row_Event
          refine wA_app2 row_Voice hA (by repeat (first | exact Keep.refl | refine Keep.put (by (try simp only [AHeap.next_alloc,AHeap.next_put]); omega) ?_ | refine Keep.alloc (by (try simp only [AHeap.next_alloc,AHeap.next_put]); omega) ?_)) (by simp) (ys:=[y.short]) (by simp) rfl (asrc_new (by simp) rfl) (.cons (hOE.keep (by repeat (first | exact Keep.refl | refine Keep.put (by (try simp only [AHeap.next_alloc,AHeap.next_put]); omega) ?_ | refine Keep.alloc (by (try simp only [AHeap.next_alloc,AHeap.next_put]); omega) ?_))) (OwnL.single (Own.plain (plain1_slm Tuplet.enc_closed))) Apart.nil_right) ?_ ?_ ?_
          · intro b hb hb2
            have:=e0 b hb
            rcases List.mem_append.1 hb2 with h | h
            · have:=hfq b (hq' b h); omega
            · simp at h
          · rw [l_of]; simp only [List.length_map,List.length_take,List.length_cons,List.length_nil]; omega
          intro v' H2 fp' hA' hn2 hk2 hfp2 ho2 hc2
          rw [of_snoc,← List.map_singleton,← List.map_append,← take_snoc hy] at hA'
          have g0:=(hk2 0 (fun h => by have:=hfp 0 h; omega) (by omega)).trans hH0
          have g1:=(hk2 1 (fun h => by have:=hfp 1 h; omega) (by omega)).trans hH1
          have g2:=(hk2 2 (fun h => by have:=hfp 2 h; omega) (by omega)).trans hH2
          have hfp3 : ∀ b ∈ fp',3 ≤ b:=fun b hb => by
            rcases hfp2 b hb with h | h | h
            · exact hfp b h
            · rcases List.mem_append.1 h with h | h
              · have:=hfq b (hq' b h); omega
              · simp at h
            · omega
          simp -implicitDefEqProofs (maxDischargeDepth:=12) only [WW,List.replicate,e_splice,if_true,if_false,ite_true,ite_false,true_or,ne_eq,seval,h_putc,beq_self_eq_true,eq_self,exists_eq_left,exists_eq_left',e2,g0,g1,g2,ho2,hc2]
          exact ⟨k - 1,by omega,i + 1,fp',v',by omega,by omega,rfl,hA'.fr fun b hb => h_put_ne (by have:=hfp3 b hb; omega),hfp3,ex_x rfl⟩
      · simp -implicitDefEqProofs (maxDischargeDepth:=12) only [WW,List.replicate,e_splice,if_true,if_false,ite_true,ite_false,true_or,ne_eq,seval,h_putc,beq_self_eq_true,eq_self,exists_eq_left,exists_eq_left',hH0,hH1,hH2,hbv,h3,hy,y.enc_eq,hE.one]
        have hj5 : y.events.l.take j = y.events.l.take 5:=by rw [List.take_eq_take_iff]; omega
        rw [hj5] at hE
        obtain ⟨fq',hOE,hq'⟩:=hE.own row_Event
        refine wA_app2 row_Voice hA (by repeat (first | exact Keep.refl | refine Keep.put (by (try simp only [AHeap.next_alloc,AHeap.next_put]); omega) ?_ | refine Keep.alloc (by (try simp only [AHeap.next_alloc,AHeap.next_put]); omega) ?_)) (by simp) (ys:=[y.short]) (by simp) rfl (asrc_new (by simp) rfl) (.cons (hOE.keep (by repeat (first | exact Keep.refl | refine Keep.put (by (try simp only [AHeap.next_alloc,AHeap.next_put]); omega) ?_ | refine Keep.alloc (by (try simp only [AHeap.next_alloc,AHeap.next_put]); omega) ?_))) (OwnL.single (Own.plain (plain1_slm Tuplet.enc_closed))) Apart.nil_right) ?_ ?_ ?_
        · intro b hb hb2
          have:=e0 b hb
          rcases List.mem_append.1 hb2 with h | h
          · have:=hfq b (hq' b h); omega
          · simp at h
        · rw [l_of]; simp only [List.length_map,List.length_take,List.length_cons,List.length_nil]; omega
        intro v' H2 fp' hA' hn2 hk2 hfp2 ho2 hc2
        rw [of_snoc,← List.map_singleton,← List.map_append,← take_snoc hy] at hA'
        have g0:=(hk2 0 (fun h => by have:=hfp 0 h; omega) (by omega)).trans hH0
        have g1:=(hk2 1 (fun h => by have:=hfp 1 h; omega) (by omega)).trans hH1
        have g2:=(hk2 2 (fun h => by have:=hfp 2 h; omega) (by omega)).trans hH2
        have hfp3 : ∀ b ∈ fp',3 ≤ b:=fun b hb => by
          rcases hfp2 b hb with h | h | h
          · exact hfp b h
          · rcases List.mem_append.1 h with h | h
            · have:=hfq b (hq' b h); omega
            · simp at h
          · omega
        simp -implicitDefEqProofs (maxDischargeDepth:=12) only [WW,List.replicate,e_splice,if_true,if_false,ite_true,ite_false,true_or,ne_eq,seval,h_putc,beq_self_eq_true,eq_self,exists_eq_left,exists_eq_left',e2,g0,g1,g2,ho2,hc2]
        exact ⟨k - 1,by omega,i + 1,fp',v',by omega,by omega,rfl,hA'.fr fun b hb => h_put_ne (by have:=hfp3 b hb; omega),hfp3,ex_x rfl⟩
    · simp -implicitDefEqProofs (maxDischargeDepth:=12) only [WW,List.replicate,e_splice,if_true,if_false,ite_true,ite_false,true_or,ne_eq,seval,h_putc,beq_self_eq_true,eq_self,exists_eq_left,exists_eq_left',hH0,hH1,hH2,h1,h2,hA.one]
      have hi3 : c.voices.l.take i = c.voices.l.take 3:=by rw [List.take_eq_take_iff]; omega
      rw [hi3] at hA
      obtain ⟨fq2,hO,hq2⟩:=hA.own row_Voice
      exact Own.frz (d:=5) ⟨_,rfl,.cons (Own.plain (plain1_slm ClefChange.enc_closed)) (OwnL.single (hO.frame fun b hb => h_put_ne (by have:=hfp b (hq2 b hb); omega))) Apart.nil_left⟩ (by omega)
  · simp -implicitDefEqProofs (maxDischargeDepth:=12) only [WW,List.replicate,e_splice,if_true,if_false,ite_true,ite_false,true_or,ne_eq,seval,h_putc,beq_self_eq_true,eq_self,exists_eq_left,exists_eq_left',hH0,hH1,hH2,h1,hA.one]
    have hi3 : c.voices.l.take i = c.voices.l.take 3:=by rw [List.take_eq_take_iff]; omega
    rw [hi3] at hA
    obtain ⟨fq2,hO,hq2⟩:=hA.own row_Voice
    exact Own.frz (d:=5) ⟨_,rfl,.cons (Own.plain (plain1_slm ClefChange.enc_closed)) (OwnL.single (hO.frame fun b hb => h_put_ne (by have:=hfp b (hq2 b hb); omega))) Apart.nil_left⟩ (by omega)
end Go.Hem
namespace Go.Hem
variable {pol : Pol}
def Measure.short (m : Measure) : Measure:={ m with rehearsal:=m.rehearsal.extract 0 (min m.rehearsal.size 20),tempi:=m.tempi.map (·.take 3),cells:=Sl.of ((m.cells.l.take 6).map Cell.short) }
def Measure.cells0 (m : Measure) (a : AV) : List AV:=[.sc (.int .i64 m.id.site),.sc (.int .i64 m.id.number),.sc (.int .i64 m.metre.count),.sc (.int .i64 m.metre.unit),.sc (.int .i64 m.metre.g0),.sc (.int .i64 m.metre.g1),.sc (.int .i64 m.metre.g2),.sc (.int .i64 m.metre.g3),.sc (.int .i64 m.metre.g4),.sc (.int .i64 m.metre.g5),.sc (.int .i64 m.length),.sc (.int .i64 m.fifths),.sc (.bool m.rstart),.sc (.int .i64 m.rend),.sc (.int .i64 m.endings),.sc (.int .i64 m.jump),.sc (.int .i64 m.labels),.sc (.int .i64 m.swing),.sc (.int .i64 m.brk),.sc (.str m.rehearsal),slm Tempo.enc m.tempi,a]
theorem Measure.cells0_eq {m : Measure} {a : AV} : m.cells0 a = [.sc (.int .i64 m.id.site),.sc (.int .i64 m.id.number),.sc (.int .i64 m.metre.count),.sc (.int .i64 m.metre.unit),.sc (.int .i64 m.metre.g0),.sc (.int .i64 m.metre.g1),.sc (.int .i64 m.metre.g2),.sc (.int .i64 m.metre.g3),.sc (.int .i64 m.metre.g4),.sc (.int .i64 m.metre.g5),.sc (.int .i64 m.length),.sc (.int .i64 m.fifths),.sc (.bool m.rstart),.sc (.int .i64 m.rend),.sc (.int .i64 m.endings),.sc (.int .i64 m.jump),.sc (.int .i64 m.labels),.sc (.int .i64 m.swing),.sc (.int .i64 m.brk),.sc (.str m.rehearsal),slm Tempo.enc m.tempi,a]:=rfl
theorem shortMeasure_pv (hp : pol.pure 46 = true) (hp2 : pol.pure 96 = true) (hp3 : pol.pure 59 = true) (m : Measure) : Pv prog pol 41 [m.enc] m.short.enc:=by
  refine Pv_of' ok41 (by simp only [AV.closedBs,Measure.enc_closed,Bool.and_self]) ?_
  simp -implicitDefEqProofs (maxDischargeDepth:=12) only [wpF,cf41,WW,List.replicate,e_splice,if_true,if_false,ite_true,ite_false,true_or,ne_eq,seval,h_putc,beq_self_eq_true,eq_self,exists_eq_left,exists_eq_left',m.enc_eq,min20,min3,e_cutm Tempo.enc_len,Nat.min_le_left,slm_take]
  refine wp_loop (Inv:=fun k t H => ∃ (i : Nat) (fp : List Nat) (a : AV),i + k = 6∧i ≤ m.cells.l.length∧H.cells 0 = some (m.short.cells0 a)∧(∃ z,H.cells 1 = some z∧z.length = 22) ∧
    Acc 4 2 Cell.enc H a (Sl.of ((m.cells.l.take i).map Cell.short)) fp∧(∀ b ∈ fp,2 ≤ b) ∧
    ∃ x : Nat→AV,t = [m.enc,.ptr 0 0,.ptr 1 0,slm Cell.enc m.cells,.sc (.int .i64 i),x 5,x 6,x 7,x 8,x 9,x 10,x 11,x 12,x 13,x 14,x 15,x 16,x 17,x 18,x 19,x 20,x 21,x 22,x 23,x 24,x 25,x 26,x 27,x 28,x 29,x 30,x 31,x 32,x 33,x 34,x 35,x 36,x 37,x 38,x 39,x 40,x 41,x 42,x 43,.sc .undef]) (k:=6) ?_
    ⟨0,[],_,rfl,Nat.zero_le _,?_,?_,acc_none,by simp,ex_x rfl⟩
  rotate_left
  · simp -implicitDefEqProofs (maxDischargeDepth:=12) only [WW,List.replicate,e_splice,if_true,if_false,ite_true,ite_false,true_or,ne_eq,seval,h_putc,beq_self_eq_true,eq_self,exists_eq_left,exists_eq_left']; rfl
  · refine Exists.intro [.sc (.int .i64 0),.sc (.int .i64 0),.sc (.int .i64 0),.sc (.int .i64 0),.sc (.int .i64 0),.sc (.int .i64 0),.sc (.int .i64 0),.sc (.int .i64 0),.sc (.int .i64 0),.sc (.int .i64 0),.sc (.int .i64 0),.sc (.int .i64 0),.sc (.bool false),.sc (.int .i64 0),.sc (.int .i64 0),.sc (.int .i64 0),.sc (.int .i64 0),.sc (.int .i64 0),.sc (.int .i64 0),.sc (.str ⟨#[]⟩),.sc .nils,.sc .nils] ⟨?_,rfl⟩
    simp -implicitDefEqProofs (maxDischargeDepth:=12) only [WW,List.replicate,e_splice,if_true,if_false,ite_true,ite_false,true_or,ne_eq,seval,h_putc,beq_self_eq_true,eq_self,exists_eq_left,exists_eq_left']
  rintro k t H ⟨i,fp,a,hk,hi,hH0,⟨z,hH1,hz⟩,hA,hfp,x,rfl⟩
  rw [Measure.cells0_eq] at hH0
  by_cases h1 : (i : Int) < (m.cells.l.length : Int)
  · by_cases h2 : (i : Int) < 6
    · obtain ⟨y,hy⟩ : ∃ y,m.cells.l[i]? = some y:=⟨_,List.getElem?_eq_getElem (by omega)⟩
      have e2 : IntKind.i64.wrap ((i : Int) + 1) = ((i + 1 : Nat) : Int):=by rw [w64 (by omega) (by omega)]; omega
      simp -implicitDefEqProofs (maxDischargeDepth:=12) only [WW,List.replicate,e_splice,if_true,if_false,ite_true,ite_false,true_or,ne_eq,seval,h_putc,beq_self_eq_true,eq_self,exists_eq_left,exists_eq_left',hH0,h1,h2,hy,y.enc_eq,m.enc_eq]
      rw [← y.enc_eq]
      refine wA_pure hp3 (shortCell_pv hp hp2 y) ?_
      simp -implicitDefEqProofs (maxDischargeDepth:=12) only [WW,List.replicate,e_splice,if_true,if_false,ite_true,ite_false,true_or,ne_eq,seval,h_putc,beq_self_eq_true,eq_self,exists_eq_left,exists_eq_left',y.short.enc_eq]
      refine wA_app2 row_Cell hA (by repeat (first | exact Keep.refl | refine Keep.put (by (try simp only [AHeap.next_alloc,AHeap.next_put]); omega) ?_ | refine Keep.alloc (by (try simp only [AHeap.next_alloc,AHeap.next_put]); omega) ?_)) (by simp) (ys:=[y.short]) (by simp) rfl (asrc_new (by simp) rfl) (own_one (Cell.enc_plain y.short) y.short.enc_eq) Apart.nil_right ?_ ?_
      · rw [l_of]; simp only [List.length_map,List.length_take,List.length_cons,List.length_nil]; omega
      intro v' H2 fp' hA' hn2 hk2 hfp2 ho2 hc2
      rw [of_snoc,← List.map_singleton,← List.map_append,← take_snoc hy] at hA'
      have l1:=h_lt hH1
      have g0:=(hk2 0 (fun h => by have:=hfp 0 h; omega) (by omega)).trans hH0
      have g1:=(hk2 1 (fun h => by have:=hfp 1 h; omega) (by omega)).trans hH1
      have hfp3 : ∀ b ∈ fp',2 ≤ b:=fun b hb => by
        rcases hfp2 b hb with h | h | h
        · exact hfp b h
        · simp at h
        · omega
      simp -implicitDefEqProofs (maxDischargeDepth:=12) only [WW,List.replicate,e_splice,if_true,if_false,ite_true,ite_false,true_or,ne_eq,seval,h_putc,beq_self_eq_true,eq_self,exists_eq_left,exists_eq_left',e2,g0,g1,ho2,hc2]
      refine ⟨k - 1,by omega,i + 1,fp',v',by omega,by omega,rfl,hz,hA'.fr fun b hb => h_put_ne (by have:=hfp3 b hb; omega),hfp3,ex_x rfl⟩
    · simp -implicitDefEqProofs (maxDischargeDepth:=12) only [WW,List.replicate,e_splice,if_true,if_false,ite_true,ite_false,true_or,ne_eq,seval,h_putc,beq_self_eq_true,eq_self,exists_eq_left,exists_eq_left',hH0,hH1,hz,h1,h2,hA.one,m.enc_eq]
      have hi3 : m.cells.l.take i = m.cells.l.take 6:=by rw [List.take_eq_take_iff]; omega
      rw [hi3] at hA
      obtain ⟨fq2,hO,hq2⟩:=hA.own row_Cell
      refine Own.frz (d:=6) (fp:=[] ++ fq2) (u:=m.short.enc) ⟨_,rfl,?_⟩ (by omega)
      exact OwnL.append (fp:=[]) (OwnL.plain (d:=4) (cs:=(m.short.cells0 a).take 21) (by simp [Measure.cells0,pl_sc,plain1_slm Tempo.enc_closed])) (OwnL.single (hO.frame fun b hb => h_put_ne (by have:=hfp b (hq2 b hb); omega))) Apart.nil_left
  · simp -implicitDefEqProofs (maxDischargeDepth:=12) only [WW,List.replicate,e_splice,if_true,if_false,ite_true,ite_false,true_or,ne_eq,seval,h_putc,beq_self_eq_true,eq_self,exists_eq_left,exists_eq_left',hH0,hH1,hz,h1,hA.one,m.enc_eq]
    have hi3 : m.cells.l.take i = m.cells.l.take 6:=by rw [List.take_eq_take_iff]; omega
    rw [hi3] at hA
    obtain ⟨fq2,hO,hq2⟩:=hA.own row_Cell
    refine Own.frz (d:=6) (fp:=[] ++ fq2) (u:=m.short.enc) ⟨_,rfl,?_⟩ (by omega)
    exact OwnL.append (fp:=[]) (OwnL.plain (d:=4) (cs:=(m.short.cells0 a).take 21) (by simp [Measure.cells0,pl_sc,plain1_slm Tempo.enc_closed])) (OwnL.single (hO.frame fun b hb => h_put_ne (by have:=hfp b (hq2 b hb); omega))) Apart.nil_left
end Go.Hem
namespace Go.Hem
variable {pol : Pol}
def Score.short (s : Score) : Score:={ title:=s.title.extract 0 (min s.title.size 20),written:=s.written,parts:=Sl.of ((s.parts.l.take 4).map Part.short),measures:=Sl.of ((s.measures.l.take 5).map Measure.short),spanners:=s.spanners.map (·.take 6),last:=s.last.map (·.take 4) }
theorem short_pv (hp : pol.pure 46 = true) (hp2 : pol.pure 96 = true) (hp3 : pol.pure 59 = true) (hp4 : pol.pure 41 = true) (hp5 : pol.pure 58 = true) (s : Score) : Pv prog pol 14 [s.enc] s.short.enc:=by
  refine Pv_of' ok14 (by simp only [AV.closedBs,Score.enc_closed,Bool.and_self]) ?_
  simp -implicitDefEqProofs (maxDischargeDepth:=12) only [wpF,cf14,WW,List.replicate,e_splice,if_true,if_false,ite_true,ite_false,true_or,ne_eq,seval,h_putc,beq_self_eq_true,eq_self,exists_eq_left,exists_eq_left',s.enc_eq,min20,min6,min4,e_cutm Spanner.enc_len,e_cutm ID.enc_len,Nat.min_le_left,slm_take]
  refine wp_loop (Inv:=fun k t H => ∃ (i : Nat) (fp : List Nat) (a : AV),i + k = 4∧i ≤ s.parts.l.length∧H.cells 0 = some [.sc (.str s.title),.sc (.bool s.written),slm Part.enc s.parts,slm Measure.enc s.measures,slm Spanner.enc s.spanners,slm ID.enc s.last] ∧
    H.cells 1 = some [.sc (.str ⟨#[]⟩),.sc (.bool false),.sc .nils,.sc .nils,.sc .nils,.sc .nils] ∧
    H.cells 2 = some [.sc (.str s.short.title),.sc (.bool s.written),a,.sc .nils,slm Spanner.enc s.short.spanners,slm ID.enc s.short.last] ∧
    Acc 5 6 Part.enc H a (Sl.of ((s.parts.l.take i).map Part.short)) fp∧(∀ b ∈ fp,3 ≤ b) ∧
    ∃ x : Nat→AV,t = [s.enc,.ptr 0 0,.ptr 1 0,.ptr 2 0,.sc (.int .i64 i),x 5,x 6,x 7,x 8,x 9,x 10,x 11,x 12,x 13,x 14,x 15,x 16,x 17,x 18,x 19,x 20,x 21,x 22,x 23,x 24,x 25,x 26,x 27,x 28,x 29,x 30,x 31,x 32,x 33,x 34,x 35,x 36,x 37,x 38,x 39,x 40,x 41,x 42,x 43,x 44,x 45,x 46,x 47,x 48,x 49,x 50,x 51,x 52,x 53,x 54,x 55,x 56,x 57,x 58,x 59,x 60,x 61,x 62,x 63,x 64,x 65,x 66,x 67,x 68,x 69,x 70,x 71,x 72,x 73,.sc .undef]) (k:=4) ?_
    ⟨0,[],_,rfl,Nat.zero_le _,?_,?_,?_,acc_none,by simp,ex_x rfl⟩
  rotate_left
  · simp -implicitDefEqProofs (maxDischargeDepth:=12) only [WW,List.replicate,e_splice,if_true,if_false,ite_true,ite_false,true_or,ne_eq,seval,h_putc,beq_self_eq_true,eq_self,exists_eq_left,exists_eq_left']
  · simp -implicitDefEqProofs (maxDischargeDepth:=12) only [WW,List.replicate,e_splice,if_true,if_false,ite_true,ite_false,true_or,ne_eq,seval,h_putc,beq_self_eq_true,eq_self,exists_eq_left,exists_eq_left']
  · simp -implicitDefEqProofs (maxDischargeDepth:=12) only [WW,List.replicate,e_splice,if_true,if_false,ite_true,ite_false,true_or,ne_eq,seval,h_putc,beq_self_eq_true,eq_self,exists_eq_left,exists_eq_left']; rfl
  rintro k t H ⟨i,fp,a,hk,hi,hH0,hH1,hH2,hA,hfp,x,rfl⟩
  by_cases h1 : (i : Int) < (s.parts.l.length : Int)
  · by_cases h2 : (i : Int) < 4
    · obtain ⟨y,hy⟩ : ∃ y,s.parts.l[i]? = some y:=⟨_,List.getElem?_eq_getElem (by omega)⟩
      have e2 : IntKind.i64.wrap ((i : Int) + 1) = ((i + 1 : Nat) : Int):=by rw [w64 (by omega) (by omega)]; omega
      simp -implicitDefEqProofs (maxDischargeDepth:=12) only [WW,List.replicate,e_splice,if_true,if_false,ite_true,ite_false,true_or,ne_eq,seval,h_putc,beq_self_eq_true,eq_self,exists_eq_left,exists_eq_left',hH0,hH2,h1,h2,hy,y.enc_eq]
      rw [← y.enc_eq]
      refine wA_pure hp5 (shortPart_pv y) ?_
      simp -implicitDefEqProofs (maxDischargeDepth:=12) only [WW,List.replicate,e_splice,if_true,if_false,ite_true,ite_false,true_or,ne_eq,seval,h_putc,beq_self_eq_true,eq_self,exists_eq_left,exists_eq_left',y.short.enc_eq]
      refine wA_app2 row_Part hA (by repeat (first | exact Keep.refl | refine Keep.put (by (try simp only [AHeap.next_alloc,AHeap.next_put]); omega) ?_ | refine Keep.alloc (by (try simp only [AHeap.next_alloc,AHeap.next_put]); omega) ?_)) (by simp) (ys:=[y.short]) (by simp) rfl (asrc_new (by simp) rfl) (own_one (Part.enc_plain y.short) y.short.enc_eq) Apart.nil_right ?_ ?_
      · rw [l_of]; simp only [List.length_map,List.length_take,List.length_cons,List.length_nil]; omega
      intro v' H2 fp' hA' hn2 hk2 hfp2 ho2 hc2
      rw [of_snoc,← List.map_singleton,← List.map_append,← take_snoc hy] at hA'
      have l1:=h_lt hH2
      have g0:=(hk2 0 (fun h => by have:=hfp 0 h; omega) (by omega)).trans hH0
      have g1:=(hk2 1 (fun h => by have:=hfp 1 h; omega) (by omega)).trans hH1
      have g2:=(hk2 2 (fun h => by have:=hfp 2 h; omega) (by omega)).trans hH2
      have hfp3 : ∀ b ∈ fp',3 ≤ b:=fun b hb => by
        rcases hfp2 b hb with h | h | h
        · exact hfp b h
        · simp at h
        · omega
      simp -implicitDefEqProofs (maxDischargeDepth:=12) only [WW,List.replicate,e_splice,if_true,if_false,ite_true,ite_false,true_or,ne_eq,seval,h_putc,beq_self_eq_true,eq_self,exists_eq_left,exists_eq_left',e2,g0,g1,g2,ho2,hc2]
      exact ⟨k - 1,by omega,i + 1,fp',v',by omega,by omega,rfl,hA'.fr fun b hb => h_put_ne (by have:=hfp3 b hb; omega),hfp3,ex_x rfl⟩
    · simp -implicitDefEqProofs (maxDischargeDepth:=12) only [WW,List.replicate,e_splice,if_true,if_false,ite_true,ite_false,true_or,ne_eq,seval,h_putc,beq_self_eq_true,eq_self,exists_eq_left,exists_eq_left',hH0,hH1,hH2,h1,h2,hA.one]
      have hi3 : s.parts.l.take i = s.parts.l.take 4:=by rw [List.take_eq_take_iff]; omega
      rw [hi3] at hA
      have hP:=hA
      have hfpP:=hfp
      clear hA hfp
      refine wp_loop (Inv:=fun k t H => ∃ (i : Nat) (fq : List Nat) (b : AV),i + k = 5∧i ≤ s.measures.l.length∧H.cells 0 = some [.sc (.str s.title),.sc (.bool s.written),slm Part.enc s.parts,slm Measure.enc s.measures,slm Spanner.enc s.spanners,slm ID.enc s.last] ∧
        H.cells 1 = some [.sc (.str ⟨#[]⟩),.sc (.bool false),.sc .nils,.sc .nils,.sc .nils,.sc .nils] ∧
        H.cells 2 = some [.sc (.str s.short.title),.sc (.bool s.written),a,b,slm Spanner.enc s.short.spanners,slm ID.enc s.short.last] ∧
        Acc 5 6 Part.enc H a (Sl.of ((s.parts.l.take 4).map Part.short)) fp∧Acc 6 22 Measure.enc H b (Sl.of ((s.measures.l.take i).map Measure.short)) fq∧(∀ b ∈ fq,3 ≤ b)∧Apart fp fq ∧
        ∃ x : Nat→AV,t = [s.enc,.ptr 0 0,.ptr 1 0,.ptr 2 0,x 4,.sc (.int .i64 i),x 6,x 7,x 8,x 9,x 10,x 11,x 12,x 13,x 14,x 15,x 16,x 17,x 18,x 19,x 20,x 21,x 22,x 23,x 24,x 25,x 26,x 27,x 28,x 29,x 30,x 31,x 32,x 33,x 34,x 35,x 36,x 37,x 38,x 39,x 40,x 41,x 42,x 43,x 44,x 45,x 46,x 47,x 48,x 49,x 50,x 51,x 52,x 53,x 54,x 55,x 56,x 57,x 58,x 59,x 60,x 61,x 62,x 63,x 64,x 65,x 66,x 67,x 68,x 69,x 70,x 71,x 72,x 73,.sc .undef]) (k:=5) ?_
        ⟨0,[],_,rfl,Nat.zero_le _,hH0,hH1,hH2,hP,acc_none,by simp,Apart.nil_right,ex_x rfl⟩
      clear hH0 hH1 hH2 hP x hi h1 hk hi3
      rintro k t H ⟨i,fq,c,hk,hi,hH0,hH1,hH2,hP,hA,hfp,hap,x,rfl⟩
      by_cases h1 : (i : Int) < (s.measures.l.length : Int)
      · by_cases h2 : (i : Int) < 5
        · obtain ⟨y,hy⟩ : ∃ y,s.measures.l[i]? = some y:=⟨_,List.getElem?_eq_getElem (by omega)⟩
          have e2 : IntKind.i64.wrap ((i : Int) + 1) = ((i + 1 : Nat) : Int):=by rw [w64 (by omega) (by omega)]; omega
          simp -implicitDefEqProofs (maxDischargeDepth:=12) only [WW,List.replicate,e_splice,if_true,if_false,ite_true,ite_false,true_or,ne_eq,seval,h_putc,beq_self_eq_true,eq_self,exists_eq_left,exists_eq_left',hH0,hH2,h1,h2,hy,y.enc_eq]
          rw [← y.enc_eq]
          refine wA_pure hp4 (shortMeasure_pv hp hp2 hp3 y) ?_
          simp -implicitDefEqProofs (maxDischargeDepth:=12) only [WW,List.replicate,e_splice,if_true,if_false,ite_true,ite_false,true_or,ne_eq,seval,h_putc,beq_self_eq_true,eq_self,exists_eq_left,exists_eq_left',y.short.enc_eq]
          refine wA_app2 row_Measure hA (by repeat (first | exact Keep.refl | refine Keep.put (by (try simp only [AHeap.next_alloc,AHeap.next_put]); omega) ?_ | refine Keep.alloc (by (try simp only [AHeap.next_alloc,AHeap.next_put]); omega) ?_)) (by simp) (ys:=[y.short]) (by simp) rfl (asrc_new (by simp) rfl) (own_one (Measure.enc_plain y.short) y.short.enc_eq) Apart.nil_right ?_ ?_
          · rw [l_of]; simp only [List.length_map,List.length_take,List.length_cons,List.length_nil]; omega
          intro v' H2 fp' hA' hn2 hk2 hfp2 ho2 hc2
          rw [of_snoc,← List.map_singleton,← List.map_append,← take_snoc hy] at hA'
          have l1:=h_lt hH2
          have g0:=(hk2 0 (fun h => by have:=hfp 0 h; omega) (by omega)).trans hH0
          have g1:=(hk2 1 (fun h => by have:=hfp 1 h; omega) (by omega)).trans hH1
          have g2:=(hk2 2 (fun h => by have:=hfp 2 h; omega) (by omega)).trans hH2
          have hfp3 : ∀ b ∈ fp',3 ≤ b:=fun b hb => by
            rcases hfp2 b hb with h | h | h
            · exact hfp b h
            · simp at h
            · omega
          have hlts:=hP.lts
          simp -implicitDefEqProofs (maxDischargeDepth:=12) only [WW,List.replicate,e_splice,if_true,if_false,ite_true,ite_false,true_or,ne_eq,seval,h_putc,beq_self_eq_true,eq_self,exists_eq_left,exists_eq_left',e2,g0,g1,g2,ho2,hc2]
          refine ⟨k - 1,by omega,i + 1,fp',v',by omega,by omega,rfl,hP.fr fun b hb => ?_,hA'.fr fun b hb => h_put_ne (by have:=hfp3 b hb; omega),hfp3,fun b hb hb2 => ?_,ex_x rfl⟩
          · rw [h_put_ne (by have:=hfpP b hb; omega),hk2 b (hap b hb) (hlts b hb)]
          · rcases hfp2 b hb2 with h | h | h
            · exact hap b hb h
            · simp at h
            · have:=hlts b hb; omega
        · simp -implicitDefEqProofs (maxDischargeDepth:=12) only [WW,List.replicate,e_splice,if_true,if_false,ite_true,ite_false,true_or,ne_eq,seval,h_putc,beq_self_eq_true,eq_self,exists_eq_left,exists_eq_left',hH0,hH1,hH2,h1,h2,hP.one,hA.one]
          have hi3 : s.measures.l.take i = s.measures.l.take 5:=by rw [List.take_eq_take_iff]; omega
          rw [hi3] at hA
          obtain ⟨fq2,hO,hq2⟩:=hA.own row_Measure
          obtain ⟨fq3,hO3,hq3⟩:=hP.own row_Part
          refine Own.frz (d:=8) (fp:=[] ++ ([] ++ (fq3 ++ (fq2 ++ ([] ++ ([] ++ [])))))) (u:=s.short.enc) ⟨_,rfl,?_⟩ (by omega)
          have w : ∀ b ∈ fq2,∀ z,(H.put 1 (some (.cells z))).cells b = H.cells b:=fun b hb z => h_put_ne (by have:=hfp b (hq2 b hb); omega)
          have w3 : ∀ b ∈ fq3,∀ z,(H.put 1 (some (.cells z))).cells b = H.cells b:=fun b hb z => h_put_ne (by have:=hfpP b (hq3 b hb); omega)
          refine .cons (Own.plain rfl) (.cons (Own.plain rfl) (.cons ((hO3.mono (by decide)).frame fun b hb => w3 b hb _) (.cons ((hO.mono (by decide)).frame fun b hb => w b hb _) (.cons (Own.plain (plain1_slm Spanner.enc_closed)) (.cons (Own.plain (plain1_slm ID.enc_closed)) .nil Apart.nil_right) Apart.nil_left) ?_) ?_) Apart.nil_left) Apart.nil_left
          · simpa using Apart.nil_right
          · intro b hb hb2
            simp only [List.append_nil,List.nil_append] at hb2
            exact hap b (hq3 b hb) (hq2 b hb2)
      · simp -implicitDefEqProofs (maxDischargeDepth:=12) only [WW,List.replicate,e_splice,if_true,if_false,ite_true,ite_false,true_or,ne_eq,seval,h_putc,beq_self_eq_true,eq_self,exists_eq_left,exists_eq_left',hH0,hH1,hH2,h1,hP.one,hA.one]
        have hi3 : s.measures.l.take i = s.measures.l.take 5:=by rw [List.take_eq_take_iff]; omega
        rw [hi3] at hA
        obtain ⟨fq2,hO,hq2⟩:=hA.own row_Measure
        obtain ⟨fq3,hO3,hq3⟩:=hP.own row_Part
        refine Own.frz (d:=8) (fp:=[] ++ ([] ++ (fq3 ++ (fq2 ++ ([] ++ ([] ++ [])))))) (u:=s.short.enc) ⟨_,rfl,?_⟩ (by omega)
        have w : ∀ b ∈ fq2,∀ z,(H.put 1 (some (.cells z))).cells b = H.cells b:=fun b hb z => h_put_ne (by have:=hfp b (hq2 b hb); omega)
        have w3 : ∀ b ∈ fq3,∀ z,(H.put 1 (some (.cells z))).cells b = H.cells b:=fun b hb z => h_put_ne (by have:=hfpP b (hq3 b hb); omega)
        refine .cons (Own.plain rfl) (.cons (Own.plain rfl) (.cons ((hO3.mono (by decide)).frame fun b hb => w3 b hb _) (.cons ((hO.mono (by decide)).frame fun b hb => w b hb _) (.cons (Own.plain (plain1_slm Spanner.enc_closed)) (.cons (Own.plain (plain1_slm ID.enc_closed)) .nil Apart.nil_right) Apart.nil_left) ?_) ?_) Apart.nil_left) Apart.nil_left
        · simpa using Apart.nil_right
        · intro b hb hb2
          simp only [List.append_nil,List.nil_append] at hb2
          exact hap b (hq3 b hb) (hq2 b hb2)
  · simp -implicitDefEqProofs (maxDischargeDepth:=12) only [WW,List.replicate,e_splice,if_true,if_false,ite_true,ite_false,true_or,ne_eq,seval,h_putc,beq_self_eq_true,eq_self,exists_eq_left,exists_eq_left',hH0,hH1,hH2,h1,hA.one]
    have hi3 : s.parts.l.take i = s.parts.l.take 4:=by rw [List.take_eq_take_iff]; omega
    rw [hi3] at hA
    have hP:=hA
    have hfpP:=hfp
    clear hA hfp
    refine wp_loop (Inv:=fun k t H => ∃ (i : Nat) (fq : List Nat) (b : AV),i + k = 5∧i ≤ s.measures.l.length∧H.cells 0 = some [.sc (.str s.title),.sc (.bool s.written),slm Part.enc s.parts,slm Measure.enc s.measures,slm Spanner.enc s.spanners,slm ID.enc s.last] ∧
      H.cells 1 = some [.sc (.str ⟨#[]⟩),.sc (.bool false),.sc .nils,.sc .nils,.sc .nils,.sc .nils] ∧
      H.cells 2 = some [.sc (.str s.short.title),.sc (.bool s.written),a,b,slm Spanner.enc s.short.spanners,slm ID.enc s.short.last] ∧
      Acc 5 6 Part.enc H a (Sl.of ((s.parts.l.take 4).map Part.short)) fp∧Acc 6 22 Measure.enc H b (Sl.of ((s.measures.l.take i).map Measure.short)) fq∧(∀ b ∈ fq,3 ≤ b)∧Apart fp fq ∧
      ∃ x : Nat→AV,t = [s.enc,.ptr 0 0,.ptr 1 0,.ptr 2 0,x 4,.sc (.int .i64 i),x 6,x 7,x 8,x 9,x 10,x 11,x 12,x 13,x 14,x 15,x 16,x 17,x 18,x 19,x 20,x 21,x 22,x 23,x 24,x 25,x 26,x 27,x 28,x 29,x 30,x 31,x 32,x 33,x 34,x 35,x 36,x 37,x 38,x 39,x 40,x 41,x 42,x 43,x 44,x 45,x 46,x 47,x 48,x 49,x 50,x 51,x 52,x 53,x 54,x 55,x 56,x 57,x 58,x 59,x 60,x 61,x 62,x 63,x 64,x 65,x 66,x 67,x 68,x 69,x 70,x 71,x 72,x 73,.sc .undef]) (k:=5) ?_
      ⟨0,[],_,rfl,Nat.zero_le _,hH0,hH1,hH2,hP,acc_none,by simp,Apart.nil_right,ex_x rfl⟩
    clear hH0 hH1 hH2 hP x hi h1 hk hi3
    rintro k t H ⟨i,fq,c,hk,hi,hH0,hH1,hH2,hP,hA,hfp,hap,x,rfl⟩
    by_cases h1 : (i : Int) < (s.measures.l.length : Int)
    · by_cases h2 : (i : Int) < 5
      · obtain ⟨y,hy⟩ : ∃ y,s.measures.l[i]? = some y:=⟨_,List.getElem?_eq_getElem (by omega)⟩
        have e2 : IntKind.i64.wrap ((i : Int) + 1) = ((i + 1 : Nat) : Int):=by rw [w64 (by omega) (by omega)]; omega
        simp -implicitDefEqProofs (maxDischargeDepth:=12) only [WW,List.replicate,e_splice,if_true,if_false,ite_true,ite_false,true_or,ne_eq,seval,h_putc,beq_self_eq_true,eq_self,exists_eq_left,exists_eq_left',hH0,hH2,h1,h2,hy,y.enc_eq]
        rw [← y.enc_eq]
        refine wA_pure hp4 (shortMeasure_pv hp hp2 hp3 y) ?_
        simp -implicitDefEqProofs (maxDischargeDepth:=12) only [WW,List.replicate,e_splice,if_true,if_false,ite_true,ite_false,true_or,ne_eq,seval,h_putc,beq_self_eq_true,eq_self,exists_eq_left,exists_eq_left',y.short.enc_eq]
        refine wA_app2 row_Measure hA (by repeat (first | exact Keep.refl | refine Keep.put (by (try simp only [AHeap.next_alloc,AHeap.next_put]); omega) ?_ | refine Keep.alloc (by (try simp only [AHeap.next_alloc,AHeap.next_put]); omega) ?_)) (by simp) (ys:=[y.short]) (by simp) rfl (asrc_new (by simp) rfl) (own_one (Measure.enc_plain y.short) y.short.enc_eq) Apart.nil_right ?_ ?_
        · rw [l_of]; simp only [List.length_map,List.length_take,List.length_cons,List.length_nil]; omega
        intro v' H2 fp' hA' hn2 hk2 hfp2 ho2 hc2
        rw [of_snoc,← List.map_singleton,← List.map_append,← take_snoc hy] at hA'
        have l1:=h_lt hH2
        have g0:=(hk2 0 (fun h => by have:=hfp 0 h; omega) (by omega)).trans hH0
        have g1:=(hk2 1 (fun h => by have:=hfp 1 h; omega) (by omega)).trans hH1
        have g2:=(hk2 2 (fun h => by have:=hfp 2 h; omega) (by omega)).trans hH2
        have hfp3 : ∀ b ∈ fp',3 ≤ b:=fun b hb => by
          rcases hfp2 b hb with h | h | h
          · exact hfp b h
          · simp at h
          · omega
        have hlts:=hP.lts
        simp -implicitDefEqProofs (maxDischargeDepth:=12) only [WW,List.replicate,e_splice,if_true,if_false,ite_true,ite_false,true_or,ne_eq,seval,h_putc,beq_self_eq_true,eq_self,exists_eq_left,exists_eq_left',e2,g0,g1,g2,ho2,hc2]
        refine ⟨k - 1,by omega,i + 1,fp',v',by omega,by omega,rfl,hP.fr fun b hb => ?_,hA'.fr fun b hb => h_put_ne (by have:=hfp3 b hb; omega),hfp3,fun b hb hb2 => ?_,ex_x rfl⟩
        · rw [h_put_ne (by have:=hfpP b hb; omega),hk2 b (hap b hb) (hlts b hb)]
        · rcases hfp2 b hb2 with h | h | h
          · exact hap b hb h
          · simp at h
          · have:=hlts b hb; omega
      · simp -implicitDefEqProofs (maxDischargeDepth:=12) only [WW,List.replicate,e_splice,if_true,if_false,ite_true,ite_false,true_or,ne_eq,seval,h_putc,beq_self_eq_true,eq_self,exists_eq_left,exists_eq_left',hH0,hH1,hH2,h1,h2,hP.one,hA.one]
        have hi3 : s.measures.l.take i = s.measures.l.take 5:=by rw [List.take_eq_take_iff]; omega
        rw [hi3] at hA
        obtain ⟨fq2,hO,hq2⟩:=hA.own row_Measure
        obtain ⟨fq3,hO3,hq3⟩:=hP.own row_Part
        refine Own.frz (d:=8) (fp:=[] ++ ([] ++ (fq3 ++ (fq2 ++ ([] ++ ([] ++ [])))))) (u:=s.short.enc) ⟨_,rfl,?_⟩ (by omega)
        have w : ∀ b ∈ fq2,∀ z,(H.put 1 (some (.cells z))).cells b = H.cells b:=fun b hb z => h_put_ne (by have:=hfp b (hq2 b hb); omega)
        have w3 : ∀ b ∈ fq3,∀ z,(H.put 1 (some (.cells z))).cells b = H.cells b:=fun b hb z => h_put_ne (by have:=hfpP b (hq3 b hb); omega)
        refine .cons (Own.plain rfl) (.cons (Own.plain rfl) (.cons ((hO3.mono (by decide)).frame fun b hb => w3 b hb _) (.cons ((hO.mono (by decide)).frame fun b hb => w b hb _) (.cons (Own.plain (plain1_slm Spanner.enc_closed)) (.cons (Own.plain (plain1_slm ID.enc_closed)) .nil Apart.nil_right) Apart.nil_left) ?_) ?_) Apart.nil_left) Apart.nil_left
        · simpa using Apart.nil_right
        · intro b hb hb2
          simp only [List.append_nil,List.nil_append] at hb2
          exact hap b (hq3 b hb) (hq2 b hb2)
    · simp -implicitDefEqProofs (maxDischargeDepth:=12) only [WW,List.replicate,e_splice,if_true,if_false,ite_true,ite_false,true_or,ne_eq,seval,h_putc,beq_self_eq_true,eq_self,exists_eq_left,exists_eq_left',hH0,hH1,hH2,h1,hP.one,hA.one]
      have hi3 : s.measures.l.take i = s.measures.l.take 5:=by rw [List.take_eq_take_iff]; omega
      rw [hi3] at hA
      obtain ⟨fq2,hO,hq2⟩:=hA.own row_Measure
      obtain ⟨fq3,hO3,hq3⟩:=hP.own row_Part
      refine Own.frz (d:=8) (fp:=[] ++ ([] ++ (fq3 ++ (fq2 ++ ([] ++ ([] ++ [])))))) (u:=s.short.enc) ⟨_,rfl,?_⟩ (by omega)
      have w : ∀ b ∈ fq2,∀ z,(H.put 1 (some (.cells z))).cells b = H.cells b:=fun b hb z => h_put_ne (by have:=hfp b (hq2 b hb); omega)
      have w3 : ∀ b ∈ fq3,∀ z,(H.put 1 (some (.cells z))).cells b = H.cells b:=fun b hb z => h_put_ne (by have:=hfpP b (hq3 b hb); omega)
      refine .cons (Own.plain rfl) (.cons (Own.plain rfl) (.cons ((hO3.mono (by decide)).frame fun b hb => w3 b hb _) (.cons ((hO.mono (by decide)).frame fun b hb => w b hb _) (.cons (Own.plain (plain1_slm Spanner.enc_closed)) (.cons (Own.plain (plain1_slm ID.enc_closed)) .nil Apart.nil_right) Apart.nil_left) ?_) ?_) Apart.nil_left) Apart.nil_left
      · simpa using Apart.nil_right
      · intro b hb hb2
        simp only [List.append_nil,List.nil_append] at hb2
        exact hap b (hq3 b hb) (hq2 b hb2)
end Go.Hem
namespace Go.Hem
variable {pol : Pol}
def Sl.set {α : Type} (s : Sl α) (i : Nat) (x : α) : Sl α:=some (s.l.take i ++ [x] ++ s.l.drop (i + 1))
theorem wA_app3 {α : Type} {f : α→AV} {I : Bool} {d n bytes : Nat} {P : Program} {pol : Pol} {is : List CI} {dst : Option Tmp} {rd : List COp} {R : List AV→AHeap→Prop} {y : AV} {t : List AV} {H0 H : AHeap} {v x : AV} {l : List α} {fp fp1 : List Nat} {ys : List α} {cs1 : List AV}
    (hf : RowOf n f) (h : AccX I d n f H0 v (some l) fp) (hK : Keep H0.next H0 H) (hN : H0.next ≤ H.next) (hm : alen x = some ys.length) (hx : asrc n H x ys.length = some cs1)
    (ho : OwnL (OwnX I d) H cs1 (ys.flatMap fun y => (f y).cells) fp1) (ha : Apart fp fp1) (hb : (2 * (l.length + ys.length) + 1000) * bytes ≤ 2 ^ 47)
    (k : ∀ v' H' fp',AccX I d n f H' v' (some (l ++ ys)) fp'→H0.next ≤ H'.next→(∀ b,b ∉ fp→b < H0.next→H'.cells b = H0.cells b)→(∀ b ∈ fp',b ∈ fp ∨ b ∈ fp1 ∨ H0.next ≤ b)→v'.one = true→v'.cells = [v'] →
      reK P (y :: t) H rd H'∧wpIns P pol is (putT (y :: t) dst v') H' R) :
    wA P pol rd is dst (y :: t) H R (some true) (appTo n bytes H v x):=by
  by_cases hy : ys = []
  · subst hy
    have hl1 : cs1 = []:=List.length_eq_zero_iff.1 (by rw [ho.len]; rfl)
    subst hl1
    have hx' : asrc n H x 0 = some []:=hx
    have hm' : alen x = some 0:=hm
    have hA:=h.keep hK
    have h2:=hA
    rcases h2 with ⟨_,h1,_⟩ | ⟨b,cap,cs,rest,fp',l',h1,rfl,h3,h4,h5,h6,h7,h8,rfl⟩
    · cases h1
    cases h1
    have e : appTo n bytes H (.slice b 0 l.length cap n) x = some (.mem (.slice b 0 l.length cap n) b (cs ++ rest)):=by
      simp only [appTo,hm',hx',Option.bind_some,h4,ne_eq,not_true,if_false,Nat.add_zero,if_pos h3]
      rw [if_pos (by
        have e1 : (cap - l.length) * n = cap * n - l.length * n:=Nat.sub_mul _ _ _
        simp only [List.length_append]; omega)]
      simp [splice]
    have hs : ∀ c,(H.put b (some (.cells (cs ++ rest)))).cells c = H.cells c:=fun c => by
      by_cases hc : c = b
      · subst hc; rw [h_put_self h4,h4]
      · rw [h_put_ne hc]
    have:=k _ (H.put b (some (.cells (cs ++ rest)))) (b :: fp') (by rw [List.append_nil]; exact hA.fr fun c _ => hs c) (by simpa using hN) (fun c _ hc => by rw [hs,hK c hc]) (fun c hc => .inl hc) hA.one hA.cells
    rw [e,wA_mem]
    exact this
  · exact wA_app2 hf h hK hN hy hm hx ho ha hb k
theorem sl_take {α : Type} (s : Sl α) (i : Nat) : Sl.l (Option.map (fun x => x.take i) s) = s.l.take i:=by cases s <;> simp [Sl.l]
theorem sl_drop {α : Type} (s : Sl α) (i : Nat) : Sl.l (Option.map (fun x => (x.take s.l.length).drop i) s) = s.l.drop i:=by cases s <;> simp [Sl.l]
theorem own_flat {α : Type} {f : α→AV} {d : Nat} {H : AHeap} (h : ∀ v,AV.plain2 (f v) = true) (e : ∀ v,∃ cs,f v = .agg cs) (l : List α) : OwnL (Own (d + 1)) H (l.flatMap fun v => (f v).cells) (l.flatMap fun v => (f v).cells) []:=OwnL.plain fun v hv => by
  obtain ⟨x,_,hx⟩:=List.mem_flatMap.1 hv
  obtain ⟨cs,hcs⟩:=e x
  have:=h x
  rw [hcs] at this hx
  simp only [AV.plain2,List.all_eq_true] at this
  exact this v hx
end Go.Hem
namespace Go.Hem
variable {pol : Pol}
def Event.cn (e : Event) : Event:={ e with heads:=Sl.of e.heads.l,graces:=Sl.of e.graces.l,lyrics:=Sl.of e.lyrics.l }
def Event.noid (e : Event) : Event:={ e.cn with id:=⟨0,0⟩ }
theorem of_inj {α : Type} {l m : List α} : Sl.of l = Sl.of m ↔ l = m:=by
  constructor
  · intro h; have:=congrArg Sl.l h; rwa [l_of,l_of] at this
  · rintro rfl; rfl
theorem toList_eq {a b : ByteArray} : (a.toList == b.toList) = decide (a = b):=by
  have e : a.toList = b.toList ↔ a = b:=by
    constructor
    · intro h
      rw [ByteArray.toList_eq,ByteArray.toList_eq] at h
      obtain ⟨⟨x⟩⟩:=a
      obtain ⟨⟨y⟩⟩:=b
      simp at h; subst h; rfl
    · rintro rfl; rfl
  by_cases h : a = b
  · rw [decide_eq_true h,h,beq_self_eq_true]
  · rw [decide_eq_false h]
    simp only [beq_eq_false_iff_ne,ne_eq]
    exact fun k => h (e.1 k)
theorem val_eq {a b : Val} : (decide (a.log = b.log) && decide (a.dots = b.dots)) = decide (a = b):=by
  cases a; cases b; simp only [Val.mk.injEq,Bool.decide_and]
theorem head_eq {a b : Head} : (decide (a.pitch.step = b.pitch.step) && (decide (a.pitch.alter = b.pitch.alter) && (decide (a.pitch.octave = b.pitch.octave) && ((a.tied == b.tied) && decide (a.shown = b.shown))))) = decide (a = b):=by
  obtain ⟨⟨a1,a2,a3⟩,a4,a5⟩:=a
  obtain ⟨⟨b1,b2,b3⟩,b4,b5⟩:=b
  have e : (a4 == b4) = decide (a4 = b4):=by cases a4 <;> cases b4 <;> rfl
  simp only [Head.mk.injEq,Pitch.mk.injEq,Bool.decide_and,e,Bool.and_assoc]
theorem grace_eq {a b : Grace} : (decide (a.pitch.step = b.pitch.step) && (decide (a.pitch.alter = b.pitch.alter) && (decide (a.pitch.octave = b.pitch.octave) && (decide (a.log = b.log) && (a.slash == b.slash))))) = decide (a = b):=by
  obtain ⟨⟨a1,a2,a3⟩,a4,a5⟩:=a
  obtain ⟨⟨b1,b2,b3⟩,b4,b5⟩:=b
  have e : (a5 == b5) = decide (a5 = b5):=by cases a5 <;> cases b5 <;> rfl
  simp only [Grace.mk.injEq,Pitch.mk.injEq,Bool.decide_and,e,Bool.and_assoc]
theorem syl_eq {a b : Syllable} : ((a.text.toList == b.text.toList) && decide (a.link = b.link)) = decide (a = b):=by
  cases a; cases b; simp only [Syllable.mk.injEq,Bool.decide_and,toList_eq]
theorem map_ne {α β : Type} {f : α→β} {l m : List α} {i : Nat} {x y : α} (hx : l[i]? = some x) (hy : m[i]? = some y) (h : f x ≠ f y) : l.map f ≠ m.map f:=fun e => by
  have:=congrArg (·[i]?) e
  simp only [List.getElem?_map,hx,hy,Option.map_some,Option.some.injEq] at this
  exact h this
theorem list_ne {α : Type} {l m : List α} {i : Nat} {x y : α} (hx : l[i]? = some x) (hy : m[i]? = some y) (h : x ≠ y) : l ≠ m:=fun e => by
  subst e; rw [hx] at hy; cases hy; exact h rfl
theorem take_step {α : Type} {l m : List α} {i : Nat} {x : α} (hx : l[i]? = some x) (hy : m[i]? = some x) (h : l.take i = m.take i) : l.take (i + 1) = m.take (i + 1):=by
  rw [List.take_add_one,List.take_add_one,hx,hy,h]
theorem noid_iff {a b : Event} : a.noid = b.noid ↔ a.kind = b.kind∧a.value = b.value∧a.articulations = b.articulations∧a.ornament = b.ornament∧a.dynamic = b.dynamic∧a.stem = b.stem∧a.beam = b.beam∧a.heads.l = b.heads.l∧a.graces.l = b.graces.l∧a.lyrics.l = b.lyrics.l:=by
  unfold Event.noid Event.cn
  simp only [Event.mk.injEq,of_inj,true_and]
  constructor
  · rintro ⟨h1,h2,h3,h4,h5,h6,h7,h8,h9,h10⟩; exact ⟨h1,h2,h5,h6,h7,h9,h10,h3,h4,h8⟩
  · rintro ⟨h1,h2,h5,h6,h7,h9,h10,h3,h4,h8⟩; exact ⟨h1,h2,h3,h4,h5,h6,h7,h8,h9,h10⟩
theorem same11_pv (a b : Event) (ha : a.heads.l.length < 1000000) (hg : a.graces.l.length < 1000000) (hy : a.lyrics.l.length < 1000000) : Pv prog pol 99 [a.enc,b.enc] (.sc (.bool (decide (a.noid = b.noid)))):=by
  refine Pv_of' ok99 (by simp only [AV.closedBs,Event.enc_closed,Bool.and_self]) ?_
  rw [show decide (a.noid = b.noid) = decide (a.kind = b.kind∧a.value = b.value∧a.articulations = b.articulations∧a.ornament = b.ornament∧a.dynamic = b.dynamic∧a.stem = b.stem∧a.beam = b.beam∧a.heads.l = b.heads.l∧a.graces.l = b.graces.l∧a.lyrics.l = b.lyrics.l) from decide_eq_decide.2 noid_iff]
  by_cases h1 : a.kind = b.kind
  rotate_left
  · rw [decide_eq_false (fun k => h1 (k.1))]
    simp -implicitDefEqProofs (maxDischargeDepth:=12) only [wpF,cf99,WW,List.replicate,e_splice,if_true,if_false,ite_true,ite_false,true_or,ne_eq,seval,h_putc,beq_self_eq_true,eq_self,exists_eq_left,exists_eq_left',a.enc_eq,b.enc_eq,val_eq,h1]
    exact frz_sc
  by_cases h2 : a.value = b.value
  rotate_left
  · rw [decide_eq_false (fun k => h2 (k.2.1))]
    simp -implicitDefEqProofs (maxDischargeDepth:=12) only [wpF,cf99,WW,List.replicate,e_splice,if_true,if_false,ite_true,ite_false,true_or,ne_eq,seval,h_putc,beq_self_eq_true,eq_self,exists_eq_left,exists_eq_left',a.enc_eq,b.enc_eq,val_eq,h1,h2]
    exact frz_sc
  by_cases h3 : a.articulations = b.articulations
  rotate_left
  · rw [decide_eq_false (fun k => h3 (k.2.2.1))]
    simp -implicitDefEqProofs (maxDischargeDepth:=12) only [wpF,cf99,WW,List.replicate,e_splice,if_true,if_false,ite_true,ite_false,true_or,ne_eq,seval,h_putc,beq_self_eq_true,eq_self,exists_eq_left,exists_eq_left',a.enc_eq,b.enc_eq,val_eq,h1,h2,h3]
    exact frz_sc
  by_cases h4 : a.ornament = b.ornament
  rotate_left
  · rw [decide_eq_false (fun k => h4 (k.2.2.2.1))]
    simp -implicitDefEqProofs (maxDischargeDepth:=12) only [wpF,cf99,WW,List.replicate,e_splice,if_true,if_false,ite_true,ite_false,true_or,ne_eq,seval,h_putc,beq_self_eq_true,eq_self,exists_eq_left,exists_eq_left',a.enc_eq,b.enc_eq,val_eq,h1,h2,h3,h4]
    exact frz_sc
  by_cases h5 : a.dynamic = b.dynamic
  rotate_left
  · rw [decide_eq_false (fun k => h5 (k.2.2.2.2.1))]
    simp -implicitDefEqProofs (maxDischargeDepth:=12) only [wpF,cf99,WW,List.replicate,e_splice,if_true,if_false,ite_true,ite_false,true_or,ne_eq,seval,h_putc,beq_self_eq_true,eq_self,exists_eq_left,exists_eq_left',a.enc_eq,b.enc_eq,val_eq,h1,h2,h3,h4,h5]
    exact frz_sc
  by_cases h6 : a.stem = b.stem
  rotate_left
  · rw [decide_eq_false (fun k => h6 (k.2.2.2.2.2.1))]
    simp -implicitDefEqProofs (maxDischargeDepth:=12) only [wpF,cf99,WW,List.replicate,e_splice,if_true,if_false,ite_true,ite_false,true_or,ne_eq,seval,h_putc,beq_self_eq_true,eq_self,exists_eq_left,exists_eq_left',a.enc_eq,b.enc_eq,val_eq,h1,h2,h3,h4,h5,h6]
    exact frz_sc
  by_cases h7 : a.beam = b.beam
  rotate_left
  · rw [decide_eq_false (fun k => h7 (k.2.2.2.2.2.2.1))]
    simp -implicitDefEqProofs (maxDischargeDepth:=12) only [wpF,cf99,WW,List.replicate,e_splice,if_true,if_false,ite_true,ite_false,true_or,ne_eq,seval,h_putc,beq_self_eq_true,eq_self,exists_eq_left,exists_eq_left',a.enc_eq,b.enc_eq,val_eq,h1,h2,h3,h4,h5,h6,h7]
    exact frz_sc
  by_cases h8 : (a.heads.l.length : Int) = (b.heads.l.length : Int)
  rotate_left
  · rw [decide_eq_false (fun k => h8 (by rw [k.2.2.2.2.2.2.2.1]))]
    simp -implicitDefEqProofs (maxDischargeDepth:=12) only [wpF,cf99,WW,List.replicate,e_splice,if_true,if_false,ite_true,ite_false,true_or,ne_eq,seval,h_putc,beq_self_eq_true,eq_self,exists_eq_left,exists_eq_left',a.enc_eq,b.enc_eq,val_eq,h1,h2,h3,h4,h5,h6,h7,h8]
    exact frz_sc
  by_cases h9 : (a.graces.l.length : Int) = (b.graces.l.length : Int)
  rotate_left
  · rw [decide_eq_false (fun k => h9 (by rw [k.2.2.2.2.2.2.2.2.1]))]
    simp -implicitDefEqProofs (maxDischargeDepth:=12) only [wpF,cf99,WW,List.replicate,e_splice,if_true,if_false,ite_true,ite_false,true_or,ne_eq,seval,h_putc,beq_self_eq_true,eq_self,exists_eq_left,exists_eq_left',a.enc_eq,b.enc_eq,val_eq,h1,h2,h3,h4,h5,h6,h7,h8,h9]
    exact frz_sc
  by_cases h10 : (a.lyrics.l.length : Int) = (b.lyrics.l.length : Int)
  rotate_left
  · rw [decide_eq_false (fun k => h10 (by rw [k.2.2.2.2.2.2.2.2.2]))]
    simp -implicitDefEqProofs (maxDischargeDepth:=12) only [wpF,cf99,WW,List.replicate,e_splice,if_true,if_false,ite_true,ite_false,true_or,ne_eq,seval,h_putc,beq_self_eq_true,eq_self,exists_eq_left,exists_eq_left',a.enc_eq,b.enc_eq,val_eq,h1,h2,h3,h4,h5,h6,h7,h8,h9,h10]
    exact frz_sc
  simp -implicitDefEqProofs (maxDischargeDepth:=12) only [wpF,cf99,WW,List.replicate,e_splice,if_true,if_false,ite_true,ite_false,true_or,ne_eq,seval,h_putc,beq_self_eq_true,eq_self,exists_eq_left,exists_eq_left',a.enc_eq,b.enc_eq,val_eq,eq_true h1,eq_true h2,eq_true h3,eq_true h4,eq_true h5,eq_true h6,eq_true h7,eq_true h8,eq_true h9,eq_true h10]
  refine wp_loop (Inv:=fun k t H => ∃ (i : Nat),i + k = a.heads.l.length∧H.cells 0 = some a.enc.cells∧H.cells 1 = some b.enc.cells∧a.heads.l.take i = b.heads.l.take i ∧
    ∃ x : Nat→AV,t = [a.enc,b.enc,.ptr 0 0,.ptr 1 0,.sc (.bool false),.sc (.int .i64 i),x 6,x 7,x 8,x 9,x 10,x 11,x 12,x 13,x 14,x 15,x 16,x 17,x 18,x 19,x 20,x 21,x 22,x 23,x 24,x 25,x 26,x 27,x 28,x 29,x 30,x 31,x 32,x 33,x 34,x 35,x 36,x 37,x 38,x 39,x 40,x 41,x 42,x 43,x 44,x 45,x 46,x 47,x 48,x 49,x 50,x 51,x 52,x 53,x 54,x 55,x 56,x 57,x 58,x 59,x 60,x 61,x 62,x 63,x 64,x 65,x 66,x 67,x 68,x 69,x 70,x 71,x 72,x 73,x 74,x 75,x 76,x 77,x 78,x 79,x 80,x 81,x 82,x 83,x 84,x 85,x 86,x 87,x 88,x 89,x 90,x 91,x 92,x 93,x 94,x 95,x 96,x 97,x 98,x 99,x 100,x 101,x 102,x 103,x 104,x 105,x 106,x 107,x 108,x 109,x 110,x 111,x 112,x 113,x 114,x 115,x 116,x 117,x 118,x 119,x 120,x 121,x 122,x 123,x 124,x 125,x 126,x 127,x 128,x 129,x 130,x 131,x 132,x 133,x 134,x 135]) (k:=a.heads.l.length) ?_
    ⟨0,by omega,?_,?_,rfl,ex_x rfl⟩
  rotate_left
  · simp -implicitDefEqProofs (maxDischargeDepth:=12) only [WW,List.replicate,e_splice,if_true,if_false,ite_true,ite_false,true_or,ne_eq,seval,h_putc,beq_self_eq_true,eq_self,exists_eq_left,exists_eq_left']; rfl
  · simp -implicitDefEqProofs (maxDischargeDepth:=12) only [WW,List.replicate,e_splice,if_true,if_false,ite_true,ite_false,true_or,ne_eq,seval,h_putc,beq_self_eq_true,eq_self,exists_eq_left,exists_eq_left']; rfl
  rintro k t H ⟨i,hk,hA,hB,ht,x,rfl⟩
  simp only [a.enc_eq,b.enc_eq,c_agg] at hA hB
  by_cases c1 : (i : Int) < (a.heads.l.length : Int)
  · obtain ⟨y,hy1⟩ : ∃ y,a.heads.l[i]? = some y:=⟨_,List.getElem?_eq_getElem (by omega)⟩
    obtain ⟨z,hz1⟩ : ∃ y,b.heads.l[i]? = some y:=⟨_,List.getElem?_eq_getElem (by omega)⟩
    have e2 : IntKind.i64.wrap ((i : Int) + 1) = ((i + 1 : Nat) : Int):=by rw [w64 (by omega) (by omega)]; omega
    by_cases c2 : y = z
    · subst c2
      simp -implicitDefEqProofs (maxDischargeDepth:=12) only [WW,List.replicate,e_splice,if_true,if_false,ite_true,ite_false,true_or,ne_eq,seval,h_putc,beq_self_eq_true,eq_self,exists_eq_left,exists_eq_left',hA,hB,c1,hy1,hz1,y.enc_eq,head_eq,e2]
      exact ⟨k - 1,by omega,i + 1,by omega,rfl,rfl,take_step hy1 hz1 ht,ex_x rfl⟩
    · rw [decide_eq_false (fun k => list_ne hy1 hz1 c2 k.1)]
      simp -implicitDefEqProofs (maxDischargeDepth:=12) only [WW,List.replicate,e_splice,if_true,if_false,ite_true,ite_false,true_or,ne_eq,seval,h_putc,beq_self_eq_true,eq_self,exists_eq_left,exists_eq_left',hA,hB,c1,hy1,hz1,y.enc_eq,z.enc_eq,head_eq,c2]
      exact frz_sc
  have headsE : a.heads.l = b.heads.l:=by rw [List.take_of_length_le (by omega),List.take_of_length_le (by omega)] at ht; exact ht
  simp -implicitDefEqProofs (maxDischargeDepth:=12) only [WW,List.replicate,e_splice,if_true,if_false,ite_true,ite_false,true_or,ne_eq,seval,h_putc,beq_self_eq_true,eq_self,exists_eq_left,exists_eq_left',hA,hB,c1]
  refine wp_loop (Inv:=fun k t H => ∃ (i : Nat),i + k = a.graces.l.length∧H.cells 0 = some a.enc.cells∧H.cells 1 = some b.enc.cells∧a.graces.l.take i = b.graces.l.take i ∧
    ∃ x : Nat→AV,t = [a.enc,b.enc,.ptr 0 0,.ptr 1 0,.sc (.bool false),x 5,.sc (.int .i64 i),x 7,x 8,x 9,x 10,x 11,x 12,x 13,x 14,x 15,x 16,x 17,x 18,x 19,x 20,x 21,x 22,x 23,x 24,x 25,x 26,x 27,x 28,x 29,x 30,x 31,x 32,x 33,x 34,x 35,x 36,x 37,x 38,x 39,x 40,x 41,x 42,x 43,x 44,x 45,x 46,x 47,x 48,x 49,x 50,x 51,x 52,x 53,x 54,x 55,x 56,x 57,x 58,x 59,x 60,x 61,x 62,x 63,x 64,x 65,x 66,x 67,x 68,x 69,x 70,x 71,x 72,x 73,x 74,x 75,x 76,x 77,x 78,x 79,x 80,x 81,x 82,x 83,x 84,x 85,x 86,x 87,x 88,x 89,x 90,x 91,x 92,x 93,x 94,x 95,x 96,x 97,x 98,x 99,x 100,x 101,x 102,x 103,x 104,x 105,x 106,x 107,x 108,x 109,x 110,x 111,x 112,x 113,x 114,x 115,x 116,x 117,x 118,x 119,x 120,x 121,x 122,x 123,x 124,x 125,x 126,x 127,x 128,x 129,x 130,x 131,x 132,x 133,x 134,x 135]) (k:=a.graces.l.length) ?_
    ⟨0,by omega,hA,hB,rfl,ex_x rfl⟩
  clear hA hB ht x c1 hk
  rintro k t H ⟨i,hk,hA,hB,ht,x,rfl⟩
  simp only [a.enc_eq,b.enc_eq,c_agg] at hA hB
  by_cases c1 : (i : Int) < (a.graces.l.length : Int)
  · obtain ⟨y,hy1⟩ : ∃ y,a.graces.l[i]? = some y:=⟨_,List.getElem?_eq_getElem (by omega)⟩
    obtain ⟨z,hz1⟩ : ∃ y,b.graces.l[i]? = some y:=⟨_,List.getElem?_eq_getElem (by omega)⟩
    have e2 : IntKind.i64.wrap ((i : Int) + 1) = ((i + 1 : Nat) : Int):=by rw [w64 (by omega) (by omega)]; omega
    by_cases c2 : y = z
    · subst c2
      simp -implicitDefEqProofs (maxDischargeDepth:=12) only [WW,List.replicate,e_splice,if_true,if_false,ite_true,ite_false,true_or,ne_eq,seval,h_putc,beq_self_eq_true,eq_self,exists_eq_left,exists_eq_left',hA,hB,c1,hy1,hz1,y.enc_eq,grace_eq,e2]
      exact ⟨k - 1,by omega,i + 1,by omega,rfl,rfl,take_step hy1 hz1 ht,ex_x rfl⟩
    · rw [decide_eq_false (fun k => list_ne hy1 hz1 c2 k.2.1)]
      simp -implicitDefEqProofs (maxDischargeDepth:=12) only [WW,List.replicate,e_splice,if_true,if_false,ite_true,ite_false,true_or,ne_eq,seval,h_putc,beq_self_eq_true,eq_self,exists_eq_left,exists_eq_left',hA,hB,c1,hy1,hz1,y.enc_eq,z.enc_eq,grace_eq,c2]
      exact frz_sc
  have gracesE : a.graces.l = b.graces.l:=by rw [List.take_of_length_le (by omega),List.take_of_length_le (by omega)] at ht; exact ht
  simp -implicitDefEqProofs (maxDischargeDepth:=12) only [WW,List.replicate,e_splice,if_true,if_false,ite_true,ite_false,true_or,ne_eq,seval,h_putc,beq_self_eq_true,eq_self,exists_eq_left,exists_eq_left',hA,hB,c1]
  refine wp_loop (Inv:=fun k t H => ∃ (i : Nat),i + k = a.lyrics.l.length∧H.cells 0 = some a.enc.cells∧H.cells 1 = some b.enc.cells∧a.lyrics.l.take i = b.lyrics.l.take i ∧
    ∃ x : Nat→AV,t = [a.enc,b.enc,.ptr 0 0,.ptr 1 0,.sc (.bool false),x 5,x 6,.sc (.int .i64 i),x 8,x 9,x 10,x 11,x 12,x 13,x 14,x 15,x 16,x 17,x 18,x 19,x 20,x 21,x 22,x 23,x 24,x 25,x 26,x 27,x 28,x 29,x 30,x 31,x 32,x 33,x 34,x 35,x 36,x 37,x 38,x 39,x 40,x 41,x 42,x 43,x 44,x 45,x 46,x 47,x 48,x 49,x 50,x 51,x 52,x 53,x 54,x 55,x 56,x 57,x 58,x 59,x 60,x 61,x 62,x 63,x 64,x 65,x 66,x 67,x 68,x 69,x 70,x 71,x 72,x 73,x 74,x 75,x 76,x 77,x 78,x 79,x 80,x 81,x 82,x 83,x 84,x 85,x 86,x 87,x 88,x 89,x 90,x 91,x 92,x 93,x 94,x 95,x 96,x 97,x 98,x 99,x 100,x 101,x 102,x 103,x 104,x 105,x 106,x 107,x 108,x 109,x 110,x 111,x 112,x 113,x 114,x 115,x 116,x 117,x 118,x 119,x 120,x 121,x 122,x 123,x 124,x 125,x 126,x 127,x 128,x 129,x 130,x 131,x 132,x 133,x 134,x 135]) (k:=a.lyrics.l.length) ?_
    ⟨0,by omega,hA,hB,rfl,ex_x rfl⟩
  clear hA hB ht x c1 hk
  rintro k t H ⟨i,hk,hA,hB,ht,x,rfl⟩
  simp only [a.enc_eq,b.enc_eq,c_agg] at hA hB
  by_cases c1 : (i : Int) < (a.lyrics.l.length : Int)
  · obtain ⟨y,hy1⟩ : ∃ y,a.lyrics.l[i]? = some y:=⟨_,List.getElem?_eq_getElem (by omega)⟩
    obtain ⟨z,hz1⟩ : ∃ y,b.lyrics.l[i]? = some y:=⟨_,List.getElem?_eq_getElem (by omega)⟩
    have e2 : IntKind.i64.wrap ((i : Int) + 1) = ((i + 1 : Nat) : Int):=by rw [w64 (by omega) (by omega)]; omega
    by_cases c2 : y = z
    · subst c2
      simp -implicitDefEqProofs (maxDischargeDepth:=12) only [WW,List.replicate,e_splice,if_true,if_false,ite_true,ite_false,true_or,ne_eq,seval,h_putc,beq_self_eq_true,eq_self,exists_eq_left,exists_eq_left',hA,hB,c1,hy1,hz1,y.enc_eq,syl_eq,e2]
      exact ⟨k - 1,by omega,i + 1,by omega,rfl,rfl,take_step hy1 hz1 ht,ex_x rfl⟩
    · rw [decide_eq_false (fun k => list_ne hy1 hz1 c2 k.2.2)]
      simp -implicitDefEqProofs (maxDischargeDepth:=12) only [WW,List.replicate,e_splice,if_true,if_false,ite_true,ite_false,true_or,ne_eq,seval,h_putc,beq_self_eq_true,eq_self,exists_eq_left,exists_eq_left',hA,hB,c1,hy1,hz1,y.enc_eq,z.enc_eq,syl_eq,c2]
      exact frz_sc
  have lyricsE : a.lyrics.l = b.lyrics.l:=by rw [List.take_of_length_le (by omega),List.take_of_length_le (by omega)] at ht; exact ht
  simp -implicitDefEqProofs (maxDischargeDepth:=12) only [WW,List.replicate,e_splice,if_true,if_false,ite_true,ite_false,true_or,ne_eq,seval,h_putc,beq_self_eq_true,eq_self,exists_eq_left,exists_eq_left',hA,hB,c1]
  rw [decide_eq_true ⟨headsE,gracesE,lyricsE⟩]
  exact frz_sc
end Go.Hem
namespace Go.Hem
variable {pol : Pol}
def Voice.cn (v : Voice) : Voice:={ events:=Sl.of (v.events.l.map Event.cn),tuplets:=Sl.of v.tuplets.l }
theorem tup_eq {a b : Tuplet} : (decide (a.first = b.first) && (decide (a.count = b.count) && (decide (a.actual = b.actual) && decide (a.normal = b.normal)))) = decide (a = b):=by
  cases a; cases b; simp only [Tuplet.mk.injEq,Bool.decide_and]
theorem Voice.cn_iff {a b : Voice} : a.cn = b.cn ↔ a.events.l.map Event.cn = b.events.l.map Event.cn∧a.tuplets.l = b.tuplets.l:=by
  unfold Voice.cn; simp only [Voice.mk.injEq,of_inj]
theorem cn_noid {a b : Event} : a.cn = b.cn ↔ a.id = b.id∧a.noid = b.noid:=by
  unfold Event.noid Event.cn
  simp only [Event.mk.injEq,of_inj,true_and]
theorem map_step {α β : Type} {f : α→β} {l m : List α} {i : Nat} {x y : α} (hx : l[i]? = some x) (hy : m[i]? = some y) (e : f x = f y) (h : (l.take i).map f = (m.take i).map f) : (l.take (i + 1)).map f = (m.take (i + 1)).map f:=by
  rw [List.take_add_one,List.take_add_one,hx,hy,List.map_append,List.map_append,h]; simp [e]
def Event.tame (e : Event) : Prop:=e.heads.l.length < 1000000∧e.graces.l.length < 1000000∧e.lyrics.l.length < 1000000
def Voice.tame (v : Voice) : Prop:=v.events.l.length < 1000000∧v.tuplets.l.length < 1000000∧∀ e ∈ v.events.l,e.tame
theorem sameVoice_pv (hp : pol.pure 99 = true) (a b : Voice) (ha : a.tame) : Pv prog pol 50 [a.enc,b.enc] (.sc (.bool (decide (a.cn = b.cn)))):=by
  refine Pv_of' ok50 (by simp only [AV.closedBs,Voice.enc_closed,Bool.and_self]) ?_
  rw [show decide (a.cn = b.cn) = decide (a.events.l.map Event.cn = b.events.l.map Event.cn∧a.tuplets.l = b.tuplets.l) from decide_eq_decide.2 Voice.cn_iff]
  generalize hr : decide (a.events.l.map Event.cn = b.events.l.map Event.cn∧a.tuplets.l = b.tuplets.l) = r
  obtain ⟨b1,b2,b3⟩:=ha
  simp -implicitDefEqProofs (maxDischargeDepth:=12) only [wpF,cf50,WW,List.replicate,e_splice,if_true,if_false,ite_true,ite_false,true_or,ne_eq,seval,h_putc,beq_self_eq_true,eq_self,exists_eq_left,exists_eq_left',a.enc_eq,b.enc_eq]
  by_cases h1 : (a.events.l.length : Int) = (b.events.l.length : Int)
  rotate_left
  · rw [decide_eq_false (fun k => h1 (by have:=congrArg List.length k.1; simp only [List.length_map] at this; omega))] at hr; subst hr
    simp -implicitDefEqProofs (maxDischargeDepth:=12) only [WW,List.replicate,e_splice,if_true,if_false,ite_true,ite_false,true_or,ne_eq,seval,h_putc,beq_self_eq_true,eq_self,exists_eq_left,exists_eq_left',h1]
    exact frz_sc
  simp -implicitDefEqProofs (maxDischargeDepth:=12) only [WW,List.replicate,e_splice,if_true,if_false,ite_true,ite_false,true_or,ne_eq,seval,h_putc,beq_self_eq_true,eq_self,exists_eq_left,exists_eq_left',eq_true h1]
  by_cases h2 : (a.tuplets.l.length : Int) = (b.tuplets.l.length : Int)
  rotate_left
  · rw [decide_eq_false (fun k => h2 (by rw [k.2]))] at hr; subst hr
    simp -implicitDefEqProofs (maxDischargeDepth:=12) only [WW,List.replicate,e_splice,if_true,if_false,ite_true,ite_false,true_or,ne_eq,seval,h_putc,beq_self_eq_true,eq_self,exists_eq_left,exists_eq_left',h2]
    exact frz_sc
  simp -implicitDefEqProofs (maxDischargeDepth:=12) only [WW,List.replicate,e_splice,if_true,if_false,ite_true,ite_false,true_or,ne_eq,seval,h_putc,beq_self_eq_true,eq_self,exists_eq_left,exists_eq_left',eq_true h2]
  refine wp_loop (Inv:=fun k t H => ∃ (i : Nat),i + k = a.events.l.length∧H.cells 0 = some a.enc.cells∧H.cells 1 = some b.enc.cells∧(a.events.l.take i).map Event.cn = (b.events.l.take i).map Event.cn ∧
    ∃ x : Nat→AV,t = [a.enc,b.enc,.ptr 0 0,.ptr 1 0,.sc (.bool false),.sc (.int .i64 i),x 6,x 7,x 8,x 9,x 10,x 11,x 12,x 13,x 14,x 15,x 16,x 17,x 18,x 19,x 20,x 21,x 22,x 23,x 24,x 25,x 26,x 27,x 28,x 29,x 30,x 31,x 32,x 33,x 34,x 35,x 36,x 37,x 38,x 39,x 40,x 41,x 42,x 43,x 44,x 45,x 46,x 47,x 48,x 49,x 50,x 51,x 52,x 53,x 54,x 55,x 56,x 57,x 58,x 59,x 60,x 61,x 62,x 63,x 64,x 65,x 66,x 67,x 68,x 69,x 70,x 71,x 72,x 73,x 74]) (k:=a.events.l.length) ?_
    ⟨0,by omega,?_,?_,rfl,ex_x rfl⟩
  rotate_left
  · simp -implicitDefEqProofs (maxDischargeDepth:=12) only [WW,List.replicate,e_splice,if_true,if_false,ite_true,ite_false,true_or,ne_eq,seval,h_putc,beq_self_eq_true,eq_self,exists_eq_left,exists_eq_left']; rfl
  · simp -implicitDefEqProofs (maxDischargeDepth:=12) only [WW,List.replicate,e_splice,if_true,if_false,ite_true,ite_false,true_or,ne_eq,seval,h_putc,beq_self_eq_true,eq_self,exists_eq_left,exists_eq_left']; rfl
  rintro k t H ⟨i,hk,hA,hB,ht,x,rfl⟩
  simp only [a.enc_eq,b.enc_eq,c_agg] at hA hB
  by_cases c1 : (i : Int) < (a.events.l.length : Int)
  · obtain ⟨y,hy1⟩ : ∃ y,a.events.l[i]? = some y:=⟨_,List.getElem?_eq_getElem (by omega)⟩
    obtain ⟨z,hz1⟩ : ∃ y,b.events.l[i]? = some y:=⟨_,List.getElem?_eq_getElem (by omega)⟩
    have e2 : IntKind.i64.wrap ((i : Int) + 1) = ((i + 1 : Nat) : Int):=by rw [w64 (by omega) (by omega)]; omega
    obtain ⟨t1,t2,t3⟩:=b3 y (List.mem_of_getElem? hy1)
    by_cases c2 : y.id = z.id
    · simp -implicitDefEqProofs (maxDischargeDepth:=12) only [WW,List.replicate,e_splice,if_true,if_false,ite_true,ite_false,true_or,ne_eq,seval,h_putc,beq_self_eq_true,eq_self,exists_eq_left,exists_eq_left',hA,hB,c1,hy1,hz1,y.enc_eq,z.enc_eq,id_eq,eq_true c2]
      rw [← y.enc_eq,← z.enc_eq]
      refine wA_pure hp (same11_pv y z t1 t2 t3) ?_
      by_cases c3 : y.noid = z.noid
      · simp -implicitDefEqProofs (maxDischargeDepth:=12) only [WW,List.replicate,e_splice,if_true,if_false,ite_true,ite_false,true_or,ne_eq,seval,h_putc,beq_self_eq_true,eq_self,exists_eq_left,exists_eq_left',eq_true c3,e2]
        exact ⟨k - 1,by omega,i + 1,by omega,hA,hB,map_step hy1 hz1 (cn_noid.2 ⟨c2,c3⟩) ht,ex_x rfl⟩
      · rw [decide_eq_false (fun k => map_ne hy1 hz1 (fun e => c3 (cn_noid.1 e).2) k.1)] at hr; subst hr
        simp -implicitDefEqProofs (maxDischargeDepth:=12) only [WW,List.replicate,e_splice,if_true,if_false,ite_true,ite_false,true_or,ne_eq,seval,h_putc,beq_self_eq_true,eq_self,exists_eq_left,exists_eq_left',c3]
        exact frz_sc
    · rw [decide_eq_false (fun k => map_ne hy1 hz1 (fun e => c2 (cn_noid.1 e).1) k.1)] at hr; subst hr
      simp -implicitDefEqProofs (maxDischargeDepth:=12) only [WW,List.replicate,e_splice,if_true,if_false,ite_true,ite_false,true_or,ne_eq,seval,h_putc,beq_self_eq_true,eq_self,exists_eq_left,exists_eq_left',hA,hB,c1,hy1,hz1,y.enc_eq,z.enc_eq,id_eq,c2]
      exact frz_sc
  have evE : a.events.l.map Event.cn = b.events.l.map Event.cn:=by rw [List.take_of_length_le (by omega),List.take_of_length_le (by omega)] at ht; exact ht
  simp -implicitDefEqProofs (maxDischargeDepth:=12) only [WW,List.replicate,e_splice,if_true,if_false,ite_true,ite_false,true_or,ne_eq,seval,h_putc,beq_self_eq_true,eq_self,exists_eq_left,exists_eq_left',hA,hB,c1]
  refine wp_loop (Inv:=fun k t H => ∃ (i : Nat),i + k = a.tuplets.l.length∧H.cells 0 = some a.enc.cells∧H.cells 1 = some b.enc.cells∧a.tuplets.l.take i = b.tuplets.l.take i ∧
    ∃ x : Nat→AV,t = [a.enc,b.enc,.ptr 0 0,.ptr 1 0,.sc (.bool false),x 5,.sc (.int .i64 i),x 7,x 8,x 9,x 10,x 11,x 12,x 13,x 14,x 15,x 16,x 17,x 18,x 19,x 20,x 21,x 22,x 23,x 24,x 25,x 26,x 27,x 28,x 29,x 30,x 31,x 32,x 33,x 34,x 35,x 36,x 37,x 38,x 39,x 40,x 41,x 42,x 43,x 44,x 45,x 46,x 47,x 48,x 49,x 50,x 51,x 52,x 53,x 54,x 55,x 56,x 57,x 58,x 59,x 60,x 61,x 62,x 63,x 64,x 65,x 66,x 67,x 68,x 69,x 70,x 71,x 72,x 73,x 74]) (k:=a.tuplets.l.length) ?_
    ⟨0,by omega,hA,hB,rfl,ex_x rfl⟩
  clear hA hB ht x c1 hk
  rintro k t H ⟨i,hk,hA,hB,ht,x,rfl⟩
  simp only [a.enc_eq,b.enc_eq,c_agg] at hA hB
  by_cases c1 : (i : Int) < (a.tuplets.l.length : Int)
  · obtain ⟨y,hy1⟩ : ∃ y,a.tuplets.l[i]? = some y:=⟨_,List.getElem?_eq_getElem (by omega)⟩
    obtain ⟨z,hz1⟩ : ∃ y,b.tuplets.l[i]? = some y:=⟨_,List.getElem?_eq_getElem (by omega)⟩
    have e2 : IntKind.i64.wrap ((i : Int) + 1) = ((i + 1 : Nat) : Int):=by rw [w64 (by omega) (by omega)]; omega
    by_cases c2 : y = z
    · subst c2
      simp -implicitDefEqProofs (maxDischargeDepth:=12) only [WW,List.replicate,e_splice,if_true,if_false,ite_true,ite_false,true_or,ne_eq,seval,h_putc,beq_self_eq_true,eq_self,exists_eq_left,exists_eq_left',hA,hB,c1,hy1,hz1,y.enc_eq,tup_eq,e2]
      exact ⟨k - 1,by omega,i + 1,by omega,rfl,rfl,take_step hy1 hz1 ht,ex_x rfl⟩
    · rw [decide_eq_false (fun k => list_ne hy1 hz1 c2 k.2)] at hr; subst hr
      simp -implicitDefEqProofs (maxDischargeDepth:=12) only [WW,List.replicate,e_splice,if_true,if_false,ite_true,ite_false,true_or,ne_eq,seval,h_putc,beq_self_eq_true,eq_self,exists_eq_left,exists_eq_left',hA,hB,c1,hy1,hz1,y.enc_eq,z.enc_eq,tup_eq,c2]
      exact frz_sc
  have tuE : a.tuplets.l = b.tuplets.l:=by rw [List.take_of_length_le (by omega),List.take_of_length_le (by omega)] at ht; exact ht
  simp -implicitDefEqProofs (maxDischargeDepth:=12) only [WW,List.replicate,e_splice,if_true,if_false,ite_true,ite_false,true_or,ne_eq,seval,h_putc,beq_self_eq_true,eq_self,exists_eq_left,exists_eq_left',hA,hB,c1]
  rw [decide_eq_true ⟨evE,tuE⟩] at hr; subst hr
  exact frz_sc
end Go.Hem
namespace Go.Hem
variable {pol : Pol}
def Cell.cn (c : Cell) : Cell:={ clefs:=Sl.of c.clefs.l,voices:=Sl.of (c.voices.l.map Voice.cn) }
def Measure.cn (m : Measure) : Measure:={ m with tempi:=Sl.of m.tempi.l,cells:=Sl.of (m.cells.l.map Cell.cn) }
def Cell.tame (c : Cell) : Prop:=c.clefs.l.length < 1000000∧c.voices.l.length < 1000000∧∀ v ∈ c.voices.l,v.tame
def Measure.tame (m : Measure) : Prop:=m.tempi.l.length < 1000000∧m.cells.l.length < 1000000∧∀ c ∈ m.cells.l,c.tame
theorem clef_eq {a b : ClefChange} : (decide (a.at_ = b.at_) && decide (a.clef = b.clef)) = decide (a = b):=by
  cases a; cases b; simp only [ClefChange.mk.injEq,Bool.decide_and]
theorem tempo_eq {a b : Tempo} : (decide (a.at_ = b.at_) && (decide (a.micros = b.micros) && (a.ramp == b.ramp))) = decide (a = b):=by
  obtain ⟨a1,a2,a3⟩:=a
  obtain ⟨b1,b2,b3⟩:=b
  have e : (a3 == b3) = decide (a3 = b3):=by cases a3 <;> cases b3 <;> rfl
  simp only [Tempo.mk.injEq,Bool.decide_and,e]
theorem metre_eq {a b : Metre} : (decide (a.count = b.count) && (decide (a.unit = b.unit) && (decide (a.g0 = b.g0) && (decide (a.g1 = b.g1) && (decide (a.g2 = b.g2) && (decide (a.g3 = b.g3) && (decide (a.g4 = b.g4) && decide (a.g5 = b.g5)))))))) = decide (a = b):=by
  cases a; cases b; simp only [Metre.mk.injEq,Bool.decide_and,Bool.and_assoc]
theorem bool_dec {a b : Bool} : (a == b) = decide (a = b):=by cases a <;> cases b <;> rfl
theorem Cell.cn_iff {a b : Cell} : a.cn = b.cn ↔ a.clefs.l = b.clefs.l∧a.voices.l.map Voice.cn = b.voices.l.map Voice.cn:=by
  unfold Cell.cn; simp only [Cell.mk.injEq,of_inj]
theorem Measure.cn_tempi {a b : Measure} (k : a.cn = b.cn) : a.tempi.l = b.tempi.l:=by
  have:=congrArg (fun m : Measure => m.tempi.l) k
  simpa only [Measure.cn,l_of] using this
theorem Measure.cn_cells {a b : Measure} (k : a.cn = b.cn) : a.cells.l.map Cell.cn = b.cells.l.map Cell.cn:=by
  have:=congrArg (fun m : Measure => m.cells.l) k
  simpa only [Measure.cn,l_of] using this
theorem Measure.cn_mk {a b : Measure} (h1 : a.id = b.id) (h2 : a.metre = b.metre) (h3 : a.length = b.length) (h4 : a.fifths = b.fifths) (h5 : a.rstart = b.rstart) (h6 : a.rend = b.rend) (h7 : a.endings = b.endings) (h8 : a.jump = b.jump) (h9 : a.labels = b.labels) (h10 : a.swing = b.swing) (h11 : a.brk = b.brk) (h12 : a.rehearsal = b.rehearsal) (h13 : a.tempi.l = b.tempi.l) (h14 : a.cells.l.map Cell.cn = b.cells.l.map Cell.cn) : a.cn = b.cn:=by
  unfold Measure.cn; rw [h1,h2,h3,h4,h5,h6,h7,h8,h9,h10,h11,h12,h13,h14]
theorem len_of_map {α β : Type} {f : α→β} {l m : List α} (h : l.map f = m.map f) : (l.length : Int) = (m.length : Int):=by
  have:=congrArg List.length h; simp only [List.length_map] at this; omega
theorem sameCell_pv (hp : pol.pure 99 = true) (hp2 : pol.pure 50 = true) (a b : Cell) (ha : a.tame) : Pv prog pol 113 [a.enc,b.enc] (.sc (.bool (decide (a.cn = b.cn)))):=by
  refine Pv_of' ok113 (by simp only [AV.closedBs,Cell.enc_closed,Bool.and_self]) ?_
  obtain ⟨b1,b2,b3⟩:=ha
  generalize hr : decide (a.cn = b.cn) = r
  simp -implicitDefEqProofs (maxDischargeDepth:=12) only [wpF,cf113,WW,List.replicate,e_splice,if_true,if_false,ite_true,ite_false,true_or,ne_eq,seval,h_putc,beq_self_eq_true,eq_self,exists_eq_left,exists_eq_left',a.enc_eq,b.enc_eq,bool_dec]
  by_cases h1 : (a.clefs.l.length : Int) = (b.clefs.l.length : Int)
  rotate_left
  · rw [decide_eq_false (fun k : a.cn = b.cn => h1 (by rw [(Cell.cn_iff.1 k).1]))] at hr; subst hr
    simp -implicitDefEqProofs (maxDischargeDepth:=12) only [WW,List.replicate,e_splice,if_true,if_false,ite_true,ite_false,true_or,ne_eq,seval,h_putc,beq_self_eq_true,eq_self,exists_eq_left,exists_eq_left',h1,bool_dec]
    exact frz_sc
  simp -implicitDefEqProofs (maxDischargeDepth:=12) only [WW,List.replicate,e_splice,if_true,if_false,ite_true,ite_false,true_or,ne_eq,seval,h_putc,beq_self_eq_true,eq_self,exists_eq_left,exists_eq_left',eq_true h1,bool_dec]
  by_cases h2 : (a.voices.l.length : Int) = (b.voices.l.length : Int)
  rotate_left
  · rw [decide_eq_false (fun k : a.cn = b.cn => h2 (len_of_map (Cell.cn_iff.1 k).2))] at hr; subst hr
    simp -implicitDefEqProofs (maxDischargeDepth:=12) only [WW,List.replicate,e_splice,if_true,if_false,ite_true,ite_false,true_or,ne_eq,seval,h_putc,beq_self_eq_true,eq_self,exists_eq_left,exists_eq_left',h2,bool_dec]
    exact frz_sc
  simp -implicitDefEqProofs (maxDischargeDepth:=12) only [WW,List.replicate,e_splice,if_true,if_false,ite_true,ite_false,true_or,ne_eq,seval,h_putc,beq_self_eq_true,eq_self,exists_eq_left,exists_eq_left',eq_true h2,bool_dec]
  refine wp_loop (Inv:=fun k t H => ∃ (i : Nat),i + k = a.clefs.l.length∧H.cells 0 = some a.enc.cells∧H.cells 1 = some b.enc.cells∧a.clefs.l.take i = b.clefs.l.take i ∧
    ∃ x : Nat→AV,t = [a.enc,b.enc,.ptr 0 0,.ptr 1 0,.sc (.bool false),.sc (.int .i64 i),x 6,x 7,x 8,x 9,x 10,x 11,x 12,x 13,x 14,x 15,x 16,x 17,x 18,x 19,x 20,x 21,x 22,x 23,x 24,x 25,x 26,x 27,x 28,x 29,x 30,x 31,x 32,x 33,x 34,x 35,x 36,x 37,x 38,x 39,x 40,x 41,x 42,x 43,x 44,x 45,x 46,x 47,x 48,x 49,x 50,x 51,x 52,x 53,x 54,x 55,x 56,x 57,x 58,x 59]) (k:=a.clefs.l.length) ?_
    ⟨0,by omega,?_,?_,rfl,ex_x rfl⟩
  rotate_left
  · simp -implicitDefEqProofs (maxDischargeDepth:=12) only [WW,List.replicate,e_splice,if_true,if_false,ite_true,ite_false,true_or,ne_eq,seval,h_putc,beq_self_eq_true,eq_self,exists_eq_left,exists_eq_left']; rfl
  · simp -implicitDefEqProofs (maxDischargeDepth:=12) only [WW,List.replicate,e_splice,if_true,if_false,ite_true,ite_false,true_or,ne_eq,seval,h_putc,beq_self_eq_true,eq_self,exists_eq_left,exists_eq_left']; rfl
  rintro k t H ⟨i,hk,hA,hB,ht,x,rfl⟩
  simp only [a.enc_eq,b.enc_eq,c_agg] at hA hB
  by_cases c1 : (i : Int) < (a.clefs.l.length : Int)
  · obtain ⟨y,hy1⟩ : ∃ y,a.clefs.l[i]? = some y:=⟨_,List.getElem?_eq_getElem (by omega)⟩
    obtain ⟨z,hz1⟩ : ∃ y,b.clefs.l[i]? = some y:=⟨_,List.getElem?_eq_getElem (by omega)⟩
    have e2 : IntKind.i64.wrap ((i : Int) + 1) = ((i + 1 : Nat) : Int):=by rw [w64 (by omega) (by omega)]; omega
    by_cases c2 : y = z
    · subst c2
      simp -implicitDefEqProofs (maxDischargeDepth:=12) only [WW,List.replicate,e_splice,if_true,if_false,ite_true,ite_false,true_or,ne_eq,seval,h_putc,beq_self_eq_true,eq_self,exists_eq_left,exists_eq_left',hA,hB,c1,hy1,hz1,y.enc_eq,clef_eq,e2]
      exact ⟨k - 1,by omega,i + 1,by omega,rfl,rfl,take_step hy1 hz1 ht,ex_x rfl⟩
    · rw [decide_eq_false (fun k : a.cn = b.cn => list_ne hy1 hz1 c2 (Cell.cn_iff.1 k).1)] at hr; subst hr
      simp -implicitDefEqProofs (maxDischargeDepth:=12) only [WW,List.replicate,e_splice,if_true,if_false,ite_true,ite_false,true_or,ne_eq,seval,h_putc,beq_self_eq_true,eq_self,exists_eq_left,exists_eq_left',hA,hB,c1,hy1,hz1,y.enc_eq,z.enc_eq,clef_eq,c2]
      exact frz_sc
  have clefsE : a.clefs.l = b.clefs.l:=by rw [List.take_of_length_le (by omega),List.take_of_length_le (by omega)] at ht; exact ht
  simp -implicitDefEqProofs (maxDischargeDepth:=12) only [WW,List.replicate,e_splice,if_true,if_false,ite_true,ite_false,true_or,ne_eq,seval,h_putc,beq_self_eq_true,eq_self,exists_eq_left,exists_eq_left',hA,hB,c1]
  refine wp_loop (Inv:=fun k t H => ∃ (i : Nat),i + k = a.voices.l.length∧H.cells 0 = some a.enc.cells∧H.cells 1 = some b.enc.cells∧(a.voices.l.take i).map Voice.cn = (b.voices.l.take i).map Voice.cn ∧
    ∃ x : Nat→AV,t = [a.enc,b.enc,.ptr 0 0,.ptr 1 0,.sc (.bool false),x 5,.sc (.int .i64 i),x 7,x 8,x 9,x 10,x 11,x 12,x 13,x 14,x 15,x 16,x 17,x 18,x 19,x 20,x 21,x 22,x 23,x 24,x 25,x 26,x 27,x 28,x 29,x 30,x 31,x 32,x 33,x 34,x 35,x 36,x 37,x 38,x 39,x 40,x 41,x 42,x 43,x 44,x 45,x 46,x 47,x 48,x 49,x 50,x 51,x 52,x 53,x 54,x 55,x 56,x 57,x 58,x 59]) (k:=a.voices.l.length) ?_
    ⟨0,by omega,hA,hB,rfl,ex_x rfl⟩
  clear hA hB ht x c1 hk
  rintro k t H ⟨i,hk,hA,hB,ht,x,rfl⟩
  simp only [a.enc_eq,b.enc_eq,c_agg] at hA hB
  by_cases c1 : (i : Int) < (a.voices.l.length : Int)
  · obtain ⟨y,hy1⟩ : ∃ y,a.voices.l[i]? = some y:=⟨_,List.getElem?_eq_getElem (by omega)⟩
    obtain ⟨z,hz1⟩ : ∃ y,b.voices.l[i]? = some y:=⟨_,List.getElem?_eq_getElem (by omega)⟩
    have e2 : IntKind.i64.wrap ((i : Int) + 1) = ((i + 1 : Nat) : Int):=by rw [w64 (by omega) (by omega)]; omega
    simp -implicitDefEqProofs (maxDischargeDepth:=12) only [WW,List.replicate,e_splice,if_true,if_false,ite_true,ite_false,true_or,ne_eq,seval,h_putc,beq_self_eq_true,eq_self,exists_eq_left,exists_eq_left',hA,hB,c1,hy1,hz1,y.enc_eq,z.enc_eq]
    rw [← y.enc_eq,← z.enc_eq]
    refine wA_pure hp2 (sameVoice_pv hp y z (b3 y (List.mem_of_getElem? hy1))) ?_
    by_cases c3 : y.cn = z.cn
    · simp -implicitDefEqProofs (maxDischargeDepth:=12) only [WW,List.replicate,e_splice,if_true,if_false,ite_true,ite_false,true_or,ne_eq,seval,h_putc,beq_self_eq_true,eq_self,exists_eq_left,exists_eq_left',eq_true c3,e2]
      exact ⟨k - 1,by omega,i + 1,by omega,hA,hB,map_step hy1 hz1 c3 ht,ex_x rfl⟩
    · rw [decide_eq_false (fun k : a.cn = b.cn => map_ne hy1 hz1 c3 (Cell.cn_iff.1 k).2)] at hr; subst hr
      simp -implicitDefEqProofs (maxDischargeDepth:=12) only [WW,List.replicate,e_splice,if_true,if_false,ite_true,ite_false,true_or,ne_eq,seval,h_putc,beq_self_eq_true,eq_self,exists_eq_left,exists_eq_left',c3]
      exact frz_sc
  have voicesE : a.voices.l.map Voice.cn = b.voices.l.map Voice.cn:=by rw [List.take_of_length_le (by omega),List.take_of_length_le (by omega)] at ht; exact ht
  simp -implicitDefEqProofs (maxDischargeDepth:=12) only [WW,List.replicate,e_splice,if_true,if_false,ite_true,ite_false,true_or,ne_eq,seval,h_putc,beq_self_eq_true,eq_self,exists_eq_left,exists_eq_left',hA,hB,c1]
  rw [decide_eq_true (Cell.cn_iff.2 ⟨clefsE,voicesE⟩)] at hr; subst hr
  exact frz_sc
theorem sameMeasure_pv (hp : pol.pure 99 = true) (hp2 : pol.pure 50 = true) (hp3 : pol.pure 113 = true) (a b : Measure) (ha : a.tame) : Pv prog pol 68 [a.enc,b.enc] (.sc (.bool (decide (a.cn = b.cn)))):=by
  refine Pv_of' ok68 (by simp only [AV.closedBs,Measure.enc_closed,Bool.and_self]) ?_
  obtain ⟨b1,b2,b3⟩:=ha
  generalize hr : decide (a.cn = b.cn) = r
  simp -implicitDefEqProofs (maxDischargeDepth:=12) only [wpF,cf68,WW,List.replicate,e_splice,if_true,if_false,ite_true,ite_false,true_or,ne_eq,seval,h_putc,beq_self_eq_true,eq_self,exists_eq_left,exists_eq_left',a.enc_eq,b.enc_eq,bool_dec,id_eq,metre_eq,toList_eq]
  by_cases h1 : a.id = b.id
  rotate_left
  · rw [decide_eq_false (fun k : a.cn = b.cn => h1 ((congrArg Measure.id k : a.cn.id = b.cn.id)))] at hr; subst hr
    simp -implicitDefEqProofs (maxDischargeDepth:=12) only [WW,List.replicate,e_splice,if_true,if_false,ite_true,ite_false,true_or,ne_eq,seval,h_putc,beq_self_eq_true,eq_self,exists_eq_left,exists_eq_left',h1,bool_dec,id_eq,metre_eq,toList_eq]
    exact frz_sc
  simp -implicitDefEqProofs (maxDischargeDepth:=12) only [WW,List.replicate,e_splice,if_true,if_false,ite_true,ite_false,true_or,ne_eq,seval,h_putc,beq_self_eq_true,eq_self,exists_eq_left,exists_eq_left',eq_true h1,bool_dec,id_eq,metre_eq,toList_eq]
  by_cases h2 : a.metre = b.metre
  rotate_left
  · rw [decide_eq_false (fun k : a.cn = b.cn => h2 ((congrArg Measure.metre k : a.cn.metre = b.cn.metre)))] at hr; subst hr
    simp -implicitDefEqProofs (maxDischargeDepth:=12) only [WW,List.replicate,e_splice,if_true,if_false,ite_true,ite_false,true_or,ne_eq,seval,h_putc,beq_self_eq_true,eq_self,exists_eq_left,exists_eq_left',h2,bool_dec,id_eq,metre_eq,toList_eq]
    exact frz_sc
  simp -implicitDefEqProofs (maxDischargeDepth:=12) only [WW,List.replicate,e_splice,if_true,if_false,ite_true,ite_false,true_or,ne_eq,seval,h_putc,beq_self_eq_true,eq_self,exists_eq_left,exists_eq_left',eq_true h2,bool_dec,id_eq,metre_eq,toList_eq]
  by_cases h3 : a.length = b.length
  rotate_left
  · rw [decide_eq_false (fun k : a.cn = b.cn => h3 ((congrArg Measure.length k : a.cn.length = b.cn.length)))] at hr; subst hr
    simp -implicitDefEqProofs (maxDischargeDepth:=12) only [WW,List.replicate,e_splice,if_true,if_false,ite_true,ite_false,true_or,ne_eq,seval,h_putc,beq_self_eq_true,eq_self,exists_eq_left,exists_eq_left',h3,bool_dec,id_eq,metre_eq,toList_eq]
    exact frz_sc
  simp -implicitDefEqProofs (maxDischargeDepth:=12) only [WW,List.replicate,e_splice,if_true,if_false,ite_true,ite_false,true_or,ne_eq,seval,h_putc,beq_self_eq_true,eq_self,exists_eq_left,exists_eq_left',eq_true h3,bool_dec,id_eq,metre_eq,toList_eq]
  by_cases h4 : a.fifths = b.fifths
  rotate_left
  · rw [decide_eq_false (fun k : a.cn = b.cn => h4 ((congrArg Measure.fifths k : a.cn.fifths = b.cn.fifths)))] at hr; subst hr
    simp -implicitDefEqProofs (maxDischargeDepth:=12) only [WW,List.replicate,e_splice,if_true,if_false,ite_true,ite_false,true_or,ne_eq,seval,h_putc,beq_self_eq_true,eq_self,exists_eq_left,exists_eq_left',h4,bool_dec,id_eq,metre_eq,toList_eq]
    exact frz_sc
  simp -implicitDefEqProofs (maxDischargeDepth:=12) only [WW,List.replicate,e_splice,if_true,if_false,ite_true,ite_false,true_or,ne_eq,seval,h_putc,beq_self_eq_true,eq_self,exists_eq_left,exists_eq_left',eq_true h4,bool_dec,id_eq,metre_eq,toList_eq]
  by_cases h5 : a.rstart = b.rstart
  rotate_left
  · rw [decide_eq_false (fun k : a.cn = b.cn => h5 ((congrArg Measure.rstart k : a.cn.rstart = b.cn.rstart)))] at hr; subst hr
    simp -implicitDefEqProofs (maxDischargeDepth:=12) only [WW,List.replicate,e_splice,if_true,if_false,ite_true,ite_false,true_or,ne_eq,seval,h_putc,beq_self_eq_true,eq_self,exists_eq_left,exists_eq_left',h5,bool_dec,id_eq,metre_eq,toList_eq]
    exact frz_sc
  simp -implicitDefEqProofs (maxDischargeDepth:=12) only [WW,List.replicate,e_splice,if_true,if_false,ite_true,ite_false,true_or,ne_eq,seval,h_putc,beq_self_eq_true,eq_self,exists_eq_left,exists_eq_left',eq_true h5,bool_dec,id_eq,metre_eq,toList_eq]
  by_cases h6 : a.rend = b.rend
  rotate_left
  · rw [decide_eq_false (fun k : a.cn = b.cn => h6 ((congrArg Measure.rend k : a.cn.rend = b.cn.rend)))] at hr; subst hr
    simp -implicitDefEqProofs (maxDischargeDepth:=12) only [WW,List.replicate,e_splice,if_true,if_false,ite_true,ite_false,true_or,ne_eq,seval,h_putc,beq_self_eq_true,eq_self,exists_eq_left,exists_eq_left',h6,bool_dec,id_eq,metre_eq,toList_eq]
    exact frz_sc
  simp -implicitDefEqProofs (maxDischargeDepth:=12) only [WW,List.replicate,e_splice,if_true,if_false,ite_true,ite_false,true_or,ne_eq,seval,h_putc,beq_self_eq_true,eq_self,exists_eq_left,exists_eq_left',eq_true h6,bool_dec,id_eq,metre_eq,toList_eq]
  by_cases h7 : a.endings = b.endings
  rotate_left
  · rw [decide_eq_false (fun k : a.cn = b.cn => h7 ((congrArg Measure.endings k : a.cn.endings = b.cn.endings)))] at hr; subst hr
    simp -implicitDefEqProofs (maxDischargeDepth:=12) only [WW,List.replicate,e_splice,if_true,if_false,ite_true,ite_false,true_or,ne_eq,seval,h_putc,beq_self_eq_true,eq_self,exists_eq_left,exists_eq_left',h7,bool_dec,id_eq,metre_eq,toList_eq]
    exact frz_sc
  simp -implicitDefEqProofs (maxDischargeDepth:=12) only [WW,List.replicate,e_splice,if_true,if_false,ite_true,ite_false,true_or,ne_eq,seval,h_putc,beq_self_eq_true,eq_self,exists_eq_left,exists_eq_left',eq_true h7,bool_dec,id_eq,metre_eq,toList_eq]
  by_cases h8 : a.jump = b.jump
  rotate_left
  · rw [decide_eq_false (fun k : a.cn = b.cn => h8 ((congrArg Measure.jump k : a.cn.jump = b.cn.jump)))] at hr; subst hr
    simp -implicitDefEqProofs (maxDischargeDepth:=12) only [WW,List.replicate,e_splice,if_true,if_false,ite_true,ite_false,true_or,ne_eq,seval,h_putc,beq_self_eq_true,eq_self,exists_eq_left,exists_eq_left',h8,bool_dec,id_eq,metre_eq,toList_eq]
    exact frz_sc
  simp -implicitDefEqProofs (maxDischargeDepth:=12) only [WW,List.replicate,e_splice,if_true,if_false,ite_true,ite_false,true_or,ne_eq,seval,h_putc,beq_self_eq_true,eq_self,exists_eq_left,exists_eq_left',eq_true h8,bool_dec,id_eq,metre_eq,toList_eq]
  by_cases h9 : a.labels = b.labels
  rotate_left
  · rw [decide_eq_false (fun k : a.cn = b.cn => h9 ((congrArg Measure.labels k : a.cn.labels = b.cn.labels)))] at hr; subst hr
    simp -implicitDefEqProofs (maxDischargeDepth:=12) only [WW,List.replicate,e_splice,if_true,if_false,ite_true,ite_false,true_or,ne_eq,seval,h_putc,beq_self_eq_true,eq_self,exists_eq_left,exists_eq_left',h9,bool_dec,id_eq,metre_eq,toList_eq]
    exact frz_sc
  simp -implicitDefEqProofs (maxDischargeDepth:=12) only [WW,List.replicate,e_splice,if_true,if_false,ite_true,ite_false,true_or,ne_eq,seval,h_putc,beq_self_eq_true,eq_self,exists_eq_left,exists_eq_left',eq_true h9,bool_dec,id_eq,metre_eq,toList_eq]
  by_cases h10 : a.swing = b.swing
  rotate_left
  · rw [decide_eq_false (fun k : a.cn = b.cn => h10 ((congrArg Measure.swing k : a.cn.swing = b.cn.swing)))] at hr; subst hr
    simp -implicitDefEqProofs (maxDischargeDepth:=12) only [WW,List.replicate,e_splice,if_true,if_false,ite_true,ite_false,true_or,ne_eq,seval,h_putc,beq_self_eq_true,eq_self,exists_eq_left,exists_eq_left',h10,bool_dec,id_eq,metre_eq,toList_eq]
    exact frz_sc
  simp -implicitDefEqProofs (maxDischargeDepth:=12) only [WW,List.replicate,e_splice,if_true,if_false,ite_true,ite_false,true_or,ne_eq,seval,h_putc,beq_self_eq_true,eq_self,exists_eq_left,exists_eq_left',eq_true h10,bool_dec,id_eq,metre_eq,toList_eq]
  by_cases h11 : a.brk = b.brk
  rotate_left
  · rw [decide_eq_false (fun k : a.cn = b.cn => h11 ((congrArg Measure.brk k : a.cn.brk = b.cn.brk)))] at hr; subst hr
    simp -implicitDefEqProofs (maxDischargeDepth:=12) only [WW,List.replicate,e_splice,if_true,if_false,ite_true,ite_false,true_or,ne_eq,seval,h_putc,beq_self_eq_true,eq_self,exists_eq_left,exists_eq_left',h11,bool_dec,id_eq,metre_eq,toList_eq]
    exact frz_sc
  simp -implicitDefEqProofs (maxDischargeDepth:=12) only [WW,List.replicate,e_splice,if_true,if_false,ite_true,ite_false,true_or,ne_eq,seval,h_putc,beq_self_eq_true,eq_self,exists_eq_left,exists_eq_left',eq_true h11,bool_dec,id_eq,metre_eq,toList_eq]
  by_cases h12 : a.rehearsal = b.rehearsal
  rotate_left
  · rw [decide_eq_false (fun k : a.cn = b.cn => h12 ((congrArg Measure.rehearsal k : a.cn.rehearsal = b.cn.rehearsal)))] at hr; subst hr
    simp -implicitDefEqProofs (maxDischargeDepth:=12) only [WW,List.replicate,e_splice,if_true,if_false,ite_true,ite_false,true_or,ne_eq,seval,h_putc,beq_self_eq_true,eq_self,exists_eq_left,exists_eq_left',h12,bool_dec,id_eq,metre_eq,toList_eq]
    exact frz_sc
  simp -implicitDefEqProofs (maxDischargeDepth:=12) only [WW,List.replicate,e_splice,if_true,if_false,ite_true,ite_false,true_or,ne_eq,seval,h_putc,beq_self_eq_true,eq_self,exists_eq_left,exists_eq_left',eq_true h12,bool_dec,id_eq,metre_eq,toList_eq]
  by_cases h13 : (a.tempi.l.length : Int) = (b.tempi.l.length : Int)
  rotate_left
  · rw [decide_eq_false (fun k : a.cn = b.cn => h13 (by rw [Measure.cn_tempi k]))] at hr; subst hr
    simp -implicitDefEqProofs (maxDischargeDepth:=12) only [WW,List.replicate,e_splice,if_true,if_false,ite_true,ite_false,true_or,ne_eq,seval,h_putc,beq_self_eq_true,eq_self,exists_eq_left,exists_eq_left',h13,bool_dec,id_eq,metre_eq,toList_eq]
    exact frz_sc
  simp -implicitDefEqProofs (maxDischargeDepth:=12) only [WW,List.replicate,e_splice,if_true,if_false,ite_true,ite_false,true_or,ne_eq,seval,h_putc,beq_self_eq_true,eq_self,exists_eq_left,exists_eq_left',eq_true h13,bool_dec,id_eq,metre_eq,toList_eq]
  by_cases h14 : (a.cells.l.length : Int) = (b.cells.l.length : Int)
  rotate_left
  · rw [decide_eq_false (fun k : a.cn = b.cn => h14 (len_of_map (Measure.cn_cells k)))] at hr; subst hr
    simp -implicitDefEqProofs (maxDischargeDepth:=12) only [WW,List.replicate,e_splice,if_true,if_false,ite_true,ite_false,true_or,ne_eq,seval,h_putc,beq_self_eq_true,eq_self,exists_eq_left,exists_eq_left',h14,bool_dec,id_eq,metre_eq,toList_eq]
    exact frz_sc
  simp -implicitDefEqProofs (maxDischargeDepth:=12) only [WW,List.replicate,e_splice,if_true,if_false,ite_true,ite_false,true_or,ne_eq,seval,h_putc,beq_self_eq_true,eq_self,exists_eq_left,exists_eq_left',eq_true h14,bool_dec,id_eq,metre_eq,toList_eq]
  refine wp_loop (Inv:=fun k t H => ∃ (i : Nat),i + k = a.tempi.l.length∧H.cells 0 = some a.enc.cells∧H.cells 1 = some b.enc.cells∧a.tempi.l.take i = b.tempi.l.take i ∧
    ∃ x : Nat→AV,t = [a.enc,b.enc,.ptr 0 0,.ptr 1 0,.sc (.bool false),.sc (.int .i64 i),x 6,x 7,x 8,x 9,x 10,x 11,x 12,x 13,x 14,x 15,x 16,x 17,x 18,x 19,x 20,x 21,x 22,x 23,x 24,x 25,x 26,x 27,x 28,x 29,x 30,x 31,x 32,x 33,x 34,x 35,x 36,x 37,x 38,x 39,x 40,x 41,x 42,x 43,x 44,x 45,x 46,x 47,x 48,x 49,x 50,x 51,x 52,x 53,x 54,x 55,x 56,x 57,x 58,x 59,x 60,x 61,x 62,x 63,x 64,x 65,x 66,x 67,x 68,x 69,x 70,x 71,x 72,x 73,x 74,x 75,x 76,x 77,x 78,x 79,x 80,x 81,x 82,x 83,x 84,x 85,x 86,x 87,x 88,x 89,x 90,x 91,x 92,x 93,x 94,x 95,x 96,x 97,x 98,x 99,x 100,x 101,x 102,x 103,x 104,x 105,x 106,x 107,x 108,x 109,x 110,x 111,x 112,x 113,x 114,x 115,x 116,x 117,x 118,x 119,x 120,x 121,x 122,x 123,x 124,x 125,x 126,x 127,x 128,x 129,x 130,x 131,x 132,x 133,x 134,x 135,x 136,x 137,x 138,x 139,x 140,x 141,x 142,x 143]) (k:=a.tempi.l.length) ?_
    ⟨0,by omega,?_,?_,rfl,ex_x rfl⟩
  rotate_left
  · simp -implicitDefEqProofs (maxDischargeDepth:=12) only [WW,List.replicate,e_splice,if_true,if_false,ite_true,ite_false,true_or,ne_eq,seval,h_putc,beq_self_eq_true,eq_self,exists_eq_left,exists_eq_left']; rfl
  · simp -implicitDefEqProofs (maxDischargeDepth:=12) only [WW,List.replicate,e_splice,if_true,if_false,ite_true,ite_false,true_or,ne_eq,seval,h_putc,beq_self_eq_true,eq_self,exists_eq_left,exists_eq_left']; rfl
  rintro k t H ⟨i,hk,hA,hB,ht,x,rfl⟩
  simp only [a.enc_eq,b.enc_eq,c_agg] at hA hB
  by_cases c1 : (i : Int) < (a.tempi.l.length : Int)
  · obtain ⟨y,hy1⟩ : ∃ y,a.tempi.l[i]? = some y:=⟨_,List.getElem?_eq_getElem (by omega)⟩
    obtain ⟨z,hz1⟩ : ∃ y,b.tempi.l[i]? = some y:=⟨_,List.getElem?_eq_getElem (by omega)⟩
    have e2 : IntKind.i64.wrap ((i : Int) + 1) = ((i + 1 : Nat) : Int):=by rw [w64 (by omega) (by omega)]; omega
    by_cases c2 : y = z
    · subst c2
      simp -implicitDefEqProofs (maxDischargeDepth:=12) only [WW,List.replicate,e_splice,if_true,if_false,ite_true,ite_false,true_or,ne_eq,seval,h_putc,beq_self_eq_true,eq_self,exists_eq_left,exists_eq_left',hA,hB,c1,hy1,hz1,y.enc_eq,tempo_eq,e2]
      exact ⟨k - 1,by omega,i + 1,by omega,rfl,rfl,take_step hy1 hz1 ht,ex_x rfl⟩
    · rw [decide_eq_false (fun k : a.cn = b.cn => list_ne hy1 hz1 c2 (Measure.cn_tempi k))] at hr; subst hr
      simp -implicitDefEqProofs (maxDischargeDepth:=12) only [WW,List.replicate,e_splice,if_true,if_false,ite_true,ite_false,true_or,ne_eq,seval,h_putc,beq_self_eq_true,eq_self,exists_eq_left,exists_eq_left',hA,hB,c1,hy1,hz1,y.enc_eq,z.enc_eq,tempo_eq,c2]
      exact frz_sc
  have tempiE : a.tempi.l = b.tempi.l:=by rw [List.take_of_length_le (by omega),List.take_of_length_le (by omega)] at ht; exact ht
  simp -implicitDefEqProofs (maxDischargeDepth:=12) only [WW,List.replicate,e_splice,if_true,if_false,ite_true,ite_false,true_or,ne_eq,seval,h_putc,beq_self_eq_true,eq_self,exists_eq_left,exists_eq_left',hA,hB,c1]
  refine wp_loop (Inv:=fun k t H => ∃ (i : Nat),i + k = a.cells.l.length∧H.cells 0 = some a.enc.cells∧H.cells 1 = some b.enc.cells∧(a.cells.l.take i).map Cell.cn = (b.cells.l.take i).map Cell.cn ∧
    ∃ x : Nat→AV,t = [a.enc,b.enc,.ptr 0 0,.ptr 1 0,.sc (.bool false),x 5,.sc (.int .i64 i),x 7,x 8,x 9,x 10,x 11,x 12,x 13,x 14,x 15,x 16,x 17,x 18,x 19,x 20,x 21,x 22,x 23,x 24,x 25,x 26,x 27,x 28,x 29,x 30,x 31,x 32,x 33,x 34,x 35,x 36,x 37,x 38,x 39,x 40,x 41,x 42,x 43,x 44,x 45,x 46,x 47,x 48,x 49,x 50,x 51,x 52,x 53,x 54,x 55,x 56,x 57,x 58,x 59,x 60,x 61,x 62,x 63,x 64,x 65,x 66,x 67,x 68,x 69,x 70,x 71,x 72,x 73,x 74,x 75,x 76,x 77,x 78,x 79,x 80,x 81,x 82,x 83,x 84,x 85,x 86,x 87,x 88,x 89,x 90,x 91,x 92,x 93,x 94,x 95,x 96,x 97,x 98,x 99,x 100,x 101,x 102,x 103,x 104,x 105,x 106,x 107,x 108,x 109,x 110,x 111,x 112,x 113,x 114,x 115,x 116,x 117,x 118,x 119,x 120,x 121,x 122,x 123,x 124,x 125,x 126,x 127,x 128,x 129,x 130,x 131,x 132,x 133,x 134,x 135,x 136,x 137,x 138,x 139,x 140,x 141,x 142,x 143]) (k:=a.cells.l.length) ?_
    ⟨0,by omega,hA,hB,rfl,ex_x rfl⟩
  clear hA hB ht x c1 hk
  rintro k t H ⟨i,hk,hA,hB,ht,x,rfl⟩
  simp only [a.enc_eq,b.enc_eq,c_agg] at hA hB
  by_cases c1 : (i : Int) < (a.cells.l.length : Int)
  · obtain ⟨y,hy1⟩ : ∃ y,a.cells.l[i]? = some y:=⟨_,List.getElem?_eq_getElem (by omega)⟩
    obtain ⟨z,hz1⟩ : ∃ y,b.cells.l[i]? = some y:=⟨_,List.getElem?_eq_getElem (by omega)⟩
    have e2 : IntKind.i64.wrap ((i : Int) + 1) = ((i + 1 : Nat) : Int):=by rw [w64 (by omega) (by omega)]; omega
    simp -implicitDefEqProofs (maxDischargeDepth:=12) only [WW,List.replicate,e_splice,if_true,if_false,ite_true,ite_false,true_or,ne_eq,seval,h_putc,beq_self_eq_true,eq_self,exists_eq_left,exists_eq_left',hA,hB,c1,hy1,hz1,y.enc_eq,z.enc_eq]
    rw [← y.enc_eq,← z.enc_eq]
    refine wA_pure hp3 (sameCell_pv hp hp2 y z (b3 y (List.mem_of_getElem? hy1))) ?_
    by_cases c3 : y.cn = z.cn
    · simp -implicitDefEqProofs (maxDischargeDepth:=12) only [WW,List.replicate,e_splice,if_true,if_false,ite_true,ite_false,true_or,ne_eq,seval,h_putc,beq_self_eq_true,eq_self,exists_eq_left,exists_eq_left',eq_true c3,e2]
      exact ⟨k - 1,by omega,i + 1,by omega,hA,hB,map_step hy1 hz1 c3 ht,ex_x rfl⟩
    · rw [decide_eq_false (fun k : a.cn = b.cn => map_ne hy1 hz1 c3 (Measure.cn_cells k))] at hr; subst hr
      simp -implicitDefEqProofs (maxDischargeDepth:=12) only [WW,List.replicate,e_splice,if_true,if_false,ite_true,ite_false,true_or,ne_eq,seval,h_putc,beq_self_eq_true,eq_self,exists_eq_left,exists_eq_left',c3]
      exact frz_sc
  have cellsE : a.cells.l.map Cell.cn = b.cells.l.map Cell.cn:=by rw [List.take_of_length_le (by omega),List.take_of_length_le (by omega)] at ht; exact ht
  simp -implicitDefEqProofs (maxDischargeDepth:=12) only [WW,List.replicate,e_splice,if_true,if_false,ite_true,ite_false,true_or,ne_eq,seval,h_putc,beq_self_eq_true,eq_self,exists_eq_left,exists_eq_left',hA,hB,c1]
  rw [decide_eq_true (Measure.cn_mk h1 h2 h3 h4 h5 h6 h7 h8 h9 h10 h11 h12 tempiE cellsE)] at hr; subst hr
  exact frz_sc
end Go.Hem
namespace Go.Hem
variable {pol : Pol}
def Part.cn (p : Part) : Part:={ p with staves:=Sl.of p.staves.l }
def Score.cn (s : Score) : Score:={ s with parts:=Sl.of (s.parts.l.map Part.cn),measures:=Sl.of (s.measures.l.map Measure.cn),spanners:=Sl.of s.spanners.l,last:=Sl.of s.last.l }
def Part.tame (p : Part) : Prop:=p.staves.l.length < 1000000
structure Score.tame (s : Score) : Prop where
  parts : s.parts.l.length < 1000000
  part : ∀ p ∈ s.parts.l,p.tame
  measures : s.measures.l.length < 1000000
  measure : ∀ m ∈ s.measures.l,m.tame
  spanners : s.spanners.l.length < 1000000
  last : s.last.l.length < 1000000
theorem staff_eq {a b : Staff} : (decide (a.id.site = b.id.site) && (decide (a.id.number = b.id.number) && decide (a.clef = b.clef))) = decide (a = b):=by
  obtain ⟨⟨a1,a2⟩,a3⟩:=a
  obtain ⟨⟨b1,b2⟩,b3⟩:=b
  simp only [Staff.mk.injEq,ID.mk.injEq,Bool.decide_and,Bool.and_assoc]
theorem interval_eq {a b : Interval} : (decide (a.steps = b.steps) && decide (a.semitones = b.semitones)) = decide (a = b):=by
  cases a; cases b; simp only [Interval.mk.injEq,Bool.decide_and]
theorem spanner_eq {a b : Spanner} : (decide (a.id.site = b.id.site) && (decide (a.id.number = b.id.number) && (decide (a.kind = b.kind) && (decide (a.from_.site = b.from_.site) && (decide (a.from_.number = b.from_.number) && (decide (a.to.site = b.to.site) && decide (a.to.number = b.to.number))))))) = decide (a = b):=by
  obtain ⟨⟨a1,a2⟩,a3,⟨a4,a5⟩,⟨a6,a7⟩⟩:=a
  obtain ⟨⟨b1,b2⟩,b3,⟨b4,b5⟩,⟨b6,b7⟩⟩:=b
  simp only [Spanner.mk.injEq,ID.mk.injEq,Bool.decide_and,Bool.and_assoc]
theorem Part.cn_staves {a b : Part} (k : a.cn = b.cn) : a.staves.l = b.staves.l:=by
  have:=congrArg (fun m : Part => m.staves.l) k
  simpa only [Part.cn,l_of] using this
theorem Part.cn_mk {a b : Part} (h1 : a.id = b.id) (h2 : a.name = b.name) (h3 : a.transpose = b.transpose) (h4 : a.staves.l = b.staves.l) : a.cn = b.cn:=by
  unfold Part.cn; rw [h1,h2,h3,h4]
theorem Score.cn_parts {a b : Score} (k : a.cn = b.cn) : a.parts.l.map Part.cn = b.parts.l.map Part.cn:=by
  have:=congrArg (fun m : Score => m.parts.l) k
  simpa only [Score.cn,l_of] using this
theorem Score.cn_measures {a b : Score} (k : a.cn = b.cn) : a.measures.l.map Measure.cn = b.measures.l.map Measure.cn:=by
  have:=congrArg (fun m : Score => m.measures.l) k
  simpa only [Score.cn,l_of] using this
theorem Score.cn_spanners {a b : Score} (k : a.cn = b.cn) : a.spanners.l = b.spanners.l:=by
  have:=congrArg (fun m : Score => m.spanners.l) k
  simpa only [Score.cn,l_of] using this
theorem Score.cn_last {a b : Score} (k : a.cn = b.cn) : a.last.l = b.last.l:=by
  have:=congrArg (fun m : Score => m.last.l) k
  simpa only [Score.cn,l_of] using this
theorem Score.cn_mk {a b : Score} (h1 : a.title = b.title) (h2 : a.written = b.written) (h3 : a.parts.l.map Part.cn = b.parts.l.map Part.cn) (h4 : a.measures.l.map Measure.cn = b.measures.l.map Measure.cn) (h5 : a.spanners.l = b.spanners.l) (h6 : a.last.l = b.last.l) : a.cn = b.cn:=by
  unfold Score.cn; rw [h1,h2,h3,h4,h5,h6]
theorem same_pv (hp : pol.pure 99 = true) (hp2 : pol.pure 50 = true) (hp3 : pol.pure 113 = true) (hp4 : pol.pure 68 = true) (a b : Score) (ha : a.tame) : Pv prog pol 28 [a.enc,b.enc] (.sc (.bool (decide (a.cn = b.cn)))):=by
  refine Pv_of' ok28 (by simp only [AV.closedBs,Score.enc_closed,Bool.and_self]) ?_
  obtain ⟨b1,b2,b3,b4,b5,b6⟩:=ha
  generalize hr : decide (a.cn = b.cn) = r
  simp -implicitDefEqProofs (maxDischargeDepth:=12) only [wpF,cf28,WW,List.replicate,e_splice,if_true,if_false,ite_true,ite_false,true_or,ne_eq,seval,h_putc,beq_self_eq_true,eq_self,exists_eq_left,exists_eq_left',a.enc_eq,b.enc_eq,bool_dec,id_eq,metre_eq,toList_eq]
  by_cases h1 : a.title = b.title
  rotate_left
  · rw [decide_eq_false (fun k : a.cn = b.cn => h1 ((congrArg Score.title k : a.cn.title = b.cn.title)))] at hr; subst hr
    simp -implicitDefEqProofs (maxDischargeDepth:=12) only [WW,List.replicate,e_splice,if_true,if_false,ite_true,ite_false,true_or,ne_eq,seval,h_putc,beq_self_eq_true,eq_self,exists_eq_left,exists_eq_left',h1,bool_dec,id_eq,metre_eq,toList_eq]
    exact frz_sc
  simp -implicitDefEqProofs (maxDischargeDepth:=12) only [WW,List.replicate,e_splice,if_true,if_false,ite_true,ite_false,true_or,ne_eq,seval,h_putc,beq_self_eq_true,eq_self,exists_eq_left,exists_eq_left',eq_true h1,bool_dec,id_eq,metre_eq,toList_eq]
  by_cases h2 : a.written = b.written
  rotate_left
  · rw [decide_eq_false (fun k : a.cn = b.cn => h2 ((congrArg Score.written k : a.cn.written = b.cn.written)))] at hr; subst hr
    simp -implicitDefEqProofs (maxDischargeDepth:=12) only [WW,List.replicate,e_splice,if_true,if_false,ite_true,ite_false,true_or,ne_eq,seval,h_putc,beq_self_eq_true,eq_self,exists_eq_left,exists_eq_left',h2,bool_dec,id_eq,metre_eq,toList_eq]
    exact frz_sc
  simp -implicitDefEqProofs (maxDischargeDepth:=12) only [WW,List.replicate,e_splice,if_true,if_false,ite_true,ite_false,true_or,ne_eq,seval,h_putc,beq_self_eq_true,eq_self,exists_eq_left,exists_eq_left',eq_true h2,bool_dec,id_eq,metre_eq,toList_eq]
  by_cases h3 : (a.parts.l.length : Int) = (b.parts.l.length : Int)
  rotate_left
  · rw [decide_eq_false (fun k : a.cn = b.cn => h3 (len_of_map (Score.cn_parts k)))] at hr; subst hr
    simp -implicitDefEqProofs (maxDischargeDepth:=12) only [WW,List.replicate,e_splice,if_true,if_false,ite_true,ite_false,true_or,ne_eq,seval,h_putc,beq_self_eq_true,eq_self,exists_eq_left,exists_eq_left',h3,bool_dec,id_eq,metre_eq,toList_eq]
    exact frz_sc
  simp -implicitDefEqProofs (maxDischargeDepth:=12) only [WW,List.replicate,e_splice,if_true,if_false,ite_true,ite_false,true_or,ne_eq,seval,h_putc,beq_self_eq_true,eq_self,exists_eq_left,exists_eq_left',eq_true h3,bool_dec,id_eq,metre_eq,toList_eq]
  by_cases h4 : (a.measures.l.length : Int) = (b.measures.l.length : Int)
  rotate_left
  · rw [decide_eq_false (fun k : a.cn = b.cn => h4 (len_of_map (Score.cn_measures k)))] at hr; subst hr
    simp -implicitDefEqProofs (maxDischargeDepth:=12) only [WW,List.replicate,e_splice,if_true,if_false,ite_true,ite_false,true_or,ne_eq,seval,h_putc,beq_self_eq_true,eq_self,exists_eq_left,exists_eq_left',h4,bool_dec,id_eq,metre_eq,toList_eq]
    exact frz_sc
  simp -implicitDefEqProofs (maxDischargeDepth:=12) only [WW,List.replicate,e_splice,if_true,if_false,ite_true,ite_false,true_or,ne_eq,seval,h_putc,beq_self_eq_true,eq_self,exists_eq_left,exists_eq_left',eq_true h4,bool_dec,id_eq,metre_eq,toList_eq]
  by_cases h5 : (a.spanners.l.length : Int) = (b.spanners.l.length : Int)
  rotate_left
  · rw [decide_eq_false (fun k : a.cn = b.cn => h5 (by rw [Score.cn_spanners k]))] at hr; subst hr
    simp -implicitDefEqProofs (maxDischargeDepth:=12) only [WW,List.replicate,e_splice,if_true,if_false,ite_true,ite_false,true_or,ne_eq,seval,h_putc,beq_self_eq_true,eq_self,exists_eq_left,exists_eq_left',h5,bool_dec,id_eq,metre_eq,toList_eq]
    exact frz_sc
  simp -implicitDefEqProofs (maxDischargeDepth:=12) only [WW,List.replicate,e_splice,if_true,if_false,ite_true,ite_false,true_or,ne_eq,seval,h_putc,beq_self_eq_true,eq_self,exists_eq_left,exists_eq_left',eq_true h5,bool_dec,id_eq,metre_eq,toList_eq]
  by_cases h6 : (a.last.l.length : Int) = (b.last.l.length : Int)
  rotate_left
  · rw [decide_eq_false (fun k : a.cn = b.cn => h6 (by rw [Score.cn_last k]))] at hr; subst hr
    simp -implicitDefEqProofs (maxDischargeDepth:=12) only [WW,List.replicate,e_splice,if_true,if_false,ite_true,ite_false,true_or,ne_eq,seval,h_putc,beq_self_eq_true,eq_self,exists_eq_left,exists_eq_left',h6,bool_dec,id_eq,metre_eq,toList_eq]
    exact frz_sc
  simp -implicitDefEqProofs (maxDischargeDepth:=12) only [WW,List.replicate,e_splice,if_true,if_false,ite_true,ite_false,true_or,ne_eq,seval,h_putc,beq_self_eq_true,eq_self,exists_eq_left,exists_eq_left',eq_true h6,bool_dec,id_eq,metre_eq,toList_eq]
  refine wp_loop (Inv:=fun k t H => ∃ (i : Nat),i + k = a.parts.l.length∧H.cells 0 = some a.enc.cells∧H.cells 1 = some b.enc.cells∧(a.parts.l.take i).map Part.cn = (b.parts.l.take i).map Part.cn ∧
    ∃ x : Nat→AV,t = [a.enc,b.enc,.ptr 0 0,.ptr 1 0,.sc (.bool false),.sc (.int .i64 i),x 6,x 7,x 8,x 9,x 10,x 11,x 12,x 13,x 14,x 15,x 16,x 17,x 18,x 19,x 20,x 21,x 22,x 23,x 24,x 25,x 26,x 27,x 28,x 29,x 30,x 31,x 32,x 33,x 34,x 35,x 36,x 37,x 38,x 39,x 40,x 41,x 42,x 43,x 44,x 45,x 46,x 47,x 48,x 49,x 50,x 51,x 52,x 53,x 54,x 55,x 56,x 57,x 58,x 59,x 60,x 61,x 62,x 63,x 64,x 65,x 66,x 67,x 68,x 69,x 70,x 71,x 72,x 73,x 74,x 75,x 76,x 77,x 78,x 79,x 80,x 81,x 82,x 83,x 84,x 85,x 86,x 87,x 88,x 89,x 90,x 91,x 92,x 93,x 94,x 95,x 96,x 97,x 98,x 99,x 100,x 101,x 102,x 103,x 104,x 105,x 106,x 107,x 108,x 109,x 110,x 111,x 112,x 113,x 114,x 115,x 116,x 117,x 118,x 119,x 120,x 121,x 122,x 123,x 124,x 125,x 126,x 127,x 128,x 129,x 130,x 131,x 132,x 133,x 134,x 135,x 136,x 137,x 138,x 139,x 140,x 141,x 142,x 143,x 144,x 145,x 146,x 147,x 148,x 149,x 150,x 151,x 152,x 153,x 154,x 155,x 156,x 157,x 158,x 159,x 160,x 161,x 162,x 163,x 164,x 165,x 166,x 167,x 168,x 169,x 170,x 171,x 172,x 173,x 174,x 175,x 176,x 177]) (k:=a.parts.l.length) ?_
    ⟨0,by omega,?_,?_,rfl,ex_x rfl⟩
  rotate_left
  · simp -implicitDefEqProofs (maxDischargeDepth:=12) only [WW,List.replicate,e_splice,if_true,if_false,ite_true,ite_false,true_or,ne_eq,seval,h_putc,beq_self_eq_true,eq_self,exists_eq_left,exists_eq_left']; rfl
  · simp -implicitDefEqProofs (maxDischargeDepth:=12) only [WW,List.replicate,e_splice,if_true,if_false,ite_true,ite_false,true_or,ne_eq,seval,h_putc,beq_self_eq_true,eq_self,exists_eq_left,exists_eq_left']; rfl
  rintro k t H ⟨i,hk,hA,hB,ht,x,rfl⟩
  have g0:=h_lt hA
  have g1:=h_lt hB
  simp only [a.enc_eq,b.enc_eq,c_agg] at hA hB
  by_cases c1 : (i : Int) < (a.parts.l.length : Int)
  · obtain ⟨y,hy1⟩ : ∃ y,a.parts.l[i]? = some y:=⟨_,List.getElem?_eq_getElem (by omega)⟩
    obtain ⟨z,hz1⟩ : ∃ y,b.parts.l[i]? = some y:=⟨_,List.getElem?_eq_getElem (by omega)⟩
    have e2 : IntKind.i64.wrap ((i : Int) + 1) = ((i + 1 : Nat) : Int):=by rw [w64 (by omega) (by omega)]; omega
    have hty:=b2 y (List.mem_of_getElem? hy1)
    have f0 : ¬ 0 = H.next:=by omega
    have f1 : ¬ 1 = H.next:=by omega
    have f2 : ¬ 0 = H.next + 1:=by omega
    have f3 : ¬ 1 = H.next + 1:=by omega
    have f4 : ¬ H.next = H.next + 1:=by omega
    have f5 : ¬ H.next = 0:=by omega
    have f6 : ¬ H.next = 1:=by omega
    simp -implicitDefEqProofs (maxDischargeDepth:=12) only [WW,List.replicate,e_splice,if_true,if_false,ite_true,ite_false,true_or,ne_eq,seval,h_putc,beq_self_eq_true,eq_self,exists_eq_left,exists_eq_left',hA,hB,c1,hy1,hz1,y.enc_eq,z.enc_eq,id_eq,interval_eq,toList_eq,f0,f1,f2,f3,f4,f5,f6]
    by_cases d0 : y.id = z.id
    rotate_left
    · rw [decide_eq_false (fun k => map_ne hy1 hz1 (fun e => d0 ((congrArg Part.id e : y.cn.id = z.cn.id))) (Score.cn_parts k))] at hr; subst hr
      simp -implicitDefEqProofs (maxDischargeDepth:=12) only [WW,List.replicate,e_splice,if_true,if_false,ite_true,ite_false,true_or,ne_eq,seval,h_putc,beq_self_eq_true,eq_self,exists_eq_left,exists_eq_left',d0,id_eq,interval_eq,toList_eq]
      exact frz_sc
    simp -implicitDefEqProofs (maxDischargeDepth:=12) only [WW,List.replicate,e_splice,if_true,if_false,ite_true,ite_false,true_or,ne_eq,seval,h_putc,beq_self_eq_true,eq_self,exists_eq_left,exists_eq_left',eq_true d0,id_eq,interval_eq,toList_eq,f0,f1,f2,f3,f4,f5,f6,hA,hB]
    by_cases d1 : y.name = z.name
    rotate_left
    · rw [decide_eq_false (fun k => map_ne hy1 hz1 (fun e => d1 ((congrArg Part.name e : y.cn.name = z.cn.name))) (Score.cn_parts k))] at hr; subst hr
      simp -implicitDefEqProofs (maxDischargeDepth:=12) only [WW,List.replicate,e_splice,if_true,if_false,ite_true,ite_false,true_or,ne_eq,seval,h_putc,beq_self_eq_true,eq_self,exists_eq_left,exists_eq_left',d1,id_eq,interval_eq,toList_eq]
      exact frz_sc
    simp -implicitDefEqProofs (maxDischargeDepth:=12) only [WW,List.replicate,e_splice,if_true,if_false,ite_true,ite_false,true_or,ne_eq,seval,h_putc,beq_self_eq_true,eq_self,exists_eq_left,exists_eq_left',eq_true d1,id_eq,interval_eq,toList_eq,f0,f1,f2,f3,f4,f5,f6,hA,hB]
    by_cases d2 : y.transpose = z.transpose
    rotate_left
    · rw [decide_eq_false (fun k => map_ne hy1 hz1 (fun e => d2 ((congrArg Part.transpose e : y.cn.transpose = z.cn.transpose))) (Score.cn_parts k))] at hr; subst hr
      simp -implicitDefEqProofs (maxDischargeDepth:=12) only [WW,List.replicate,e_splice,if_true,if_false,ite_true,ite_false,true_or,ne_eq,seval,h_putc,beq_self_eq_true,eq_self,exists_eq_left,exists_eq_left',d2,id_eq,interval_eq,toList_eq]
      exact frz_sc
    simp -implicitDefEqProofs (maxDischargeDepth:=12) only [WW,List.replicate,e_splice,if_true,if_false,ite_true,ite_false,true_or,ne_eq,seval,h_putc,beq_self_eq_true,eq_self,exists_eq_left,exists_eq_left',eq_true d2,id_eq,interval_eq,toList_eq,f0,f1,f2,f3,f4,f5,f6,hA,hB]
    by_cases d3 : (y.staves.l.length : Int) = (z.staves.l.length : Int)
    rotate_left
    · rw [decide_eq_false (fun k => map_ne hy1 hz1 (fun e => d3 (by rw [Part.cn_staves e])) (Score.cn_parts k))] at hr; subst hr
      simp -implicitDefEqProofs (maxDischargeDepth:=12) only [WW,List.replicate,e_splice,if_true,if_false,ite_true,ite_false,true_or,ne_eq,seval,h_putc,beq_self_eq_true,eq_self,exists_eq_left,exists_eq_left',d3,id_eq,interval_eq,toList_eq]
      exact frz_sc
    simp -implicitDefEqProofs (maxDischargeDepth:=12) only [WW,List.replicate,e_splice,if_true,if_false,ite_true,ite_false,true_or,ne_eq,seval,h_putc,beq_self_eq_true,eq_self,exists_eq_left,exists_eq_left',eq_true d3,id_eq,interval_eq,toList_eq,f0,f1,f2,f3,f4,f5,f6,hA,hB]
    generalize hq : H.next = q at *
    refine wp_loop (Inv:=fun k' t H' => ∃ (j : Nat),j + k' = y.staves.l.length∧H'.cells 0 = some a.enc.cells∧H'.cells 1 = some b.enc.cells∧H'.cells q = some y.enc.cells∧H'.cells (q + 1) = some z.enc.cells∧y.staves.l.take j = z.staves.l.take j ∧
      ∃ x : Nat→AV,t = [a.enc,b.enc,.ptr 0 0,.ptr 1 0,.sc (.bool false),.sc (.int .i64 i),.ptr q 0,.ptr (q + 1) 0,.sc (.int .i64 j),x 9,x 10,x 11,x 12,x 13,x 14,x 15,x 16,x 17,x 18,x 19,x 20,x 21,x 22,x 23,x 24,x 25,x 26,x 27,x 28,x 29,x 30,x 31,x 32,x 33,x 34,x 35,x 36,x 37,x 38,x 39,x 40,x 41,x 42,x 43,x 44,x 45,x 46,x 47,x 48,x 49,x 50,x 51,x 52,x 53,x 54,x 55,x 56,x 57,x 58,x 59,x 60,x 61,x 62,x 63,x 64,x 65,x 66,x 67,x 68,x 69,x 70,x 71,x 72,x 73,x 74,x 75,x 76,x 77,x 78,x 79,x 80,x 81,x 82,x 83,x 84,x 85,x 86,x 87,x 88,x 89,x 90,x 91,x 92,x 93,x 94,x 95,x 96,x 97,x 98,x 99,x 100,x 101,x 102,x 103,x 104,x 105,x 106,x 107,x 108,x 109,x 110,x 111,x 112,x 113,x 114,x 115,x 116,x 117,x 118,x 119,x 120,x 121,x 122,x 123,x 124,x 125,x 126,x 127,x 128,x 129,x 130,x 131,x 132,x 133,x 134,x 135,x 136,x 137,x 138,x 139,x 140,x 141,x 142,x 143,x 144,x 145,x 146,x 147,x 148,x 149,x 150,x 151,x 152,x 153,x 154,x 155,x 156,x 157,x 158,x 159,x 160,x 161,x 162,x 163,x 164,x 165,x 166,x 167,x 168,x 169,x 170,x 171,x 172,x 173,x 174,x 175,x 176,x 177]) (k:=y.staves.l.length) ?_
      ⟨0,by omega,?_,?_,?_,?_,rfl,ex_x rfl⟩
    rotate_left
    · simp -implicitDefEqProofs (maxDischargeDepth:=12) only [WW,List.replicate,e_splice,if_true,if_false,ite_true,ite_false,true_or,ne_eq,seval,h_putc,beq_self_eq_true,eq_self,exists_eq_left,exists_eq_left',hA,hB,f0,f1,f2,f3,f4,f5,f6,hq]; rfl
    · simp -implicitDefEqProofs (maxDischargeDepth:=12) only [WW,List.replicate,e_splice,if_true,if_false,ite_true,ite_false,true_or,ne_eq,seval,h_putc,beq_self_eq_true,eq_self,exists_eq_left,exists_eq_left',hA,hB,f0,f1,f2,f3,f4,f5,f6,hq]; rfl
    · simp -implicitDefEqProofs (maxDischargeDepth:=12) only [WW,List.replicate,e_splice,if_true,if_false,ite_true,ite_false,true_or,ne_eq,seval,h_putc,beq_self_eq_true,eq_self,exists_eq_left,exists_eq_left',hA,hB,f0,f1,f2,f3,f4,f5,f6,hq]; rfl
    · simp -implicitDefEqProofs (maxDischargeDepth:=12) only [WW,List.replicate,e_splice,if_true,if_false,ite_true,ite_false,true_or,ne_eq,seval,h_putc,beq_self_eq_true,eq_self,exists_eq_left,exists_eq_left',hA,hB,f0,f1,f2,f3,f4,f5,f6,hq]; rfl
    clear hA hB x
    rintro k' t H' ⟨j,hk',hA,hB,hY,hZ,hj,x,rfl⟩
    simp only [a.enc_eq,b.enc_eq,y.enc_eq,z.enc_eq,c_agg] at hA hB hY hZ
    by_cases c2 : (j : Int) < (y.staves.l.length : Int)
    · obtain ⟨u,hu⟩ : ∃ u,y.staves.l[j]? = some u:=⟨_,List.getElem?_eq_getElem (by omega)⟩
      obtain ⟨w,hw⟩ : ∃ w,z.staves.l[j]? = some w:=⟨_,List.getElem?_eq_getElem (by omega)⟩
      have e3 : IntKind.i64.wrap ((j : Int) + 1) = ((j + 1 : Nat) : Int):=by
        have : y.staves.l.length < 1000000:=hty
        rw [w64 (by omega) (by omega)]; omega
      by_cases c3 : u = w
      · subst c3
        simp -implicitDefEqProofs (maxDischargeDepth:=12) only [WW,List.replicate,e_splice,if_true,if_false,ite_true,ite_false,true_or,ne_eq,seval,h_putc,beq_self_eq_true,eq_self,exists_eq_left,exists_eq_left',hY,hZ,c2,hu,hw,u.enc_eq,staff_eq,e3]
        exact ⟨k' - 1,by omega,j + 1,by omega,hA,hB,rfl,rfl,take_step hu hw hj,ex_x rfl⟩
      · rw [decide_eq_false (fun k => map_ne hy1 hz1 (fun e => list_ne hu hw c3 (Part.cn_staves e)) (Score.cn_parts k))] at hr; subst hr
        simp -implicitDefEqProofs (maxDischargeDepth:=12) only [WW,List.replicate,e_splice,if_true,if_false,ite_true,ite_false,true_or,ne_eq,seval,h_putc,beq_self_eq_true,eq_self,exists_eq_left,exists_eq_left',hY,hZ,c2,hu,hw,u.enc_eq,w.enc_eq,staff_eq,c3]
        exact frz_sc
    · have hst : y.staves.l = z.staves.l:=by rw [List.take_of_length_le (by omega),List.take_of_length_le (by omega)] at hj; exact hj
      simp -implicitDefEqProofs (maxDischargeDepth:=12) only [WW,List.replicate,e_splice,if_true,if_false,ite_true,ite_false,true_or,ne_eq,seval,h_putc,beq_self_eq_true,eq_self,exists_eq_left,exists_eq_left',hY,hZ,c2,e2]
      exact ⟨k - 1,by omega,i + 1,by omega,hA,hB,map_step hy1 hz1 (Part.cn_mk d0 d1 d2 hst) ht,ex_x rfl⟩
  have partsE : a.parts.l.map Part.cn = b.parts.l.map Part.cn:=by rw [List.take_of_length_le (by omega),List.take_of_length_le (by omega)] at ht; exact ht
  simp -implicitDefEqProofs (maxDischargeDepth:=12) only [WW,List.replicate,e_splice,if_true,if_false,ite_true,ite_false,true_or,ne_eq,seval,h_putc,beq_self_eq_true,eq_self,exists_eq_left,exists_eq_left',hA,hB,c1]
  refine wp_loop (Inv:=fun k t H => ∃ (i : Nat),i + k = a.measures.l.length∧H.cells 0 = some a.enc.cells∧H.cells 1 = some b.enc.cells∧(a.measures.l.take i).map Measure.cn = (b.measures.l.take i).map Measure.cn ∧
    ∃ x : Nat→AV,t = [a.enc,b.enc,.ptr 0 0,.ptr 1 0,.sc (.bool false),x 5,x 6,x 7,x 8,.sc (.int .i64 i),x 10,x 11,x 12,x 13,x 14,x 15,x 16,x 17,x 18,x 19,x 20,x 21,x 22,x 23,x 24,x 25,x 26,x 27,x 28,x 29,x 30,x 31,x 32,x 33,x 34,x 35,x 36,x 37,x 38,x 39,x 40,x 41,x 42,x 43,x 44,x 45,x 46,x 47,x 48,x 49,x 50,x 51,x 52,x 53,x 54,x 55,x 56,x 57,x 58,x 59,x 60,x 61,x 62,x 63,x 64,x 65,x 66,x 67,x 68,x 69,x 70,x 71,x 72,x 73,x 74,x 75,x 76,x 77,x 78,x 79,x 80,x 81,x 82,x 83,x 84,x 85,x 86,x 87,x 88,x 89,x 90,x 91,x 92,x 93,x 94,x 95,x 96,x 97,x 98,x 99,x 100,x 101,x 102,x 103,x 104,x 105,x 106,x 107,x 108,x 109,x 110,x 111,x 112,x 113,x 114,x 115,x 116,x 117,x 118,x 119,x 120,x 121,x 122,x 123,x 124,x 125,x 126,x 127,x 128,x 129,x 130,x 131,x 132,x 133,x 134,x 135,x 136,x 137,x 138,x 139,x 140,x 141,x 142,x 143,x 144,x 145,x 146,x 147,x 148,x 149,x 150,x 151,x 152,x 153,x 154,x 155,x 156,x 157,x 158,x 159,x 160,x 161,x 162,x 163,x 164,x 165,x 166,x 167,x 168,x 169,x 170,x 171,x 172,x 173,x 174,x 175,x 176,x 177]) (k:=a.measures.l.length) ?_
    ⟨0,by omega,hA,hB,rfl,ex_x rfl⟩
  clear hA hB ht x c1 hk g0 g1
  rintro k t H ⟨i,hk,hA,hB,ht,x,rfl⟩
  simp only [a.enc_eq,b.enc_eq,c_agg] at hA hB
  by_cases c1 : (i : Int) < (a.measures.l.length : Int)
  · obtain ⟨y,hy1⟩ : ∃ y,a.measures.l[i]? = some y:=⟨_,List.getElem?_eq_getElem (by omega)⟩
    obtain ⟨z,hz1⟩ : ∃ y,b.measures.l[i]? = some y:=⟨_,List.getElem?_eq_getElem (by omega)⟩
    have e2 : IntKind.i64.wrap ((i : Int) + 1) = ((i + 1 : Nat) : Int):=by rw [w64 (by omega) (by omega)]; omega
    simp -implicitDefEqProofs (maxDischargeDepth:=12) only [WW,List.replicate,e_splice,if_true,if_false,ite_true,ite_false,true_or,ne_eq,seval,h_putc,beq_self_eq_true,eq_self,exists_eq_left,exists_eq_left',hA,hB,c1,hy1,hz1,y.enc_eq,z.enc_eq]
    rw [← y.enc_eq,← z.enc_eq]
    refine wA_pure hp4 (sameMeasure_pv hp hp2 hp3 y z (b4 y (List.mem_of_getElem? hy1))) ?_
    by_cases c3 : y.cn = z.cn
    · simp -implicitDefEqProofs (maxDischargeDepth:=12) only [WW,List.replicate,e_splice,if_true,if_false,ite_true,ite_false,true_or,ne_eq,seval,h_putc,beq_self_eq_true,eq_self,exists_eq_left,exists_eq_left',eq_true c3,e2]
      exact ⟨k - 1,by omega,i + 1,by omega,hA,hB,map_step hy1 hz1 c3 ht,ex_x rfl⟩
    · rw [decide_eq_false (fun k : a.cn = b.cn => map_ne hy1 hz1 c3 (Score.cn_measures k))] at hr; subst hr
      simp -implicitDefEqProofs (maxDischargeDepth:=12) only [WW,List.replicate,e_splice,if_true,if_false,ite_true,ite_false,true_or,ne_eq,seval,h_putc,beq_self_eq_true,eq_self,exists_eq_left,exists_eq_left',c3]
      exact frz_sc
  have measuresE : a.measures.l.map Measure.cn = b.measures.l.map Measure.cn:=by rw [List.take_of_length_le (by omega),List.take_of_length_le (by omega)] at ht; exact ht
  simp -implicitDefEqProofs (maxDischargeDepth:=12) only [WW,List.replicate,e_splice,if_true,if_false,ite_true,ite_false,true_or,ne_eq,seval,h_putc,beq_self_eq_true,eq_self,exists_eq_left,exists_eq_left',hA,hB,c1]
  refine wp_loop (Inv:=fun k t H => ∃ (i : Nat),i + k = a.spanners.l.length∧H.cells 0 = some a.enc.cells∧H.cells 1 = some b.enc.cells∧a.spanners.l.take i = b.spanners.l.take i ∧
    ∃ x : Nat→AV,t = [a.enc,b.enc,.ptr 0 0,.ptr 1 0,.sc (.bool false),x 5,x 6,x 7,x 8,x 9,.sc (.int .i64 i),x 11,x 12,x 13,x 14,x 15,x 16,x 17,x 18,x 19,x 20,x 21,x 22,x 23,x 24,x 25,x 26,x 27,x 28,x 29,x 30,x 31,x 32,x 33,x 34,x 35,x 36,x 37,x 38,x 39,x 40,x 41,x 42,x 43,x 44,x 45,x 46,x 47,x 48,x 49,x 50,x 51,x 52,x 53,x 54,x 55,x 56,x 57,x 58,x 59,x 60,x 61,x 62,x 63,x 64,x 65,x 66,x 67,x 68,x 69,x 70,x 71,x 72,x 73,x 74,x 75,x 76,x 77,x 78,x 79,x 80,x 81,x 82,x 83,x 84,x 85,x 86,x 87,x 88,x 89,x 90,x 91,x 92,x 93,x 94,x 95,x 96,x 97,x 98,x 99,x 100,x 101,x 102,x 103,x 104,x 105,x 106,x 107,x 108,x 109,x 110,x 111,x 112,x 113,x 114,x 115,x 116,x 117,x 118,x 119,x 120,x 121,x 122,x 123,x 124,x 125,x 126,x 127,x 128,x 129,x 130,x 131,x 132,x 133,x 134,x 135,x 136,x 137,x 138,x 139,x 140,x 141,x 142,x 143,x 144,x 145,x 146,x 147,x 148,x 149,x 150,x 151,x 152,x 153,x 154,x 155,x 156,x 157,x 158,x 159,x 160,x 161,x 162,x 163,x 164,x 165,x 166,x 167,x 168,x 169,x 170,x 171,x 172,x 173,x 174,x 175,x 176,x 177]) (k:=a.spanners.l.length) ?_
    ⟨0,by omega,hA,hB,rfl,ex_x rfl⟩
  clear hA hB ht x c1 hk
  rintro k t H ⟨i,hk,hA,hB,ht,x,rfl⟩
  simp only [a.enc_eq,b.enc_eq,c_agg] at hA hB
  by_cases c1 : (i : Int) < (a.spanners.l.length : Int)
  · obtain ⟨y,hy1⟩ : ∃ y,a.spanners.l[i]? = some y:=⟨_,List.getElem?_eq_getElem (by omega)⟩
    obtain ⟨z,hz1⟩ : ∃ y,b.spanners.l[i]? = some y:=⟨_,List.getElem?_eq_getElem (by omega)⟩
    have e2 : IntKind.i64.wrap ((i : Int) + 1) = ((i + 1 : Nat) : Int):=by rw [w64 (by omega) (by omega)]; omega
    by_cases c2 : y = z
    · subst c2
      simp -implicitDefEqProofs (maxDischargeDepth:=12) only [WW,List.replicate,e_splice,if_true,if_false,ite_true,ite_false,true_or,ne_eq,seval,h_putc,beq_self_eq_true,eq_self,exists_eq_left,exists_eq_left',hA,hB,c1,hy1,hz1,y.enc_eq,spanner_eq,e2]
      exact ⟨k - 1,by omega,i + 1,by omega,rfl,rfl,take_step hy1 hz1 ht,ex_x rfl⟩
    · rw [decide_eq_false (fun k : a.cn = b.cn => list_ne hy1 hz1 c2 (Score.cn_spanners k))] at hr; subst hr
      simp -implicitDefEqProofs (maxDischargeDepth:=12) only [WW,List.replicate,e_splice,if_true,if_false,ite_true,ite_false,true_or,ne_eq,seval,h_putc,beq_self_eq_true,eq_self,exists_eq_left,exists_eq_left',hA,hB,c1,hy1,hz1,y.enc_eq,z.enc_eq,spanner_eq,c2]
      exact frz_sc
  have spannersE : a.spanners.l = b.spanners.l:=by rw [List.take_of_length_le (by omega),List.take_of_length_le (by omega)] at ht; exact ht
  simp -implicitDefEqProofs (maxDischargeDepth:=12) only [WW,List.replicate,e_splice,if_true,if_false,ite_true,ite_false,true_or,ne_eq,seval,h_putc,beq_self_eq_true,eq_self,exists_eq_left,exists_eq_left',hA,hB,c1]
  refine wp_loop (Inv:=fun k t H => ∃ (i : Nat),i + k = a.last.l.length∧H.cells 0 = some a.enc.cells∧H.cells 1 = some b.enc.cells∧a.last.l.take i = b.last.l.take i ∧
    ∃ x : Nat→AV,t = [a.enc,b.enc,.ptr 0 0,.ptr 1 0,.sc (.bool false),x 5,x 6,x 7,x 8,x 9,x 10,.sc (.int .i64 i),x 12,x 13,x 14,x 15,x 16,x 17,x 18,x 19,x 20,x 21,x 22,x 23,x 24,x 25,x 26,x 27,x 28,x 29,x 30,x 31,x 32,x 33,x 34,x 35,x 36,x 37,x 38,x 39,x 40,x 41,x 42,x 43,x 44,x 45,x 46,x 47,x 48,x 49,x 50,x 51,x 52,x 53,x 54,x 55,x 56,x 57,x 58,x 59,x 60,x 61,x 62,x 63,x 64,x 65,x 66,x 67,x 68,x 69,x 70,x 71,x 72,x 73,x 74,x 75,x 76,x 77,x 78,x 79,x 80,x 81,x 82,x 83,x 84,x 85,x 86,x 87,x 88,x 89,x 90,x 91,x 92,x 93,x 94,x 95,x 96,x 97,x 98,x 99,x 100,x 101,x 102,x 103,x 104,x 105,x 106,x 107,x 108,x 109,x 110,x 111,x 112,x 113,x 114,x 115,x 116,x 117,x 118,x 119,x 120,x 121,x 122,x 123,x 124,x 125,x 126,x 127,x 128,x 129,x 130,x 131,x 132,x 133,x 134,x 135,x 136,x 137,x 138,x 139,x 140,x 141,x 142,x 143,x 144,x 145,x 146,x 147,x 148,x 149,x 150,x 151,x 152,x 153,x 154,x 155,x 156,x 157,x 158,x 159,x 160,x 161,x 162,x 163,x 164,x 165,x 166,x 167,x 168,x 169,x 170,x 171,x 172,x 173,x 174,x 175,x 176,x 177]) (k:=a.last.l.length) ?_
    ⟨0,by omega,hA,hB,rfl,ex_x rfl⟩
  clear hA hB ht x c1 hk
  rintro k t H ⟨i,hk,hA,hB,ht,x,rfl⟩
  simp only [a.enc_eq,b.enc_eq,c_agg] at hA hB
  by_cases c1 : (i : Int) < (a.last.l.length : Int)
  · obtain ⟨y,hy1⟩ : ∃ y,a.last.l[i]? = some y:=⟨_,List.getElem?_eq_getElem (by omega)⟩
    obtain ⟨z,hz1⟩ : ∃ y,b.last.l[i]? = some y:=⟨_,List.getElem?_eq_getElem (by omega)⟩
    have e2 : IntKind.i64.wrap ((i : Int) + 1) = ((i + 1 : Nat) : Int):=by rw [w64 (by omega) (by omega)]; omega
    by_cases c2 : y = z
    · subst c2
      simp -implicitDefEqProofs (maxDischargeDepth:=12) only [WW,List.replicate,e_splice,if_true,if_false,ite_true,ite_false,true_or,ne_eq,seval,h_putc,beq_self_eq_true,eq_self,exists_eq_left,exists_eq_left',hA,hB,c1,hy1,hz1,y.enc_eq,id_eq,e2]
      exact ⟨k - 1,by omega,i + 1,by omega,rfl,rfl,take_step hy1 hz1 ht,ex_x rfl⟩
    · rw [decide_eq_false (fun k : a.cn = b.cn => list_ne hy1 hz1 c2 (Score.cn_last k))] at hr; subst hr
      simp -implicitDefEqProofs (maxDischargeDepth:=12) only [WW,List.replicate,e_splice,if_true,if_false,ite_true,ite_false,true_or,ne_eq,seval,h_putc,beq_self_eq_true,eq_self,exists_eq_left,exists_eq_left',hA,hB,c1,hy1,hz1,y.enc_eq,z.enc_eq,id_eq,c2]
      exact frz_sc
  have lastE : a.last.l = b.last.l:=by rw [List.take_of_length_le (by omega),List.take_of_length_le (by omega)] at ht; exact ht
  simp -implicitDefEqProofs (maxDischargeDepth:=12) only [WW,List.replicate,e_splice,if_true,if_false,ite_true,ite_false,true_or,ne_eq,seval,h_putc,beq_self_eq_true,eq_self,exists_eq_left,exists_eq_left',hA,hB,c1]
  rw [decide_eq_true (Score.cn_mk h1 h2 partsE measuresE spannersE lastE)] at hr; subst hr
  exact frz_sc
end Go.Hem
namespace Go.Hem
variable {pol : Pol}
end Go.Hem
namespace Go.Hem
variable {pol : Pol}
def Measure.pl (m : Measure) : Measure:={ m with tempi:=none,cells:=none }
theorem Measure.cn_iff {a b : Measure} : a.cn = b.cn ↔ a.pl = b.pl∧a.tempi.l = b.tempi.l∧a.cells.l.map Cell.cn = b.cells.l.map Cell.cn:=by
  unfold Measure.cn Measure.pl; simp only [Measure.mk.injEq,of_inj,and_true,and_assoc]
end Go.Hem
namespace Go.Hem
variable {pol : Pol}
def sclCode (n bytes : Nat) : CF:=⟨.seq (.ops [⟨some 2,none,.mv (.const (.slice none 0 0)),[]⟩]) (.seq (.seq (.ops [⟨some 3,none,.mv (.tmp 0),[]⟩,⟨some 4,none,.bnil false .slice (.tmp 3) (.const (.slice none 0 0)),[]⟩]) (.cond (.tmp 4) (.seq (.ops [⟨some 2,none,.mv (.const (.slice none 0 0)),[]⟩]) .ret) .skip)) (.seq (.ops [⟨some 5,none,.eslice 0 n,[]⟩,⟨some 6,none,.mv (.tmp 0),[]⟩,⟨some 7,none,.app n bytes (.tmp 5) (.tmp 6),[]⟩,⟨some 2,none,.mv (.tmp 7),[]⟩]) .ret)),8,[.tmp 2]⟩
def Fresh (H0 H' : AHeap) (fp : List Nat) : Prop:=(∀ b ∈ fp,H0.next ≤ b)∧H0.next ≤ H'.next∧Keep H0.next H0 H'
theorem sclone_ok {α : Type} {f : α→AV} {n bytes : Nat} {fn : FuncId} (row : RowOf n f) (hlen : ∀ x,(f x).cells.length = n) (hsc : ∀ x,(f x).cells.all AV.isSc = true) (hf : compF prog fn = some (sclCode n bytes)) (a : Sl α) (ha : a.l.length < 1000000) (hb : bytes ≤ 1000) (H0 : AHeap) :
    Ev prog pol (.call fn [slm f a]) H0 fun o H' => ∃ v fp,o = .val v∧AccX false 1 n f H' v a fp∧Fresh H0 H' fp:=by
  refine (wpF_ok hf (Q:=fun v H' => ∃ fp,AccX false 1 n f H' v a fp∧Fresh H0 H' fp) ?_).mono ?_
  rotate_left
  · rintro o H' ⟨v,rfl,fp,h⟩; exact ⟨v,fp,rfl,h⟩
  cases a with
  | none =>
    simp -implicitDefEqProofs (maxDischargeDepth:=12) only [wpF,sclCode,WW,List.replicate,e_splice,if_true,if_false,ite_true,ite_false,true_or,ne_eq,seval,h_putc,beq_self_eq_true,eq_self,exists_eq_left,exists_eq_left',Option.isNone_none,Bool.bne_false]
    exact ⟨[],acc_none,by simp,Nat.le_refl _,Keep.refl⟩
  | some l =>
    simp only [Sl.l,Option.getD_some] at ha
    have e1 : alen (slm f (some l)) = some l.length:=by rw [e_alenm]; rfl
    have e2 : asrc n (H0.alloc (.cells [])) (slm f (some l)) l.length = some (l.flatMap fun v => (f v).cells):=by
      rw [e_srcm hlen (by simp [Sl.l])]; simp [Sl.l]
    have hbig : (2 * (0 + l.length) + 1000) * bytes ≤ 2 ^ 47:=by
      have : (2 * (0 + l.length) + 1000) * bytes ≤ (2 * (0 + l.length) + 1000) * 1000:=Nat.mul_le_mul_left _ hb
      omega
    have own : ∀ H,OwnL (OwnX false 1) H (l.flatMap fun x => (f x).cells) (l.flatMap fun x => (f x).cells) []:=fun H => OwnL.scal (by
      simp only [List.all_eq_true]
      intro v hv
      obtain ⟨x,_,hx⟩:=List.mem_flatMap.1 hv
      exact List.all_eq_true.1 (hsc x) v hx)
    by_cases h0 : l = []
    · subst h0
      have e1' : alen (slm f (some [])) = some 0:=rfl
      have e2' : asrc n (H0.alloc (.cells [])) (slm f (some [])) 0 = some []:=by simpa using e2
      have sp : splice [] 0 [] = ([] : List AV):=rfl
      simp -implicitDefEqProofs (maxDischargeDepth:=12) only [wpF,sclCode,WW,List.replicate,e_splice,if_true,if_false,ite_true,ite_false,true_or,ne_eq,seval,h_putc,beq_self_eq_true,eq_self,exists_eq_left,exists_eq_left',Option.isNone_some,Bool.bne_false,appTo,e1',e2',Nat.zero_mul,sp]
      refine ⟨[H0.next],.inr ⟨H0.next,0,[],[],[],[],rfl,rfl,Nat.le_refl _,?_,by simp,by simp,.nil,by simp,rfl⟩,by simp,by simp,(by repeat (first | exact Keep.refl | refine Keep.put (by (try simp only [AHeap.next_alloc,AHeap.next_put]); omega) ?_ | refine Keep.alloc (by (try simp only [AHeap.next_alloc,AHeap.next_put]); omega) ?_))⟩
      simp -implicitDefEqProofs (maxDischargeDepth:=12) only [WW,List.replicate,e_splice,if_true,if_false,ite_true,ite_false,true_or,ne_eq,seval,h_putc,beq_self_eq_true,eq_self,exists_eq_left,exists_eq_left']
    · have h1 : ¬ l.length = 0:=by simpa using h0
      have h2 : ¬ (0 + l.length ≤ 0):=by omega
      have h3 : ¬ (l.length ≤ 0):=by omega
      have hb2:=hbig
      rw [Nat.zero_add] at hb2
      simp -implicitDefEqProofs (maxDischargeDepth:=12) only [wpF,sclCode,WW,List.replicate,e_splice,if_true,if_false,ite_true,ite_false,true_or,ne_eq,seval,h_putc,beq_self_eq_true,eq_self,exists_eq_left,exists_eq_left',Option.isNone_some,Bool.bne_false,appTo,e1,e2,h2,h3,hbig,hb2,Nat.zero_mul]
      refine ⟨[H0.next + 1],.inr ⟨H0.next + 1,l.length,_,[],[],l,rfl,rfl,Nat.le_refl _,by simp -implicitDefEqProofs (maxDischargeDepth:=12) only [WW,List.replicate,e_splice,if_true,if_false,ite_true,ite_false,true_or,ne_eq,seval,h_putc,beq_self_eq_true,eq_self,exists_eq_left,exists_eq_left'],flat_len row l,by simp,own _,by simp,rfl⟩,by simp,by simp only [AHeap.next_alloc,AHeap.next_put]; omega,(by repeat (first | exact Keep.refl | refine Keep.put (by (try simp only [AHeap.next_alloc,AHeap.next_put]); omega) ?_ | refine Keep.alloc (by (try simp only [AHeap.next_alloc,AHeap.next_put]); omega) ?_))⟩
theorem row_Spanner' : RowOf 7 Spanner.enc:=⟨by decide,fun _ => ⟨rfl,rfl⟩⟩
theorem sclSpanner_ok (a : Sl Spanner) (ha : a.l.length < 1000000) (H0 : AHeap) : Ev prog pol (.call 84 [slm Spanner.enc a]) H0 fun o H' => ∃ v fp,o = .val v∧AccX false 1 7 Spanner.enc H' v a fp∧Fresh H0 H' fp :=
  sclone_ok row_Spanner' Spanner.enc_len (fun _ => rfl) (bytes:=56) ok84 a ha (by decide) H0
theorem row_ID' : RowOf 2 ID.enc:=⟨by decide,fun _ => ⟨rfl,rfl⟩⟩
theorem sclID_ok (a : Sl ID) (ha : a.l.length < 1000000) (H0 : AHeap) : Ev prog pol (.call 85 [slm ID.enc a]) H0 fun o H' => ∃ v fp,o = .val v∧AccX false 1 2 ID.enc H' v a fp∧Fresh H0 H' fp :=
  sclone_ok row_ID' ID.enc_len (fun _ => rfl) (bytes:=16) ok85 a ha (by decide) H0
theorem row_ClefChange' : RowOf 2 ClefChange.enc:=⟨by decide,fun _ => ⟨rfl,rfl⟩⟩
theorem sclClefChange_ok (a : Sl ClefChange) (ha : a.l.length < 1000000) (H0 : AHeap) : Ev prog pol (.call 117 [slm ClefChange.enc a]) H0 fun o H' => ∃ v fp,o = .val v∧AccX false 1 2 ClefChange.enc H' v a fp∧Fresh H0 H' fp :=
  sclone_ok row_ClefChange' ClefChange.enc_len (fun _ => rfl) (bytes:=16) ok117 a ha (by decide) H0
theorem row_Staff' : RowOf 3 Staff.enc:=⟨by decide,fun _ => ⟨rfl,rfl⟩⟩
theorem sclStaff_ok (a : Sl Staff) (ha : a.l.length < 1000000) (H0 : AHeap) : Ev prog pol (.call 123 [slm Staff.enc a]) H0 fun o H' => ∃ v fp,o = .val v∧AccX false 1 3 Staff.enc H' v a fp∧Fresh H0 H' fp :=
  sclone_ok row_Staff' Staff.enc_len (fun _ => rfl) (bytes:=24) ok123 a ha (by decide) H0
theorem row_Tempo' : RowOf 3 Tempo.enc:=⟨by decide,fun _ => ⟨rfl,rfl⟩⟩
theorem sclTempo_ok (a : Sl Tempo) (ha : a.l.length < 1000000) (H0 : AHeap) : Ev prog pol (.call 124 [slm Tempo.enc a]) H0 fun o H' => ∃ v fp,o = .val v∧AccX false 1 3 Tempo.enc H' v a fp∧Fresh H0 H' fp :=
  sclone_ok row_Tempo' Tempo.enc_len (fun _ => rfl) (bytes:=24) ok124 a ha (by decide) H0
theorem row_Head' : RowOf 5 Head.enc:=⟨by decide,fun _ => ⟨rfl,rfl⟩⟩
theorem sclHead_ok (a : Sl Head) (ha : a.l.length < 1000000) (H0 : AHeap) : Ev prog pol (.call 129 [slm Head.enc a]) H0 fun o H' => ∃ v fp,o = .val v∧AccX false 1 5 Head.enc H' v a fp∧Fresh H0 H' fp :=
  sclone_ok row_Head' Head.enc_len (fun _ => rfl) (bytes:=40) ok129 a ha (by decide) H0
theorem row_Grace' : RowOf 5 Grace.enc:=⟨by decide,fun _ => ⟨rfl,rfl⟩⟩
theorem sclGrace_ok (a : Sl Grace) (ha : a.l.length < 1000000) (H0 : AHeap) : Ev prog pol (.call 130 [slm Grace.enc a]) H0 fun o H' => ∃ v fp,o = .val v∧AccX false 1 5 Grace.enc H' v a fp∧Fresh H0 H' fp :=
  sclone_ok row_Grace' Grace.enc_len (fun _ => rfl) (bytes:=40) ok130 a ha (by decide) H0
theorem row_Syllable' : RowOf 2 Syllable.enc:=⟨by decide,fun _ => ⟨rfl,rfl⟩⟩
theorem sclSyllable_ok (a : Sl Syllable) (ha : a.l.length < 1000000) (H0 : AHeap) : Ev prog pol (.call 131 [slm Syllable.enc a]) H0 fun o H' => ∃ v fp,o = .val v∧AccX false 1 2 Syllable.enc H' v a fp∧Fresh H0 H' fp :=
  sclone_ok row_Syllable' Syllable.enc_len (fun _ => rfl) (bytes:=24) ok131 a ha (by decide) H0
theorem nq1 (q : Nat) : (q = q + 1) = False:=by simp
theorem nq2 (q : Nat) : (q = q + 2) = False:=by simp
theorem mq1 (q : Nat) : (q + 1 = q) = False:=by simp
theorem mq2 (q : Nat) : (q + 2 = q) = False:=by simp
theorem mq12 (q : Nat) : (q + 1 = q + 2) = False:=by simp
theorem mq21 (q : Nat) : (q + 2 = q + 1) = False:=by simp
theorem addq (q : Nat) : q + 1 + 1 = q + 2:=rfl
theorem eClone_ok (h1 : pol.pure 129 = false) (h2 : pol.pure 130 = false) (h3 : pol.pure 131 = false) (x : Event) (hx : x.tame) (H0 : AHeap) :
    Ev prog pol (.call 97 [x.enc]) H0 fun o H' => ∃ cs fp,o = .val (.agg cs)∧OwnL (OwnX false 2) H' cs x.enc.cells fp∧cs.length = 13∧AV.ones cs = true∧Fresh H0 H' fp:=by
  refine (wpF_ok ok97 (Q:=fun v H' => ∃ cs fp,v = .agg cs∧OwnL (OwnX false 2) H' cs x.enc.cells fp∧cs.length = 13∧AV.ones cs = true∧Fresh H0 H' fp) ?_).mono ?_
  rotate_left
  · rintro o H' ⟨v,rfl,cs,fp,rfl,h⟩; exact ⟨cs,fp,rfl,h⟩
  obtain ⟨b1,b2,b3⟩:=hx
  simp -implicitDefEqProofs (maxDischargeDepth:=12) only [wpF,cf97,WW,List.replicate,e_splice,if_true,if_false,ite_true,ite_false,true_or,ne_eq,seval,h_putc,beq_self_eq_true,eq_self,exists_eq_left,exists_eq_left',x.enc_eq,nq1,mq1,addq]
  refine wA_call h1 ((sclHead_ok x.heads b1 _).mono ?_)
  rintro o H1 ⟨v1,fp1,rfl,hA1,hF1,hN1,hK1⟩
  refine ⟨_,rfl,?_⟩
  simp only [AHeap.next_alloc,addq] at hF1 hN1
  have c0:=hK1 H0.next (by simp only [AHeap.next_alloc]; omega)
  have c1:=hK1 (H0.next + 1) (by simp only [AHeap.next_alloc]; omega)
  simp -implicitDefEqProofs (maxDischargeDepth:=12) only [WW,List.replicate,e_splice,if_true,if_false,ite_true,ite_false,true_or,ne_eq,seval,h_putc,beq_self_eq_true,eq_self,exists_eq_left,exists_eq_left',nq1,mq1,addq] at c0 c1
  simp -implicitDefEqProofs (maxDischargeDepth:=12) only [WW,List.replicate,e_splice,if_true,if_false,ite_true,ite_false,true_or,ne_eq,seval,h_putc,beq_self_eq_true,eq_self,exists_eq_left,exists_eq_left',nq1,mq1,addq,c0,c1]
  have hK0 : Keep H0.next H0 H1:=fun b hb => by
    rw [hK1 b (by simp only [AHeap.next_alloc]; omega)]
    simp only [c_alloc_ne (show b ≠ H0.next by omega),c_alloc_ne (show b ≠ (H0.alloc _).next by simp only [AHeap.next_alloc]; omega)]
  clear hK1
  refine wA_call h2 ((sclGrace_ok x.graces b2 _).mono ?_)
  rintro o H2 ⟨v2,fp2,rfl,hA2,hF2,hN2,hK2⟩
  refine ⟨_,rfl,?_⟩
  have d0:=(hK2 H0.next (by omega)).trans c0
  have d1:=(hK2 (H0.next + 1) (by omega)).trans c1
  simp -implicitDefEqProofs (maxDischargeDepth:=12) only [WW,List.replicate,e_splice,if_true,if_false,ite_true,ite_false,true_or,ne_eq,seval,h_putc,beq_self_eq_true,eq_self,exists_eq_left,exists_eq_left',nq1,mq1,addq,c0,c1,d0,d1]
  refine wA_call h3 ((sclSyllable_ok x.lyrics b3 _).mono ?_)
  rintro o H3 ⟨v3,fp3,rfl,hA3,hF3,hN3,hK3⟩
  refine ⟨_,rfl,?_⟩
  have e0:=(hK3 H0.next (by omega)).trans d0
  have e1:=(hK3 (H0.next + 1) (by omega)).trans d1
  simp -implicitDefEqProofs (maxDischargeDepth:=12) only [WW,List.replicate,e_splice,if_true,if_false,ite_true,ite_false,true_or,ne_eq,seval,h_putc,beq_self_eq_true,eq_self,exists_eq_left,exists_eq_left',nq1,mq1,addq,e0,e1,hA1.one,hA1.cells,hA2.one,hA2.cells,hA3.one,hA3.cells]
  have l1:=hA1.lts
  have l2:=hA2.lts
  obtain ⟨g1,o1,k1⟩:=hA1.own row_Head'
  obtain ⟨g2,o2,k2⟩:=hA2.own row_Grace'
  obtain ⟨g3,o3,k3⟩:=hA3.own row_Syllable'
  have w1 : ∀ H',(∀ b,H0.next + 2 ≤ b→H'.cells b = H3.cells b)→OwnX false 2 H' v1 (slm Head.enc x.heads) g1:=fun H' hh => o1.frame fun b hb => by
    have:=l1 b (k1 b hb)
    rw [hh b (hF1 b (k1 b hb)),hK3 b (by omega),hK2 b (by omega)]
  have w2 : ∀ H',(∀ b,H0.next + 2 ≤ b→H'.cells b = H3.cells b)→OwnX false 2 H' v2 (slm Grace.enc x.graces) g2:=fun H' hh => o2.frame fun b hb => by
    have:=l2 b (k2 b hb)
    have:=hF2 b (k2 b hb)
    rw [hh b (by omega),hK3 b (by omega)]
  have w3 : ∀ H',(∀ b,H0.next + 2 ≤ b→H'.cells b = H3.cells b)→OwnX false 2 H' v3 (slm Syllable.enc x.lyrics) g3:=fun H' hh => o3.frame fun b hb => by
    have:=hF3 b (k3 b hb)
    rw [hh b (by omega)]
  have ap12 : Apart g1 g2:=fun b hb hb2 => by have:=l1 b (k1 b hb); have:=hF2 b (k2 b hb2); omega
  have ap13 : Apart g1 g3:=fun b hb hb2 => by have:=l1 b (k1 b hb); have:=hF3 b (k3 b hb2); omega
  have ap23 : Apart g2 g3:=fun b hb hb2 => by have:=l2 b (k2 b hb); have:=hF3 b (k3 b hb2); omega
  refine ⟨_,_,rfl,.cons OwnX.scal (.cons OwnX.scal (.cons OwnX.scal (.cons OwnX.scal (.cons OwnX.scal (.cons (w1 _ ?_) (.cons (w2 _ ?_) (.cons OwnX.scal (.cons OwnX.scal (.cons OwnX.scal (.cons (w3 _ ?_) (.cons OwnX.scal (.cons OwnX.scal .nil
    Apart.nil_left) Apart.nil_left) ?_) Apart.nil_left) Apart.nil_left) Apart.nil_left) ?_) ?_) Apart.nil_left) Apart.nil_left) Apart.nil_left) Apart.nil_left) Apart.nil_left,rfl,?_,?_,?_,?_⟩
  · exact fun b hb => by simp only [c_put_ne (show b ≠ H0.next by omega),c_put_ne (show b ≠ H0.next + 1 by omega)]
  · exact fun b hb => by simp only [c_put_ne (show b ≠ H0.next by omega),c_put_ne (show b ≠ H0.next + 1 by omega)]
  · exact fun b hb => by simp only [c_put_ne (show b ≠ H0.next by omega),c_put_ne (show b ≠ H0.next + 1 by omega)]
  · simpa using Apart.nil_right
  · simpa using ap23
  · simpa using ap12.app_right ap13
  · simp only [AV.ones,List.all_cons,List.all_nil,o_int,hA1.one,hA2.one,hA3.one,Bool.and_self]
  · intro b hb
    simp only [List.nil_append,List.append_nil,List.mem_append] at hb
    rcases hb with h | h | h
    · have:=hF1 b (k1 b h); omega
    · have:=hF2 b (k2 b h); omega
    · have:=hF3 b (k3 b h); omega
  · simp only [AHeap.next_put]; omega
  · intro b hb
    simp only [c_put_ne (show b ≠ H0.next by omega),c_put_ne (show b ≠ H0.next + 1 by omega)]
    rw [hK3 b (by omega),hK2 b (by omega),hK0 b hb]
end Go.Hem
namespace Go.Hem
variable {pol : Pol}
def ClPost (d n : Nat) (H0 : AHeap) (u : AV) (o : Out) (H' : AHeap) : Prop:=∃ cs fp,o = .val (.agg cs)∧OwnL (OwnX false d) H' cs u.cells fp∧cs.length = n∧AV.ones cs = true∧Fresh H0 H' fp
theorem pClone_ok (h1 : pol.pure 123 = false) (x : Part) (hx : x.tame) (H0 : AHeap) : Ev prog pol (.call 78 [x.enc]) H0 (ClPost 2 6 H0 x.enc):=by
  refine (wpF_ok ok78 (Q:=fun v H' => ∃ cs fp,v = .agg cs∧OwnL (OwnX false 2) H' cs x.enc.cells fp∧cs.length = 6∧AV.ones cs = true∧Fresh H0 H' fp) ?_).mono ?_
  rotate_left
  · rintro o H' ⟨v,rfl,cs,fp,rfl,h⟩; exact ⟨cs,fp,rfl,h⟩
  simp -implicitDefEqProofs (maxDischargeDepth:=12) only [wpF,cf78,WW,List.replicate,e_splice,if_true,if_false,ite_true,ite_false,true_or,ne_eq,seval,h_putc,beq_self_eq_true,eq_self,exists_eq_left,exists_eq_left',x.enc_eq,nq1,mq1,addq]
  refine wA_call h1 ((sclStaff_ok x.staves hx _).mono ?_)
  rintro o H1 ⟨v1,fp1,rfl,hA1,hF1,hN1,hK1⟩
  refine ⟨_,rfl,?_⟩
  simp only [AHeap.next_alloc,addq] at hF1 hN1
  have c0:=hK1 H0.next (by simp only [AHeap.next_alloc]; omega)
  have c1:=hK1 (H0.next + 1) (by simp only [AHeap.next_alloc]; omega)
  simp -implicitDefEqProofs (maxDischargeDepth:=12) only [WW,List.replicate,e_splice,if_true,if_false,ite_true,ite_false,true_or,ne_eq,seval,h_putc,beq_self_eq_true,eq_self,exists_eq_left,exists_eq_left',nq1,mq1,addq] at c0 c1
  simp -implicitDefEqProofs (maxDischargeDepth:=12) only [WW,List.replicate,e_splice,if_true,if_false,ite_true,ite_false,true_or,ne_eq,seval,h_putc,beq_self_eq_true,eq_self,exists_eq_left,exists_eq_left',nq1,mq1,addq,c0,c1,hA1.one,hA1.cells]
  have hK0 : Keep H0.next H0 H1:=fun b hb => by
    rw [hK1 b (by simp only [AHeap.next_alloc]; omega)]
    simp only [c_alloc_ne (show b ≠ H0.next by omega),c_alloc_ne (show b ≠ (H0.alloc _).next by simp only [AHeap.next_alloc]; omega)]
  obtain ⟨g1,o1,k1⟩:=hA1.own row_Staff'
  refine ⟨_,_,rfl,.cons OwnX.scal (.cons OwnX.scal (.cons OwnX.scal (.cons OwnX.scal (.cons OwnX.scal (.cons (o1.frame fun b hb => ?_) .nil Apart.nil_right) Apart.nil_left) Apart.nil_left) Apart.nil_left) Apart.nil_left) Apart.nil_left,rfl,?_,?_,?_,?_⟩
  · have:=hF1 b (k1 b hb)
    simp only [c_put_ne (show b ≠ H0.next by omega),c_put_ne (show b ≠ H0.next + 1 by omega)]
  · simp only [AV.ones,List.all_cons,List.all_nil,o_int,o_str,hA1.one,Bool.and_self]
  · intro b hb
    simp only [List.nil_append,List.append_nil] at hb
    have:=hF1 b (k1 b hb); omega
  · simp only [AHeap.next_put]; omega
  · intro b hb
    simp only [c_put_ne (show b ≠ H0.next by omega),c_put_ne (show b ≠ H0.next + 1 by omega)]
    rw [hK0 b hb]
def Voice.cl (v : Voice) : Voice:={ events:=Sl.of v.events.l,tuplets:=Sl.of v.tuplets.l }
theorem of_take_succ {α : Type} {l : List α} {i : Nat} {x : α} (h : l[i]? = some x) : (some ((Sl.of (l.take i)).l ++ [x]) : Sl α) = Sl.of (l.take (i + 1)):=by
  rw [l_of,List.take_add_one,h]
  unfold Sl.of
  rw [if_neg (by simp)]; rfl
theorem ones_take {l : List AV} {n : Nat} (h : l.length = n) : l.take n = l:=List.take_of_length_le (by omega)
theorem vClone_ok (h0 : pol.pure 97 = false) (h1 : pol.pure 129 = false) (h2 : pol.pure 130 = false) (h3 : pol.pure 131 = false) (x : Voice) (hx : x.tame) (H0 : AHeap) : Ev prog pol (.call 118 [x.enc]) H0 (ClPost 3 2 H0 x.cl.enc):=by
  refine (wpF_ok ok118 (Q:=fun v H' => ∃ cs fp,v = .agg cs∧OwnL (OwnX false 3) H' cs x.cl.enc.cells fp∧cs.length = 2∧AV.ones cs = true∧Fresh H0 H' fp) ?_).mono ?_
  rotate_left
  · rintro o H' ⟨v,rfl,cs,fp,rfl,h⟩; exact ⟨cs,fp,rfl,h⟩
  obtain ⟨b1,b2,b3⟩:=hx
  generalize hq : H0.next = q
  simp -implicitDefEqProofs (maxDischargeDepth:=12) only [wpF,cf118,WW,List.replicate,e_splice,if_true,if_false,ite_true,ite_false,true_or,ne_eq,seval,h_putc,beq_self_eq_true,eq_self,exists_eq_left,exists_eq_left',x.enc_eq,nq1,mq1,addq,hq,nq2,mq2,mq12,mq21]
  refine wp_loop (Inv:=fun k t H => ∃ (i : Nat) (fp : List Nat) (a : AV),i + k = x.events.l.length∧H.cells q = some [slm Event.enc x.events,slm Tuplet.enc x.tuplets]∧H.cells (q + 1) = some [.sc .nils,.sc .nils] ∧
    H.cells (q + 2) = some [a,.sc .nils]∧AccX false 2 13 Event.enc H a (Sl.of (x.events.l.take i)) fp∧(∀ b ∈ fp,q + 3 ≤ b)∧q + 3 ≤ H.next∧Keep q H0 H ∧
    ∃ y : Nat→AV,t = [.agg [slm Event.enc x.events,slm Tuplet.enc x.tuplets],.ptr q 0,.ptr (q + 1) 0,.ptr (q + 2) 0,y 4,y 5,y 6,slm Event.enc x.events,.sc (.int .i64 x.events.l.length),.sc (.int .i64 i),y 10,y 11,y 12,y 13,y 14,y 15,y 16,y 17,y 18,y 19,y 20,y 21,y 22,y 23,y 24,y 25,y 26,y 27]) (k:=x.events.l.length) ?_
    ⟨0,[],_,by omega,?_,?_,?_,acc_none,by simp,?_,?_,ex_x rfl⟩
  rotate_left
  · simp -implicitDefEqProofs (maxDischargeDepth:=12) only [WW,List.replicate,e_splice,if_true,if_false,ite_true,ite_false,true_or,ne_eq,seval,h_putc,beq_self_eq_true,eq_self,exists_eq_left,exists_eq_left',nq1,mq1,addq,hq,nq2,mq2,mq12,mq21]
  · simp -implicitDefEqProofs (maxDischargeDepth:=12) only [WW,List.replicate,e_splice,if_true,if_false,ite_true,ite_false,true_or,ne_eq,seval,h_putc,beq_self_eq_true,eq_self,exists_eq_left,exists_eq_left',nq1,mq1,addq,hq,nq2,mq2,mq12,mq21]
  · simp -implicitDefEqProofs (maxDischargeDepth:=12) only [WW,List.replicate,e_splice,if_true,if_false,ite_true,ite_false,true_or,ne_eq,seval,h_putc,beq_self_eq_true,eq_self,exists_eq_left,exists_eq_left',nq1,mq1,addq,hq,nq2,mq2,mq12,mq21]
  · simp only [AHeap.next_alloc,hq]; omega
  · subst hq; exact (by repeat (first | exact Keep.refl | refine Keep.put (by (try simp only [AHeap.next_alloc,AHeap.next_put]); omega) ?_ | refine Keep.alloc (by (try simp only [AHeap.next_alloc,AHeap.next_put]); omega) ?_))
  rintro k t H ⟨i,fp,a,hk,hA,hB,hC,hE,hfp,hN,hKp,y,rfl⟩
  have g0 : ¬ q = H.next:=by omega
  have g1 : ¬ q + 1 = H.next:=by omega
  have g2 : ¬ q + 2 = H.next:=by omega
  have g3 : ¬ H.next = q:=by omega
  have g4 : ¬ H.next = q + 1:=by omega
  have g5 : ¬ H.next = q + 2:=by omega
  by_cases c1 : (i : Int) < (x.events.l.length : Int)
  · obtain ⟨e,he⟩ : ∃ y,x.events.l[i]? = some y:=⟨_,List.getElem?_eq_getElem (by omega)⟩
    have e2 : IntKind.i64.wrap ((i : Int) + 1) = ((i + 1 : Nat) : Int):=by rw [w64 (by omega) (by omega)]; omega
    simp -implicitDefEqProofs (maxDischargeDepth:=12) only [WW,List.replicate,e_splice,if_true,if_false,ite_true,ite_false,true_or,ne_eq,seval,h_putc,beq_self_eq_true,eq_self,exists_eq_left,exists_eq_left',hA,hB,hC,c1,he,e.enc_eq,g0,g1,g2,g3,g4,g5]
    rw [← e.enc_eq]
    refine wA_call h0 ((eClone_ok h1 h2 h3 e (b3 e (List.mem_of_getElem? he)) _).mono ?_)
    rintro o H1 ⟨cs,fp1,rfl,ho,hl,hones,hF1,hN1,hK1⟩
    refine ⟨_,rfl,?_⟩
    simp only [AHeap.next_alloc,AHeap.next_put] at hF1 hN1
    have d0:=hK1 q (by simp only [AHeap.next_alloc,AHeap.next_put]; omega)
    have d1:=hK1 (q + 1) (by simp only [AHeap.next_alloc,AHeap.next_put]; omega)
    have d2:=hK1 (q + 2) (by simp only [AHeap.next_alloc,AHeap.next_put]; omega)
    simp -implicitDefEqProofs (maxDischargeDepth:=12) only [WW,List.replicate,e_splice,if_true,if_false,ite_true,ite_false,true_or,ne_eq,seval,h_putc,beq_self_eq_true,eq_self,exists_eq_left,exists_eq_left',g0,g1,g2,g3,g4,g5,hA,hB,hC] at d0 d1 d2
    have hE1 : AccX false 2 13 Event.enc H1 a (Sl.of (x.events.l.take i)) fp:=hE.fr fun b hb => by
      have:=hE.lts b hb
      rw [hK1 b (by simp only [AHeap.next_alloc,AHeap.next_put]; omega),c_put_ne (by omega),c_alloc_ne (by omega)]
    have hK2 : Keep q H0 H1:=fun b hb => by
      rw [hK1 b (by simp only [AHeap.next_alloc,AHeap.next_put]; omega),c_put_ne (by omega),c_alloc_ne (by omega),hKp b hb]
    simp -implicitDefEqProofs (maxDischargeDepth:=12) only [WW,List.replicate,e_splice,if_true,if_false,ite_true,ite_false,true_or,ne_eq,seval,h_putc,beq_self_eq_true,eq_self,exists_eq_left,exists_eq_left',g0,g1,g2,g3,g4,g5,hA,hB,hC,d0,d1,d2,hl,hones,ones_take hl]
    have apf : Apart fp fp1:=fun b hb hb2 => by
      have:=hE.lts b hb
      have:=hF1 b hb2; omega
    refine wA_app2 row_Event hE1 (by repeat (first | exact Keep.refl | refine Keep.put (by (try simp only [AHeap.next_alloc,AHeap.next_put]); omega) ?_ | refine Keep.alloc (by (try simp only [AHeap.next_alloc,AHeap.next_put]); omega) ?_)) (by simp) (ys:=[e]) (by simp) rfl (asrc_new rfl (by simpa using hl)) (fp1:=fp1) (by
      have : ([e].flatMap fun y => (Event.enc y).cells) = e.enc.cells:=by simp
      rw [this]
      exact ho.fr fun b hb => c_alloc_ne (by have:=ho.lts b hb; omega)) apf ?_ ?_
    · rw [l_of]; simp only [List.length_take,List.length_cons,List.length_nil]; omega
    intro v' H2 fp' hE' hn2 hk2 hfp2 ho2 hc2
    rw [of_take_succ he] at hE'
    have k0:=(hk2 q (fun h => by have:=hfp q h; omega) (by omega)).trans d0
    have k1:=(hk2 (q + 1) (fun h => by have:=hfp _ h; omega) (by omega)).trans d1
    have k2:=(hk2 (q + 2) (fun h => by have:=hfp _ h; omega) (by omega)).trans d2
    have hfp3 : ∀ b ∈ fp',q + 3 ≤ b:=fun b hb => by
      rcases hfp2 b hb with h | h | h
      · exact hfp b h
      · have:=hF1 b h; omega
      · omega
    simp -implicitDefEqProofs (maxDischargeDepth:=12) only [WW,List.replicate,e_splice,if_true,if_false,ite_true,ite_false,true_or,ne_eq,seval,h_putc,beq_self_eq_true,eq_self,exists_eq_left,exists_eq_left',e2,k0,k1,k2,ho2,hc2,nq2,mq2,mq12,mq21,nq1,mq1]
    refine ⟨k - 1,by omega,i + 1,fp',v',by omega,rfl,hE'.fr fun b hb => h_put_ne (by have:=hfp3 b hb; omega),hfp3,by omega,fun b hb => ?_,ex_x rfl⟩
    rw [h_put_ne (by omega),hk2 b (fun h => by have:=hfp b h; omega) (by omega),hK2 b hb]
  · have hi : i = x.events.l.length:=by omega
    subst hi
    rw [List.take_length] at hE
    have ea : alen (slm Tuplet.enc x.tuplets) = some x.tuplets.l.length:=e_alenm
    have es : ∀ H,asrc 4 H (slm Tuplet.enc x.tuplets) x.tuplets.l.length = some (x.tuplets.l.flatMap fun v => (Tuplet.enc v).cells):=fun H => by
      rw [e_srcm Tuplet.enc_len (Nat.le_refl _),List.take_length]
    have hbig : (2 * x.tuplets.l.length + 1000) * 32 ≤ 2 ^ 47:=by omega
    obtain ⟨g,og,kg⟩:=hE.own row_Event
    by_cases h0 : x.tuplets.l = []
    · have h0' : x.tuplets.l.length = 0:=by rw [h0]; rfl
      have es0 : ∀ H,asrc 4 H (slm Tuplet.enc x.tuplets) 0 = some []:=fun H => by have:=es H; rw [h0'] at this; rw [this,h0]; rfl
      simp -implicitDefEqProofs (maxDischargeDepth:=12) only [WW,List.replicate,e_splice,if_true,if_false,ite_true,ite_false,true_or,ne_eq,seval,h_putc,beq_self_eq_true,eq_self,exists_eq_left,exists_eq_left',hA,hB,hC,c1,appTo,ea,es0,h0',hE.one,hE.cells,nq1,nq2,mq1,mq2,mq12,mq21]
      refine ⟨_,_,rfl,.cons (og.frame fun b hb => ?_) (.cons (f:=[]) ?_ .nil Apart.nil_right) (by simpa using Apart.nil_right),rfl,?_,?_,?_,?_⟩
      · have:=hfp b (kg b hb)
        simp only [c_put_ne (show b ≠ q + 2 by omega),c_put_ne (show b ≠ q + 1 by omega)]
      · have e : slm Tuplet.enc x.cl.tuplets = .sc .nils:=by show slm Tuplet.enc (Sl.of x.tuplets.l) = _; rw [h0]; rfl
        rw [e]; exact OwnX.scal
      · simp only [AV.ones,List.all_cons,List.all_nil,hE.one,o_nils,Bool.and_self]
      · intro b hb
        simp only [List.append_nil] at hb
        have:=hfp b (kg b hb); omega
      · simp only [AHeap.next_put]; omega
      · intro b hb
        simp only [c_put_ne (show b ≠ q + 2 by omega),c_put_ne (show b ≠ q + 1 by omega)]
        exact hKp b (by omega)
    · have h1' : ¬ x.tuplets.l.length = 0:=by simpa using h0
      have row4 : RowOf 4 Tuplet.enc:=⟨by decide,fun _ => ⟨rfl,rfl⟩⟩
      simp -implicitDefEqProofs (maxDischargeDepth:=12) only [WW,List.replicate,e_splice,if_true,if_false,ite_true,ite_false,true_or,ne_eq,seval,h_putc,beq_self_eq_true,eq_self,exists_eq_left,exists_eq_left',hA,hB,hC,c1,appTo,ea,es,h1',hbig,hE.one,hE.cells,nq1,nq2,mq1,mq2,mq12,mq21,g0,g1,g2,g3,g4,g5]
      have hT : AccX false 1 4 Tuplet.enc (H.alloc (.cells (x.tuplets.l.flatMap fun v => (Tuplet.enc v).cells))) (.slice H.next 0 x.tuplets.l.length x.tuplets.l.length 4) (Sl.of x.tuplets.l) [H.next] :=
        .inr ⟨H.next,_,_,[],[],x.tuplets.l,by unfold Sl.of; rw [if_neg (by simpa using h0)],rfl,Nat.le_refl _,by simp -implicitDefEqProofs (maxDischargeDepth:=12) only [WW,List.replicate,e_splice,if_true,if_false,ite_true,ite_false,true_or,ne_eq,seval,h_putc,beq_self_eq_true,eq_self,exists_eq_left,exists_eq_left'],flat_len row4 _,by simp,OwnL.scal (by
          simp only [List.all_eq_true]
          intro v hv
          obtain ⟨z,_,hz⟩:=List.mem_flatMap.1 hv
          have : (Tuplet.enc z).cells.all AV.isSc = true:=rfl
          exact List.all_eq_true.1 this v hz),by simp,rfl⟩
      obtain ⟨gt,ot,kt⟩:=hT.own row4
      refine ⟨_,_,rfl,.cons (og.frame fun b hb => ?_) (.cons ((ot.mono (by decide)).frame fun b hb => ?_) .nil Apart.nil_right) ?_,rfl,?_,?_,?_,?_⟩
      · have:=hfp b (kg b hb)
        have:=hE.lts b (kg b hb)
        simp only [c_put_ne (show b ≠ q + 2 by omega),c_put_ne (show b ≠ q + 1 by omega),c_alloc_ne (show b ≠ H.next by omega)]
      · have:=kt b hb
        simp only [List.mem_singleton] at this
        simp only [c_put_ne (show b ≠ q + 2 by omega),c_put_ne (show b ≠ q + 1 by omega)]
      · intro b hb hb2
        simp only [List.append_nil] at hb2
        have:=hE.lts b (kg b hb)
        have:=kt b hb2
        simp only [List.mem_singleton] at this
        omega
      · simp only [AV.ones,List.all_cons,List.all_nil,hE.one,o_slice,Bool.and_self]
      · intro b hb
        simp only [List.append_nil,List.mem_append] at hb
        rcases hb with h | h
        · have:=hfp b (kg b h); omega
        · have:=kt b h
          simp only [List.mem_singleton] at this
          omega
      · simp only [AHeap.next_put,AHeap.next_alloc]; omega
      · intro b hb
        simp only [c_put_ne (show b ≠ q + 2 by omega),c_put_ne (show b ≠ q + 1 by omega),c_alloc_ne (show b ≠ H.next by omega)]
        exact hKp b (by omega)
end Go.Hem
