/- Walks. -/
import Derived.Test.YtipbkcegnkpcmaaWalks1
set_option maxRecDepth 10000
set_option maxHeartbeats 4000000
set_option linter.unusedSimpArgs false
set_option linter.unusedVariables false
namespace Go.Hem
noncomputable section
theorem Note.tr_tame {i : Interval} {x : Note} (h : x.tame) : (x.tr i).tame:=⟨by rw [tr_heads,List.length_map]; exact h.heads,by rw [tr_graces,List.length_map]; exact h.graces,h.lyrics,h.text⟩
theorem transC_tame {c : Clip} (tc : c.tame) {i : Interval} : (transC c i).tame:=by
  unfold transC
  split
  · refine ⟨by rw [l_of,List.length_map]; exact tc.1,fun x hx => ?_⟩
    rw [l_of] at hx
    obtain ⟨y,hy,rfl⟩:=List.mem_map.1 hx
    exact Note.tr_tame (tc.2 y hy)
  · exact noClip_tame
theorem heads_ne' {n : Note} (h : chordE n = 0) : n.heads.l ≠ []:=fun e => by
  have:=(chordE_parts h).1
  rw [e] at this
  unfold headsE at this
  simp at this
theorem law8_pv (c : Clip) (i : Interval) : Pv prog polS 8 [c.enc,i.enc] (.sc (.bool true)):=by
  refine Pv_of' ok8 (by simp only [AV.closedBs,Clip.enc_closed,Interval.enc_closed,Bool.and_self]) ?_
  simp -implicitDefEqProofs (maxDischargeDepth:=12) only [wpF,cf8,WW,List.replicate,Option.some_or,s_conv,e_conv,s_slc3,e_cut3,e_cut3n,e_bns,e_bnn,e_splice,if_true,if_false,ite_true,ite_false,true_or,ne_eq,seval,h_putc,beq_self_eq_true,eq_self,exists_eq_left,exists_eq_left',c.enc_eq,i.enc_eq]
  refine wA_pure rfl known_pv ?_
  simp -implicitDefEqProofs (maxDischargeDepth:=12) only [WW,List.replicate,Option.some_or,s_conv,e_conv,s_slc3,e_cut3,e_cut3n,e_bns,e_bnn,e_splice,if_true,if_false,ite_true,ite_false,true_or,ne_eq,seval,h_putc,beq_self_eq_true,eq_self,exists_eq_left,exists_eq_left',c.enc_eq]
  rw [← c.enc_eq]
  refine wA_pure rfl (small_pv c) ?_
  cases hc : c.smallB with
  | false =>
    simp -implicitDefEqProofs (maxDischargeDepth:=12) only [WW,List.replicate,Option.some_or,s_conv,e_conv,s_slc3,e_cut3,e_cut3n,e_bns,e_bnn,e_splice,if_true,if_false,ite_true,ite_false,true_or,ne_eq,seval,h_putc,beq_self_eq_true,eq_self,exists_eq_left,exists_eq_left']
    refine wA_pure rfl known_pv ?_
    simp -implicitDefEqProofs (maxDischargeDepth:=12) only [WW,List.replicate,Option.some_or,s_conv,e_conv,s_slc3,e_cut3,e_cut3n,e_bns,e_bnn,e_splice,if_true,if_false,ite_true,ite_false,true_or,ne_eq,seval,h_putc,beq_self_eq_true,eq_self,exists_eq_left,exists_eq_left']
    exact frz_sc
  | true =>
  have tc:=smallB_tame hc
  simp -implicitDefEqProofs (maxDischargeDepth:=12) only [WW,List.replicate,Option.some_or,s_conv,e_conv,s_slc3,e_cut3,e_cut3n,e_bns,e_bnn,e_splice,if_true,if_false,ite_true,ite_false,true_or,ne_eq,seval,h_putc,beq_self_eq_true,eq_self,exists_eq_left,exists_eq_left',c.enc_eq,i.enc_eq]
  rw [← c.enc_eq,← i.enc_eq]
  refine wA_pure rfl (transp_pv c tc i) ?_
  have hX:=transC_tame tc (i:=i)
  have hXd : transC c i = if transE c i = 0 then ⟨c.len,Sl.of (c.notes.l.map (Note.tr i))⟩ else noClip:=rfl
  generalize transC c i = X at hX hXd
  generalize hE : transE c i = E at hXd
  unfold transE at hE
  simp -implicitDefEqProofs (maxDischargeDepth:=12) only [WW,List.replicate,Option.some_or,s_conv,e_conv,s_slc3,e_cut3,e_cut3n,e_bns,e_bnn,e_splice,if_true,if_false,ite_true,ite_false,true_or,ne_eq,seval,h_putc,beq_self_eq_true,eq_self,exists_eq_left,exists_eq_left',c.enc_eq,X.enc_eq]
  rw [← c.enc_eq]
  refine wA_pure rfl (rcheck_pv c tc) ?_
  rw [← X.enc_eq]
  by_cases h1 : checkE c = 0
  rotate_left
  · rw [if_pos h1] at hE; subst hE
    have hXv : X = noClip:=by rw [hXd,if_neg h1]
    rw [hXv]
    simp -implicitDefEqProofs (maxDischargeDepth:=12) only [WW,List.replicate,Option.some_or,s_conv,e_conv,s_slc3,e_cut3,e_cut3n,e_bns,e_bnn,e_splice,if_true,if_false,ite_true,ite_false,true_or,ne_eq,seval,h_putc,beq_self_eq_true,eq_self,exists_eq_left,exists_eq_left',h1,noClip_enc,c.enc_eq]
    rw [← noClip_enc]
    refine wA_pure rfl (same_pv noClip noClip noClip_tame.1 (chord_tames noClip_tame)) ?_
    simp -implicitDefEqProofs (maxDischargeDepth:=12) only [WW,List.replicate,Option.some_or,s_conv,e_conv,s_slc3,e_cut3,e_cut3n,e_bns,e_bnn,e_splice,if_true,if_false,ite_true,ite_false,true_or,ne_eq,seval,h_putc,beq_self_eq_true,eq_self,exists_eq_left,exists_eq_left']
    exact frz_sc
  rw [if_neg (by simpa using h1)] at hE
  simp -implicitDefEqProofs (maxDischargeDepth:=12) only [WW,List.replicate,Option.some_or,s_conv,e_conv,s_slc3,e_cut3,e_cut3n,e_bns,e_bnn,e_splice,if_true,if_false,ite_true,ite_false,true_or,ne_eq,seval,h_putc,beq_self_eq_true,eq_self,exists_eq_left,exists_eq_left',eq_true h1,i.enc_eq]
  rw [← i.enc_eq]
  refine wA_pure rfl (icheck_pv i) ?_
  by_cases hi : i.ok
  rotate_left
  · rw [if_pos hi] at hE; subst hE
    rw [if_neg hi]
    have hXv : X = noClip:=by rw [hXd,if_neg (by decide)]
    rw [hXv]
    simp -implicitDefEqProofs (maxDischargeDepth:=12) only [WW,List.replicate,Option.some_or,s_conv,e_conv,s_slc3,e_cut3,e_cut3n,e_bns,e_bnn,e_splice,if_true,if_false,ite_true,ite_false,true_or,ne_eq,seval,h_putc,beq_self_eq_true,eq_self,exists_eq_left,exists_eq_left',X.enc_eq,noClip_enc,c.enc_eq]
    rw [← noClip_enc]
    refine wA_pure rfl (same_pv noClip noClip noClip_tame.1 (chord_tames noClip_tame)) ?_
    simp -implicitDefEqProofs (maxDischargeDepth:=12) only [WW,List.replicate,Option.some_or,s_conv,e_conv,s_slc3,e_cut3,e_cut3n,e_bns,e_bnn,e_splice,if_true,if_false,ite_true,ite_false,true_or,ne_eq,seval,h_putc,beq_self_eq_true,eq_self,exists_eq_left,exists_eq_left']
    exact frz_sc
  rw [if_neg (by simpa using hi)] at hE
  rw [if_pos hi]
  have g:=good_of h1
  have hc4 : c.notes.l.length ≤ 4096:=by unfold Clip.smallB at hc; simp only [Bool.and_eq_true,decide_eq_true_eq] at hc; omega
  simp -implicitDefEqProofs (maxDischargeDepth:=12) only [WW,List.replicate,Option.some_or,s_conv,e_conv,s_slc3,e_cut3,e_cut3n,e_bns,e_bnn,e_splice,if_true,if_false,ite_true,ite_false,true_or,ne_eq,seval,h_putc,beq_self_eq_true,eq_self,exists_eq_left,exists_eq_left',c.enc_eq,X.enc_eq]
  refine wp_loop (Inv:=fun k t H => ∃ (n : Nat),n + k = c.notes.l.length∧(c.notes.l.take n).any (failN i) = false∧H.cells 0 = some c.enc.cells∧H.cells 1 = some i.enc.cells∧H.cells 2 = some X.enc.cells∧3 ≤ H.next ∧
    ∃ y : Nat→AV,t = [c.enc,i.enc,.ptr 0 0,.ptr 1 0,.sc (.bool false),.ptr 2 0,.sc (.int .i64 E),y 7,.sc (.int .i64 n),y 9,y 10,y 11,y 12,y 13,y 14,y 15,y 16,y 17,y 18,y 19,y 20,y 21,y 22,y 23,y 24,y 25,y 26,y 27,y 28,y 29,y 30,y 31,y 32,y 33,y 34,y 35,y 36,y 37,y 38,y 39,y 40,y 41,y 42,y 43,y 44,y 45,y 46,y 47,y 48,y 49,y 50,y 51,y 52,y 53,y 54,y 55,y 56,y 57,y 58,y 59,y 60,y 61,y 62,y 63,y 64,y 65,y 66,y 67,y 68,y 69,y 70,y 71,y 72,y 73,y 74,y 75,y 76,y 77,y 78,y 79,y 80,y 81,y 82,y 83,y 84,y 85,y 86,y 87,y 88,y 89,y 90,y 91,y 92,y 93,y 94,y 95,y 96,y 97,y 98,y 99,y 100,y 101,y 102,y 103,y 104,y 105,y 106,y 107,y 108,y 109,y 110,y 111,y 112,y 113,y 114,y 115,y 116,y 117,y 118,y 119,y 120,y 121,y 122,y 123,y 124,y 125,y 126,y 127,y 128,y 129,y 130,y 131,y 132,y 133,y 134,y 135,y 136,y 137,y 138,y 139,y 140,y 141,y 142,y 143,y 144,y 145,y 146,y 147,y 148,y 149,y 150,y 151,y 152,y 153,y 154,y 155,y 156,y 157,y 158,y 159,y 160,y 161,y 162,y 163,y 164,y 165,y 166,y 167,y 168,y 169,y 170,y 171,y 172,y 173,y 174,y 175,y 176,y 177,y 178,y 179,y 180,y 181,y 182,y 183,y 184,y 185,y 186,y 187,y 188,y 189,y 190,y 191,y 192,y 193,y 194,y 195,y 196,y 197,y 198,y 199,y 200,y 201,y 202,y 203,y 204,y 205,y 206,y 207,y 208,y 209,y 210,y 211,y 212,y 213,y 214,y 215,y 216,y 217,y 218,y 219,y 220,y 221,y 222,y 223,y 224,y 225,y 226,y 227,y 228,y 229,y 230,y 231,y 232,y 233,y 234,y 235,y 236,y 237,y 238,y 239,y 240,y 241,y 242,y 243,y 244,y 245,y 246,y 247,y 248,y 249,y 250,y 251,y 252,y 253,y 254,y 255,y 256,y 257,y 258,y 259,y 260,y 261,y 262,y 263,y 264,y 265,y 266,y 267,y 268,y 269,y 270,y 271]) (k:=c.notes.l.length) ?_ ⟨0,by omega,by simp,?_,?_,?_,?_,ex_x rfl⟩
  rotate_left
  · simp -implicitDefEqProofs (maxDischargeDepth:=12) only [WW,List.replicate,Option.some_or,s_conv,e_conv,s_slc3,e_cut3,e_cut3n,e_bns,e_bnn,e_splice,if_true,if_false,ite_true,ite_false,true_or,ne_eq,seval,h_putc,beq_self_eq_true,eq_self,exists_eq_left,exists_eq_left',c.enc_eq]
  · simp -implicitDefEqProofs (maxDischargeDepth:=12) only [WW,List.replicate,Option.some_or,s_conv,e_conv,s_slc3,e_cut3,e_cut3n,e_bns,e_bnn,e_splice,if_true,if_false,ite_true,ite_false,true_or,ne_eq,seval,h_putc,beq_self_eq_true,eq_self,exists_eq_left,exists_eq_left',i.enc_eq]
  · simp -implicitDefEqProofs (maxDischargeDepth:=12) only [WW,List.replicate,Option.some_or,s_conv,e_conv,s_slc3,e_cut3,e_cut3n,e_bns,e_bnn,e_splice,if_true,if_false,ite_true,ite_false,true_or,ne_eq,seval,h_putc,beq_self_eq_true,eq_self,exists_eq_left,exists_eq_left',X.enc_eq]
  · simp only [AHeap.next_put,AHeap.next_alloc]; decide
  rintro k t H ⟨n,hk,hnf,p0,p1,p2,hN,y,rfl⟩
  simp only [c.enc_eq,i.enc_eq,X.enc_eq,c_agg] at p0 p1 p2
  cases hw : trF c i with
  | true =>
    rw [hw,if_pos rfl] at hE; subst hE
    have hXv : X = noClip:=by rw [hXd,if_neg (by decide)]
    have ene : ∀ {p : Pitch},p.ok→trE i p ≠ 0→trE i p = 18:=fun hp h => tr_18 hp hi h
    by_cases c1 : (n : Int) < (c.notes.l.length : Int)
    rotate_left
    · rw [List.take_of_length_le (by omega)] at hnf
      unfold trF at hw
      rw [hnf] at hw; cases hw
    obtain ⟨x,hx⟩ : ∃ x,c.notes.l[n]? = some x:=⟨_,List.getElem?_eq_getElem (by omega)⟩
    have e2 : IntKind.i64.wrap ((n : Int) + 1) = ((n + 1 : Nat) : Int):=by rw [w64 (by omega) (by omega)]; omega
    have xm:=List.mem_of_getElem? hx
    have tx:=tc.2 x xm
    obtain ⟨okh,okg⟩:=okP_of (g.row.fit x xm).ok
    have nl : n < c.notes.l.length:=by omega
    simp -implicitDefEqProofs (maxDischargeDepth:=12) only [WW,List.replicate,Option.some_or,s_conv,e_conv,s_slc3,e_cut3,e_cut3n,e_bns,e_bnn,e_splice,if_true,if_false,ite_true,ite_false,true_or,ne_eq,seval,h_putc,beq_self_eq_true,eq_self,exists_eq_left,exists_eq_left',p0,c1]
    refine wp_loopZ 2 (Inv:=fun k2 t H' => ∃ (j : Nat),j + k2 = x.heads.l.length∧(x.heads.l.take j).any (failH i) = false∧H'.cells 0 = some c.enc.cells∧H'.cells 1 = some i.enc.cells∧H'.cells 2 = some X.enc.cells∧3 ≤ H'.next ∧
        ∃ y : Nat→AV,t = [c.enc,i.enc,.ptr 0 0,.ptr 1 0,.sc (.bool false),.ptr 2 0,.sc (.int .i64 18),y 7,.sc (.int .i64 n),.sc (.int .i64 j),y 10,y 11,y 12,y 13,y 14,y 15,y 16,y 17,y 18,y 19,y 20,y 21,y 22,y 23,y 24,y 25,y 26,y 27,y 28,y 29,y 30,y 31,y 32,y 33,y 34,y 35,y 36,y 37,y 38,y 39,y 40,y 41,y 42,y 43,y 44,y 45,y 46,y 47,y 48,y 49,y 50,y 51,y 52,y 53,y 54,y 55,y 56,y 57,y 58,y 59,y 60,y 61,y 62,y 63,y 64,y 65,y 66,y 67,y 68,y 69,y 70,y 71,y 72,y 73,y 74,y 75,y 76,y 77,y 78,y 79,y 80,y 81,y 82,y 83,y 84,y 85,y 86,y 87,y 88,y 89,y 90,y 91,y 92,y 93,y 94,y 95,y 96,y 97,y 98,y 99,y 100,y 101,y 102,y 103,y 104,y 105,y 106,y 107,y 108,y 109,y 110,y 111,y 112,y 113,y 114,y 115,y 116,y 117,y 118,y 119,y 120,y 121,y 122,y 123,y 124,y 125,y 126,y 127,y 128,y 129,y 130,y 131,y 132,y 133,y 134,y 135,y 136,y 137,y 138,y 139,y 140,y 141,y 142,y 143,y 144,y 145,y 146,y 147,y 148,y 149,y 150,y 151,y 152,y 153,y 154,y 155,y 156,y 157,y 158,y 159,y 160,y 161,y 162,y 163,y 164,y 165,y 166,y 167,y 168,y 169,y 170,y 171,y 172,y 173,y 174,y 175,y 176,y 177,y 178,y 179,y 180,y 181,y 182,y 183,y 184,y 185,y 186,y 187,y 188,y 189,y 190,y 191,y 192,y 193,y 194,y 195,y 196,y 197,y 198,y 199,y 200,y 201,y 202,y 203,y 204,y 205,y 206,y 207,y 208,y 209,y 210,y 211,y 212,y 213,y 214,y 215,y 216,y 217,y 218,y 219,y 220,y 221,y 222,y 223,y 224,y 225,y 226,y 227,y 228,y 229,y 230,y 231,y 232,y 233,y 234,y 235,y 236,y 237,y 238,y 239,y 240,y 241,y 242,y 243,y 244,y 245,y 246,y 247,y 248,y 249,y 250,y 251,y 252,y 253,y 254,y 255,y 256,y 257,y 258,y 259,y 260,y 261,y 262,y 263,y 264,y 265,y 266,y 267,y 268,y 269,y 270,y 271])
      (Ex:=fun t H' => x.heads.l.any (failH i) = false∧H'.cells 0 = some c.enc.cells∧H'.cells 1 = some i.enc.cells∧H'.cells 2 = some X.enc.cells∧3 ≤ H'.next ∧
        ∃ y : Nat→AV,t = [c.enc,i.enc,.ptr 0 0,.ptr 1 0,.sc (.bool false),.ptr 2 0,.sc (.int .i64 18),y 7,.sc (.int .i64 n),y 9,y 10,y 11,y 12,y 13,y 14,y 15,y 16,y 17,y 18,y 19,y 20,y 21,y 22,y 23,y 24,y 25,y 26,y 27,y 28,y 29,y 30,y 31,y 32,y 33,y 34,y 35,y 36,y 37,y 38,y 39,y 40,y 41,y 42,y 43,y 44,y 45,y 46,y 47,y 48,y 49,y 50,y 51,y 52,y 53,y 54,y 55,y 56,y 57,y 58,y 59,y 60,y 61,y 62,y 63,y 64,y 65,y 66,y 67,y 68,y 69,y 70,y 71,y 72,y 73,y 74,y 75,y 76,y 77,y 78,y 79,y 80,y 81,y 82,y 83,y 84,y 85,y 86,y 87,y 88,y 89,y 90,y 91,y 92,y 93,y 94,y 95,y 96,y 97,y 98,y 99,y 100,y 101,y 102,y 103,y 104,y 105,y 106,y 107,y 108,y 109,y 110,y 111,y 112,y 113,y 114,y 115,y 116,y 117,y 118,y 119,y 120,y 121,y 122,y 123,y 124,y 125,y 126,y 127,y 128,y 129,y 130,y 131,y 132,y 133,y 134,y 135,y 136,y 137,y 138,y 139,y 140,y 141,y 142,y 143,y 144,y 145,y 146,y 147,y 148,y 149,y 150,y 151,y 152,y 153,y 154,y 155,y 156,y 157,y 158,y 159,y 160,y 161,y 162,y 163,y 164,y 165,y 166,y 167,y 168,y 169,y 170,y 171,y 172,y 173,y 174,y 175,y 176,y 177,y 178,y 179,y 180,y 181,y 182,y 183,y 184,y 185,y 186,y 187,y 188,y 189,y 190,y 191,y 192,y 193,y 194,y 195,y 196,y 197,y 198,y 199,y 200,y 201,y 202,y 203,y 204,y 205,y 206,y 207,y 208,y 209,y 210,y 211,y 212,y 213,y 214,y 215,y 216,y 217,y 218,y 219,y 220,y 221,y 222,y 223,y 224,y 225,y 226,y 227,y 228,y 229,y 230,y 231,y 232,y 233,y 234,y 235,y 236,y 237,y 238,y 239,y 240,y 241,y 242,y 243,y 244,y 245,y 246,y 247,y 248,y 249,y 250,y 251,y 252,y 253,y 254,y 255,y 256,y 257,y 258,y 259,y 260,y 261,y 262,y 263,y 264,y 265,y 266,y 267,y 268,y 269,y 270,y 271]) (k:=x.heads.l.length) ?_ ?_
      ⟨0,by omega,by simp,p0,p1,p2,hN,ex_x rfl⟩
    · clear y
      rintro k2 t H' ⟨j,hk2,hjf,q0,q1,q2,hN',y,rfl⟩
      simp only [c.enc_eq,i.enc_eq,X.enc_eq,c_agg] at q0 q1 q2
      by_cases d1 : (j : Int) < (x.heads.l.length : Int)
      rotate_left
      · rw [List.take_of_length_le (by omega)] at hjf
        simp -implicitDefEqProofs (maxDischargeDepth:=12) only [WW,List.replicate,Option.some_or,s_conv,e_conv,s_slc3,e_cut3,e_cut3n,e_bns,e_bnn,if_true,if_false,ite_true,ite_false,true_or,ne_eq,seval,beq_self_eq_true,eq_self,exists_eq_left,exists_eq_left',q0,hx,x.enc_eq,nl,d1,exC_exit]
        exact ⟨hjf,rfl,q1,q2,hN',ex_x rfl⟩
      obtain ⟨h,hj⟩ : ∃ y,x.heads.l[j]? = some y:=⟨_,List.getElem?_eq_getElem (by omega)⟩
      have e3 : IntKind.i64.wrap ((j : Int) + 1) = ((j + 1 : Nat) : Int):=by rw [w64 (by omega) (by have:=tx.heads; omega)]; omega
      have jl : j < x.heads.l.length:=by omega
      simp -implicitDefEqProofs (maxDischargeDepth:=12) only [WW,List.replicate,Option.some_or,s_conv,e_conv,s_slc3,e_cut3,e_cut3n,e_bns,e_bnn,if_true,if_false,ite_true,ite_false,true_or,ne_eq,seval,beq_self_eq_true,eq_self,exists_eq_left,exists_eq_left',q0,q1,hx,x.enc_eq,nl,d1,jl,hj,h.enc_eq]
      generalize hq : H'.next = q at hN'
      generalize hH1 : AHeap.alloc H' _ = H1
      have n1 : H1.next = q + 1:=by subst hH1; simp only [AHeap.next_alloc,hq]
      have k1 : ∀ b,b < q→H1.cells b = H'.cells b:=fun b hb => by subst hH1; rw [c_alloc_ne (by omega)]
      have cq:=congrArg (fun h => AHeap.cells h q) hH1
      simp -implicitDefEqProofs (maxDischargeDepth:=12) only [WW,List.replicate,Option.some_or,s_conv,e_conv,s_slc3,e_cut3,e_cut3n,e_bns,e_bnn,e_splice,if_true,if_false,ite_true,ite_false,true_or,ne_eq,seval,h_putc,beq_self_eq_true,eq_self,exists_eq_left,exists_eq_left',hq] at cq
      replace cq:=cq.symm
      clear hH1
      have r0:=(k1 0 (by omega)).trans q0
      have r1:=(k1 1 (by omega)).trans q1
      have r2:=(k1 2 (by omega)).trans q2
      rw [← h.pitch.enc_eq,← i.enc_eq]
      refine wA_pure rfl (tr_pv (okh h (List.mem_of_getElem? hj)) hi) ?_
      by_cases t0 : trE i h.pitch = 0
      · have ejf : (x.heads.l.take (j + 1)).any (failH i) = false:=by
          rw [List.take_add_one,hj,List.any_append,hjf]; simp [failH,t0]
        simp -implicitDefEqProofs (maxDischargeDepth:=12) only [WW,List.replicate,Option.some_or,s_conv,e_conv,s_slc3,e_cut3,e_cut3n,e_bns,e_bnn,if_true,if_false,ite_true,ite_false,true_or,ne_eq,seval,beq_self_eq_true,eq_self,exists_eq_left,exists_eq_left',t0,(trQ i h.pitch).enc_eq,cq,e3]
        refine ⟨k2 - 1,by omega,j + 1,by omega,ejf,?_,?_,?_,?_,ex_x rfl⟩
        · rw [c_put_ne (by omega)]; exact r0
        · rw [c_put_ne (by omega)]; exact r1
        · rw [c_put_ne (by omega)]; exact r2
        · omega
      · have t18:=ene (okh h (List.mem_of_getElem? hj)) t0
        have c2x : ∀ z,(H1.put q (some (.cells z))).cells 2 = H1.cells 2:=fun z => c_put_ne (by omega)
        simp -implicitDefEqProofs (maxDischargeDepth:=12) only [WW,List.replicate,Option.some_or,s_conv,e_conv,s_slc3,e_cut3,e_cut3n,e_bns,e_bnn,if_true,if_false,ite_true,ite_false,true_or,ne_eq,seval,beq_self_eq_true,eq_self,exists_eq_left,exists_eq_left',t18,(trQ i h.pitch).enc_eq,cq,exC_ret,c2x,r2]
        rw [← X.enc_eq,hXv]
        refine wA_pure rfl (same_pv noClip noClip noClip_tame.1 (chord_tames noClip_tame)) ?_
        simp -implicitDefEqProofs (maxDischargeDepth:=12) only [WW,List.replicate,Option.some_or,s_conv,e_conv,s_slc3,e_cut3,e_cut3n,e_bns,e_bnn,e_splice,if_true,if_false,ite_true,ite_false,true_or,ne_eq,seval,h_putc,beq_self_eq_true,eq_self,exists_eq_left,exists_eq_left',exC_ret]
        exact frz_sc
    clear y
    rintro t H4 ⟨hhf,p0,p1,p2,hN,y,rfl⟩
    simp only [c.enc_eq,i.enc_eq,X.enc_eq,c_agg] at p0 p1 p2
    simp -implicitDefEqProofs (maxDischargeDepth:=12) only [WW,List.replicate,Option.some_or,s_conv,e_conv,s_slc3,e_cut3,e_cut3n,e_bns,e_bnn,e_splice,if_true,if_false,ite_true,ite_false,true_or,ne_eq,seval,h_putc,beq_self_eq_true,eq_self,exists_eq_left,exists_eq_left']
    refine wp_loopZ 4 (Inv:=fun k2 t H' => ∃ (j : Nat),j + k2 = x.graces.l.length∧(x.graces.l.take j).any (failG i) = false∧H'.cells 0 = some c.enc.cells∧H'.cells 1 = some i.enc.cells∧H'.cells 2 = some X.enc.cells∧3 ≤ H'.next ∧
        ∃ y : Nat→AV,t = [c.enc,i.enc,.ptr 0 0,.ptr 1 0,.sc (.bool false),.ptr 2 0,.sc (.int .i64 18),y 7,.sc (.int .i64 n),y 9,y 10,y 11,.sc (.int .i64 j),y 13,y 14,y 15,y 16,y 17,y 18,y 19,y 20,y 21,y 22,y 23,y 24,y 25,y 26,y 27,y 28,y 29,y 30,y 31,y 32,y 33,y 34,y 35,y 36,y 37,y 38,y 39,y 40,y 41,y 42,y 43,y 44,y 45,y 46,y 47,y 48,y 49,y 50,y 51,y 52,y 53,y 54,y 55,y 56,y 57,y 58,y 59,y 60,y 61,y 62,y 63,y 64,y 65,y 66,y 67,y 68,y 69,y 70,y 71,y 72,y 73,y 74,y 75,y 76,y 77,y 78,y 79,y 80,y 81,y 82,y 83,y 84,y 85,y 86,y 87,y 88,y 89,y 90,y 91,y 92,y 93,y 94,y 95,y 96,y 97,y 98,y 99,y 100,y 101,y 102,y 103,y 104,y 105,y 106,y 107,y 108,y 109,y 110,y 111,y 112,y 113,y 114,y 115,y 116,y 117,y 118,y 119,y 120,y 121,y 122,y 123,y 124,y 125,y 126,y 127,y 128,y 129,y 130,y 131,y 132,y 133,y 134,y 135,y 136,y 137,y 138,y 139,y 140,y 141,y 142,y 143,y 144,y 145,y 146,y 147,y 148,y 149,y 150,y 151,y 152,y 153,y 154,y 155,y 156,y 157,y 158,y 159,y 160,y 161,y 162,y 163,y 164,y 165,y 166,y 167,y 168,y 169,y 170,y 171,y 172,y 173,y 174,y 175,y 176,y 177,y 178,y 179,y 180,y 181,y 182,y 183,y 184,y 185,y 186,y 187,y 188,y 189,y 190,y 191,y 192,y 193,y 194,y 195,y 196,y 197,y 198,y 199,y 200,y 201,y 202,y 203,y 204,y 205,y 206,y 207,y 208,y 209,y 210,y 211,y 212,y 213,y 214,y 215,y 216,y 217,y 218,y 219,y 220,y 221,y 222,y 223,y 224,y 225,y 226,y 227,y 228,y 229,y 230,y 231,y 232,y 233,y 234,y 235,y 236,y 237,y 238,y 239,y 240,y 241,y 242,y 243,y 244,y 245,y 246,y 247,y 248,y 249,y 250,y 251,y 252,y 253,y 254,y 255,y 256,y 257,y 258,y 259,y 260,y 261,y 262,y 263,y 264,y 265,y 266,y 267,y 268,y 269,y 270,y 271])
      (Ex:=fun t H' => x.graces.l.any (failG i) = false∧H'.cells 0 = some c.enc.cells∧H'.cells 1 = some i.enc.cells∧H'.cells 2 = some X.enc.cells∧3 ≤ H'.next ∧
        ∃ y : Nat→AV,t = [c.enc,i.enc,.ptr 0 0,.ptr 1 0,.sc (.bool false),.ptr 2 0,.sc (.int .i64 18),y 7,.sc (.int .i64 n),y 9,y 10,y 11,y 12,y 13,y 14,y 15,y 16,y 17,y 18,y 19,y 20,y 21,y 22,y 23,y 24,y 25,y 26,y 27,y 28,y 29,y 30,y 31,y 32,y 33,y 34,y 35,y 36,y 37,y 38,y 39,y 40,y 41,y 42,y 43,y 44,y 45,y 46,y 47,y 48,y 49,y 50,y 51,y 52,y 53,y 54,y 55,y 56,y 57,y 58,y 59,y 60,y 61,y 62,y 63,y 64,y 65,y 66,y 67,y 68,y 69,y 70,y 71,y 72,y 73,y 74,y 75,y 76,y 77,y 78,y 79,y 80,y 81,y 82,y 83,y 84,y 85,y 86,y 87,y 88,y 89,y 90,y 91,y 92,y 93,y 94,y 95,y 96,y 97,y 98,y 99,y 100,y 101,y 102,y 103,y 104,y 105,y 106,y 107,y 108,y 109,y 110,y 111,y 112,y 113,y 114,y 115,y 116,y 117,y 118,y 119,y 120,y 121,y 122,y 123,y 124,y 125,y 126,y 127,y 128,y 129,y 130,y 131,y 132,y 133,y 134,y 135,y 136,y 137,y 138,y 139,y 140,y 141,y 142,y 143,y 144,y 145,y 146,y 147,y 148,y 149,y 150,y 151,y 152,y 153,y 154,y 155,y 156,y 157,y 158,y 159,y 160,y 161,y 162,y 163,y 164,y 165,y 166,y 167,y 168,y 169,y 170,y 171,y 172,y 173,y 174,y 175,y 176,y 177,y 178,y 179,y 180,y 181,y 182,y 183,y 184,y 185,y 186,y 187,y 188,y 189,y 190,y 191,y 192,y 193,y 194,y 195,y 196,y 197,y 198,y 199,y 200,y 201,y 202,y 203,y 204,y 205,y 206,y 207,y 208,y 209,y 210,y 211,y 212,y 213,y 214,y 215,y 216,y 217,y 218,y 219,y 220,y 221,y 222,y 223,y 224,y 225,y 226,y 227,y 228,y 229,y 230,y 231,y 232,y 233,y 234,y 235,y 236,y 237,y 238,y 239,y 240,y 241,y 242,y 243,y 244,y 245,y 246,y 247,y 248,y 249,y 250,y 251,y 252,y 253,y 254,y 255,y 256,y 257,y 258,y 259,y 260,y 261,y 262,y 263,y 264,y 265,y 266,y 267,y 268,y 269,y 270,y 271]) (k:=x.graces.l.length) ?_ ?_
      ⟨0,by omega,by simp,p0,p1,p2,hN,ex_x rfl⟩
    · clear y
      rintro k2 t H' ⟨j,hk2,hjf,q0,q1,q2,hN',y,rfl⟩
      simp only [c.enc_eq,i.enc_eq,X.enc_eq,c_agg] at q0 q1 q2
      by_cases d1 : (j : Int) < (x.graces.l.length : Int)
      rotate_left
      · rw [List.take_of_length_le (by omega)] at hjf
        simp -implicitDefEqProofs (maxDischargeDepth:=12) only [WW,List.replicate,Option.some_or,s_conv,e_conv,s_slc3,e_cut3,e_cut3n,e_bns,e_bnn,if_true,if_false,ite_true,ite_false,true_or,ne_eq,seval,beq_self_eq_true,eq_self,exists_eq_left,exists_eq_left',q0,hx,x.enc_eq,nl,d1,exC_exit]
        exact ⟨hjf,rfl,q1,q2,hN',ex_x rfl⟩
      obtain ⟨h,hj⟩ : ∃ y,x.graces.l[j]? = some y:=⟨_,List.getElem?_eq_getElem (by omega)⟩
      have e3 : IntKind.i64.wrap ((j : Int) + 1) = ((j + 1 : Nat) : Int):=by rw [w64 (by omega) (by have:=tx.graces; omega)]; omega
      have jl : j < x.graces.l.length:=by omega
      simp -implicitDefEqProofs (maxDischargeDepth:=12) only [WW,List.replicate,Option.some_or,s_conv,e_conv,s_slc3,e_cut3,e_cut3n,e_bns,e_bnn,if_true,if_false,ite_true,ite_false,true_or,ne_eq,seval,beq_self_eq_true,eq_self,exists_eq_left,exists_eq_left',q0,q1,hx,x.enc_eq,nl,d1,jl,hj,h.enc_eq]
      generalize hq : H'.next = q at hN'
      generalize hH1 : AHeap.alloc H' _ = H1
      have n1 : H1.next = q + 1:=by subst hH1; simp only [AHeap.next_alloc,hq]
      have k1 : ∀ b,b < q→H1.cells b = H'.cells b:=fun b hb => by subst hH1; rw [c_alloc_ne (by omega)]
      have cq:=congrArg (fun h => AHeap.cells h q) hH1
      simp -implicitDefEqProofs (maxDischargeDepth:=12) only [WW,List.replicate,Option.some_or,s_conv,e_conv,s_slc3,e_cut3,e_cut3n,e_bns,e_bnn,e_splice,if_true,if_false,ite_true,ite_false,true_or,ne_eq,seval,h_putc,beq_self_eq_true,eq_self,exists_eq_left,exists_eq_left',hq] at cq
      replace cq:=cq.symm
      clear hH1
      have r0:=(k1 0 (by omega)).trans q0
      have r1:=(k1 1 (by omega)).trans q1
      have r2:=(k1 2 (by omega)).trans q2
      rw [← h.pitch.enc_eq,← i.enc_eq]
      refine wA_pure rfl (tr_pv (okg h (List.mem_of_getElem? hj)) hi) ?_
      by_cases t0 : trE i h.pitch = 0
      · have ejf : (x.graces.l.take (j + 1)).any (failG i) = false:=by
          rw [List.take_add_one,hj,List.any_append,hjf]; simp [failG,t0]
        simp -implicitDefEqProofs (maxDischargeDepth:=12) only [WW,List.replicate,Option.some_or,s_conv,e_conv,s_slc3,e_cut3,e_cut3n,e_bns,e_bnn,if_true,if_false,ite_true,ite_false,true_or,ne_eq,seval,beq_self_eq_true,eq_self,exists_eq_left,exists_eq_left',t0,(trQ i h.pitch).enc_eq,cq,e3]
        refine ⟨k2 - 1,by omega,j + 1,by omega,ejf,?_,?_,?_,?_,ex_x rfl⟩
        · rw [c_put_ne (by omega)]; exact r0
        · rw [c_put_ne (by omega)]; exact r1
        · rw [c_put_ne (by omega)]; exact r2
        · omega
      · have t18:=ene (okg h (List.mem_of_getElem? hj)) t0
        have c2x : ∀ z,(H1.put q (some (.cells z))).cells 2 = H1.cells 2:=fun z => c_put_ne (by omega)
        simp -implicitDefEqProofs (maxDischargeDepth:=12) only [WW,List.replicate,Option.some_or,s_conv,e_conv,s_slc3,e_cut3,e_cut3n,e_bns,e_bnn,if_true,if_false,ite_true,ite_false,true_or,ne_eq,seval,beq_self_eq_true,eq_self,exists_eq_left,exists_eq_left',t18,(trQ i h.pitch).enc_eq,cq,exC_ret,c2x,r2]
        rw [← X.enc_eq,hXv]
        refine wA_pure rfl (same_pv noClip noClip noClip_tame.1 (chord_tames noClip_tame)) ?_
        simp -implicitDefEqProofs (maxDischargeDepth:=12) only [WW,List.replicate,Option.some_or,s_conv,e_conv,s_slc3,e_cut3,e_cut3n,e_bns,e_bnn,e_splice,if_true,if_false,ite_true,ite_false,true_or,ne_eq,seval,h_putc,beq_self_eq_true,eq_self,exists_eq_left,exists_eq_left',exC_ret]
        exact frz_sc
    clear y
    rintro t H4 ⟨hgf,p0,p1,p2,hN,y,rfl⟩
    simp only [c.enc_eq,i.enc_eq,X.enc_eq,c_agg] at p0 p1 p2
    simp -implicitDefEqProofs (maxDischargeDepth:=12) only [WW,List.replicate,Option.some_or,s_conv,e_conv,s_slc3,e_cut3,e_cut3n,e_bns,e_bnn,e_splice,if_true,if_false,ite_true,ite_false,true_or,ne_eq,seval,h_putc,beq_self_eq_true,eq_self,exists_eq_left,exists_eq_left',e2]
    refine ⟨k - 1,by omega,n + 1,by omega,?_,p0,p1,p2,hN,ex_x rfl⟩
    rw [List.take_add_one,hx,List.any_append,hnf]
    simp [failN,hhf,hgf]
  | false =>
    rw [hw,if_neg (by simp)] at hE; subst hE
    rw [if_pos rfl] at hXd
    have hXn : X.notes.l = c.notes.l.map (Note.tr i):=by rw [hXd,l_of]
    have hXl : (X.notes.l.length : Int) = (c.notes.l.length : Int):=by rw [hXn,List.length_map]
    by_cases c1 : (n : Int) < (c.notes.l.length : Int)
    rotate_left
    · have gX : checkE X = 0:=check_of (by rw [hXd]; exact tr_good hi g hw) (by rw [hXn,List.length_map]; exact hc4)
      have eL : X.len = c.len:=by rw [hXd]
      have can : ∀ x ∈ c.notes.l,Can i x∧x.heads.l ≠ []:=fun x hx => ⟨can_of hi (g.row.fit x hx).ok (by
        unfold trF at hw
        rw [List.any_eq_false] at hw
        simpa using hw x hx),heads_ne' (g.row.fit x hx).ok⟩
      simp -implicitDefEqProofs (maxDischargeDepth:=12) only [WW,List.replicate,Option.some_or,s_conv,e_conv,s_slc3,e_cut3,e_cut3n,e_bns,e_bnn,e_splice,if_true,if_false,ite_true,ite_false,true_or,ne_eq,seval,h_putc,beq_self_eq_true,eq_self,exists_eq_left,exists_eq_left',p0,p2,c1]
      rw [← X.enc_eq]
      refine wA_pure rfl (check_pv X hX) ?_
      rw [gX]
      simp -implicitDefEqProofs (maxDischargeDepth:=12) only [WW,List.replicate,Option.some_or,s_conv,e_conv,s_slc3,e_cut3,e_cut3n,e_bns,e_bnn,e_splice,if_true,if_false,ite_true,ite_false,true_or,ne_eq,seval,h_putc,beq_self_eq_true,eq_self,exists_eq_left,exists_eq_left',p0,p1,p2,eL,hXl]
      rw [← eL,← X.enc_eq,eL,← c.enc_eq]
      refine wA_pure rfl (numbers_pv X c i hXn tc.1 hi can) ?_
      simp -implicitDefEqProofs (maxDischargeDepth:=12) only [WW,List.replicate,Option.some_or,s_conv,e_conv,s_slc3,e_cut3,e_cut3n,e_bns,e_bnn,e_splice,if_true,if_false,ite_true,ite_false,true_or,ne_eq,seval,h_putc,beq_self_eq_true,eq_self,exists_eq_left,exists_eq_left']
      exact frz_sc
    obtain ⟨x,hx⟩ : ∃ x,c.notes.l[n]? = some x:=⟨_,List.getElem?_eq_getElem (by omega)⟩
    have e2 : IntKind.i64.wrap ((n : Int) + 1) = ((n + 1 : Nat) : Int):=by rw [w64 (by omega) (by omega)]; omega
    have xm:=List.mem_of_getElem? hx
    have tx:=tc.2 x xm
    obtain ⟨okh,okg⟩:=okP_of (g.row.fit x xm).ok
    have nl : n < c.notes.l.length:=by omega
    have hx2 : X.notes.l[n]? = some (x.tr i):=by rw [hXn]; exact tr_at hx
    have nl' : ¬ ((c.notes.l.length : Int) ≤ (n : Int)):=by omega
    have hno : (∀ h ∈ x.heads.l,¬ failH i h = true)∧(∀ h ∈ x.graces.l,¬ failG i h = true):=by
      unfold trF at hw
      rw [List.any_eq_false] at hw
      have:=hw x xm
      unfold failN at this
      simp only [Bool.or_eq_true,List.any_eq_true,not_or,not_exists,not_and] at this
      exact this
    have eX : (x.tr i).enc = .agg [.sc (.int .i64 x.at_),.sc (.int .i64 x.len),slm Head.enc (x.tr i).heads,slm Grace.enc (x.tr i).graces,.sc (.int .i64 x.articulations),.sc (.int .i64 x.ornament),.sc (.int .i64 x.dynamic),slm Syllable.enc x.lyrics]:=rfl
    simp -implicitDefEqProofs (maxDischargeDepth:=12) only [WW,List.replicate,Option.some_or,s_conv,e_conv,s_slc3,e_cut3,e_cut3n,e_bns,e_bnn,e_splice,if_true,if_false,ite_true,ite_false,true_or,ne_eq,seval,h_putc,beq_self_eq_true,eq_self,exists_eq_left,exists_eq_left',p0,c1]
    refine wp_loopZ 2 (Inv:=fun k2 t H' => ∃ (j : Nat),j + k2 = x.heads.l.length∧(x.heads.l.take j).any (failH i) = false∧H'.cells 0 = some c.enc.cells∧H'.cells 1 = some i.enc.cells∧H'.cells 2 = some X.enc.cells∧3 ≤ H'.next ∧
        ∃ y : Nat→AV,t = [c.enc,i.enc,.ptr 0 0,.ptr 1 0,.sc (.bool false),.ptr 2 0,.sc (.int .i64 0),y 7,.sc (.int .i64 n),.sc (.int .i64 j),y 10,y 11,y 12,y 13,y 14,y 15,y 16,y 17,y 18,y 19,y 20,y 21,y 22,y 23,y 24,y 25,y 26,y 27,y 28,y 29,y 30,y 31,y 32,y 33,y 34,y 35,y 36,y 37,y 38,y 39,y 40,y 41,y 42,y 43,y 44,y 45,y 46,y 47,y 48,y 49,y 50,y 51,y 52,y 53,y 54,y 55,y 56,y 57,y 58,y 59,y 60,y 61,y 62,y 63,y 64,y 65,y 66,y 67,y 68,y 69,y 70,y 71,y 72,y 73,y 74,y 75,y 76,y 77,y 78,y 79,y 80,y 81,y 82,y 83,y 84,y 85,y 86,y 87,y 88,y 89,y 90,y 91,y 92,y 93,y 94,y 95,y 96,y 97,y 98,y 99,y 100,y 101,y 102,y 103,y 104,y 105,y 106,y 107,y 108,y 109,y 110,y 111,y 112,y 113,y 114,y 115,y 116,y 117,y 118,y 119,y 120,y 121,y 122,y 123,y 124,y 125,y 126,y 127,y 128,y 129,y 130,y 131,y 132,y 133,y 134,y 135,y 136,y 137,y 138,y 139,y 140,y 141,y 142,y 143,y 144,y 145,y 146,y 147,y 148,y 149,y 150,y 151,y 152,y 153,y 154,y 155,y 156,y 157,y 158,y 159,y 160,y 161,y 162,y 163,y 164,y 165,y 166,y 167,y 168,y 169,y 170,y 171,y 172,y 173,y 174,y 175,y 176,y 177,y 178,y 179,y 180,y 181,y 182,y 183,y 184,y 185,y 186,y 187,y 188,y 189,y 190,y 191,y 192,y 193,y 194,y 195,y 196,y 197,y 198,y 199,y 200,y 201,y 202,y 203,y 204,y 205,y 206,y 207,y 208,y 209,y 210,y 211,y 212,y 213,y 214,y 215,y 216,y 217,y 218,y 219,y 220,y 221,y 222,y 223,y 224,y 225,y 226,y 227,y 228,y 229,y 230,y 231,y 232,y 233,y 234,y 235,y 236,y 237,y 238,y 239,y 240,y 241,y 242,y 243,y 244,y 245,y 246,y 247,y 248,y 249,y 250,y 251,y 252,y 253,y 254,y 255,y 256,y 257,y 258,y 259,y 260,y 261,y 262,y 263,y 264,y 265,y 266,y 267,y 268,y 269,y 270,y 271])
      (Ex:=fun t H' => x.heads.l.any (failH i) = false∧H'.cells 0 = some c.enc.cells∧H'.cells 1 = some i.enc.cells∧H'.cells 2 = some X.enc.cells∧3 ≤ H'.next ∧
        ∃ y : Nat→AV,t = [c.enc,i.enc,.ptr 0 0,.ptr 1 0,.sc (.bool false),.ptr 2 0,.sc (.int .i64 0),y 7,.sc (.int .i64 n),y 9,y 10,y 11,y 12,y 13,y 14,y 15,y 16,y 17,y 18,y 19,y 20,y 21,y 22,y 23,y 24,y 25,y 26,y 27,y 28,y 29,y 30,y 31,y 32,y 33,y 34,y 35,y 36,y 37,y 38,y 39,y 40,y 41,y 42,y 43,y 44,y 45,y 46,y 47,y 48,y 49,y 50,y 51,y 52,y 53,y 54,y 55,y 56,y 57,y 58,y 59,y 60,y 61,y 62,y 63,y 64,y 65,y 66,y 67,y 68,y 69,y 70,y 71,y 72,y 73,y 74,y 75,y 76,y 77,y 78,y 79,y 80,y 81,y 82,y 83,y 84,y 85,y 86,y 87,y 88,y 89,y 90,y 91,y 92,y 93,y 94,y 95,y 96,y 97,y 98,y 99,y 100,y 101,y 102,y 103,y 104,y 105,y 106,y 107,y 108,y 109,y 110,y 111,y 112,y 113,y 114,y 115,y 116,y 117,y 118,y 119,y 120,y 121,y 122,y 123,y 124,y 125,y 126,y 127,y 128,y 129,y 130,y 131,y 132,y 133,y 134,y 135,y 136,y 137,y 138,y 139,y 140,y 141,y 142,y 143,y 144,y 145,y 146,y 147,y 148,y 149,y 150,y 151,y 152,y 153,y 154,y 155,y 156,y 157,y 158,y 159,y 160,y 161,y 162,y 163,y 164,y 165,y 166,y 167,y 168,y 169,y 170,y 171,y 172,y 173,y 174,y 175,y 176,y 177,y 178,y 179,y 180,y 181,y 182,y 183,y 184,y 185,y 186,y 187,y 188,y 189,y 190,y 191,y 192,y 193,y 194,y 195,y 196,y 197,y 198,y 199,y 200,y 201,y 202,y 203,y 204,y 205,y 206,y 207,y 208,y 209,y 210,y 211,y 212,y 213,y 214,y 215,y 216,y 217,y 218,y 219,y 220,y 221,y 222,y 223,y 224,y 225,y 226,y 227,y 228,y 229,y 230,y 231,y 232,y 233,y 234,y 235,y 236,y 237,y 238,y 239,y 240,y 241,y 242,y 243,y 244,y 245,y 246,y 247,y 248,y 249,y 250,y 251,y 252,y 253,y 254,y 255,y 256,y 257,y 258,y 259,y 260,y 261,y 262,y 263,y 264,y 265,y 266,y 267,y 268,y 269,y 270,y 271]) (k:=x.heads.l.length) ?_ ?_
      ⟨0,by omega,by simp,p0,p1,p2,hN,ex_x rfl⟩
    · clear y
      rintro k2 t H' ⟨j,hk2,hjf,q0,q1,q2,hN',y,rfl⟩
      simp only [c.enc_eq,i.enc_eq,X.enc_eq,c_agg] at q0 q1 q2
      by_cases d1 : (j : Int) < (x.heads.l.length : Int)
      rotate_left
      · rw [List.take_of_length_le (by omega)] at hjf
        simp -implicitDefEqProofs (maxDischargeDepth:=12) only [WW,List.replicate,Option.some_or,s_conv,e_conv,s_slc3,e_cut3,e_cut3n,e_bns,e_bnn,if_true,if_false,ite_true,ite_false,true_or,ne_eq,seval,beq_self_eq_true,eq_self,exists_eq_left,exists_eq_left',q0,hx,x.enc_eq,nl,d1,exC_exit]
        exact ⟨hjf,rfl,q1,q2,hN',ex_x rfl⟩
      obtain ⟨h,hj⟩ : ∃ y,x.heads.l[j]? = some y:=⟨_,List.getElem?_eq_getElem (by omega)⟩
      have e3 : IntKind.i64.wrap ((j : Int) + 1) = ((j + 1 : Nat) : Int):=by rw [w64 (by omega) (by have:=tx.heads; omega)]; omega
      have jl : j < x.heads.l.length:=by omega
      simp -implicitDefEqProofs (maxDischargeDepth:=12) only [WW,List.replicate,Option.some_or,s_conv,e_conv,s_slc3,e_cut3,e_cut3n,e_bns,e_bnn,if_true,if_false,ite_true,ite_false,true_or,ne_eq,seval,beq_self_eq_true,eq_self,exists_eq_left,exists_eq_left',q0,q1,hx,x.enc_eq,nl,d1,jl,hj,h.enc_eq]
      generalize hq : H'.next = q at hN'
      generalize hH1 : AHeap.alloc H' _ = H1
      have n1 : H1.next = q + 1:=by subst hH1; simp only [AHeap.next_alloc,hq]
      have k1 : ∀ b,b < q→H1.cells b = H'.cells b:=fun b hb => by subst hH1; rw [c_alloc_ne (by omega)]
      have cq:=congrArg (fun h => AHeap.cells h q) hH1
      simp -implicitDefEqProofs (maxDischargeDepth:=12) only [WW,List.replicate,Option.some_or,s_conv,e_conv,s_slc3,e_cut3,e_cut3n,e_bns,e_bnn,e_splice,if_true,if_false,ite_true,ite_false,true_or,ne_eq,seval,h_putc,beq_self_eq_true,eq_self,exists_eq_left,exists_eq_left',hq] at cq
      replace cq:=cq.symm
      clear hH1
      have r0:=(k1 0 (by omega)).trans q0
      have r1:=(k1 1 (by omega)).trans q1
      have r2:=(k1 2 (by omega)).trans q2
      rw [← h.pitch.enc_eq,← i.enc_eq]
      refine wA_pure rfl (tr_pv (okh h (List.mem_of_getElem? hj)) hi) ?_
      have t0 : trE i h.pitch = 0:=by
        have:=hno.1 h (List.mem_of_getElem? hj)
        simpa [failH] using this
      have ejf : (x.heads.l.take (j + 1)).any (failH i) = false:=by
        rw [List.take_add_one,hj,List.any_append,hjf]; simp [failH,t0]
      have hj2 : (x.tr i).heads.l[j]? = some (trH i h):=by rw [tr_heads,List.getElem?_map,hj]; rfl
      have hl2 : ((x.tr i).heads.l.length : Int) = (x.heads.l.length : Int):=by rw [tr_heads,List.length_map]
      have jl2 : j < (x.tr i).heads.l.length:=by rw [tr_heads,List.length_map]; exact jl
      have lj2 : ¬ ((x.heads.l.length : Int) ≤ (j : Int)):=by omega
      have eH : (trH i h).enc = .agg [.sc (.int .i64 (trQ i h.pitch).step),.sc (.int .i64 (trQ i h.pitch).alter),.sc (.int .i64 (trQ i h.pitch).octave),.sc (.bool h.tied),.sc (.int .i64 h.shown)]:=rfl
      have c2x : ∀ z,(H1.put q (some (.cells z))).cells 2 = H1.cells 2:=fun z => c_put_ne (by omega)
      have c0x : ∀ z,(H1.put q (some (.cells z))).cells 0 = H1.cells 0:=fun z => c_put_ne (by omega)
      have cqx : ∀ z,(H1.put q (some (.cells z))).cells q = some z:=fun z => h_put_self cq
      have sp3 : ∀ a b d : AV,splice [AV.sc (.int .i64 0),.sc (.int .i64 0),.sc (.int .i64 0)] 0 [a,b,d] = [a,b,d]:=fun _ _ _ => rfl
      simp -implicitDefEqProofs (maxDischargeDepth:=12) only [WW,List.replicate,Option.some_or,s_conv,e_conv,s_slc3,e_cut3,e_cut3n,e_bns,e_bnn,if_true,if_false,ite_true,ite_false,true_or,ne_eq,seval,beq_self_eq_true,eq_self,exists_eq_left,exists_eq_left',t0,(trQ i h.pitch).enc_eq,cq,e3,c0x,c2x,cqx,sp3,r0,r2,hx,hx2,hXl,nl',eX,x.enc_eq,hj,h.enc_eq,eH,hj2,hl2,lj2,jl2]
      refine ⟨k2 - 1,by omega,j + 1,by omega,ejf,?_,?_,?_,?_,ex_x rfl⟩
      · first | rfl | exact r0 | (rw [c_put_ne (by omega)]; exact r0)
      · first | rfl | exact r1 | (rw [c_put_ne (by omega)]; exact r1)
      · first | rfl | exact r2 | (rw [c_put_ne (by omega)]; exact r2)
      · omega
    clear y
    rintro t H4 ⟨hhf,p0,p1,p2,hN,y,rfl⟩
    simp only [c.enc_eq,i.enc_eq,X.enc_eq,c_agg] at p0 p1 p2
    simp -implicitDefEqProofs (maxDischargeDepth:=12) only [WW,List.replicate,Option.some_or,s_conv,e_conv,s_slc3,e_cut3,e_cut3n,e_bns,e_bnn,e_splice,if_true,if_false,ite_true,ite_false,true_or,ne_eq,seval,h_putc,beq_self_eq_true,eq_self,exists_eq_left,exists_eq_left']
    refine wp_loopZ 4 (Inv:=fun k2 t H' => ∃ (j : Nat),j + k2 = x.graces.l.length∧(x.graces.l.take j).any (failG i) = false∧H'.cells 0 = some c.enc.cells∧H'.cells 1 = some i.enc.cells∧H'.cells 2 = some X.enc.cells∧3 ≤ H'.next ∧
        ∃ y : Nat→AV,t = [c.enc,i.enc,.ptr 0 0,.ptr 1 0,.sc (.bool false),.ptr 2 0,.sc (.int .i64 0),y 7,.sc (.int .i64 n),y 9,y 10,y 11,.sc (.int .i64 j),y 13,y 14,y 15,y 16,y 17,y 18,y 19,y 20,y 21,y 22,y 23,y 24,y 25,y 26,y 27,y 28,y 29,y 30,y 31,y 32,y 33,y 34,y 35,y 36,y 37,y 38,y 39,y 40,y 41,y 42,y 43,y 44,y 45,y 46,y 47,y 48,y 49,y 50,y 51,y 52,y 53,y 54,y 55,y 56,y 57,y 58,y 59,y 60,y 61,y 62,y 63,y 64,y 65,y 66,y 67,y 68,y 69,y 70,y 71,y 72,y 73,y 74,y 75,y 76,y 77,y 78,y 79,y 80,y 81,y 82,y 83,y 84,y 85,y 86,y 87,y 88,y 89,y 90,y 91,y 92,y 93,y 94,y 95,y 96,y 97,y 98,y 99,y 100,y 101,y 102,y 103,y 104,y 105,y 106,y 107,y 108,y 109,y 110,y 111,y 112,y 113,y 114,y 115,y 116,y 117,y 118,y 119,y 120,y 121,y 122,y 123,y 124,y 125,y 126,y 127,y 128,y 129,y 130,y 131,y 132,y 133,y 134,y 135,y 136,y 137,y 138,y 139,y 140,y 141,y 142,y 143,y 144,y 145,y 146,y 147,y 148,y 149,y 150,y 151,y 152,y 153,y 154,y 155,y 156,y 157,y 158,y 159,y 160,y 161,y 162,y 163,y 164,y 165,y 166,y 167,y 168,y 169,y 170,y 171,y 172,y 173,y 174,y 175,y 176,y 177,y 178,y 179,y 180,y 181,y 182,y 183,y 184,y 185,y 186,y 187,y 188,y 189,y 190,y 191,y 192,y 193,y 194,y 195,y 196,y 197,y 198,y 199,y 200,y 201,y 202,y 203,y 204,y 205,y 206,y 207,y 208,y 209,y 210,y 211,y 212,y 213,y 214,y 215,y 216,y 217,y 218,y 219,y 220,y 221,y 222,y 223,y 224,y 225,y 226,y 227,y 228,y 229,y 230,y 231,y 232,y 233,y 234,y 235,y 236,y 237,y 238,y 239,y 240,y 241,y 242,y 243,y 244,y 245,y 246,y 247,y 248,y 249,y 250,y 251,y 252,y 253,y 254,y 255,y 256,y 257,y 258,y 259,y 260,y 261,y 262,y 263,y 264,y 265,y 266,y 267,y 268,y 269,y 270,y 271])
      (Ex:=fun t H' => x.graces.l.any (failG i) = false∧H'.cells 0 = some c.enc.cells∧H'.cells 1 = some i.enc.cells∧H'.cells 2 = some X.enc.cells∧3 ≤ H'.next ∧
        ∃ y : Nat→AV,t = [c.enc,i.enc,.ptr 0 0,.ptr 1 0,.sc (.bool false),.ptr 2 0,.sc (.int .i64 0),y 7,.sc (.int .i64 n),y 9,y 10,y 11,y 12,y 13,y 14,y 15,y 16,y 17,y 18,y 19,y 20,y 21,y 22,y 23,y 24,y 25,y 26,y 27,y 28,y 29,y 30,y 31,y 32,y 33,y 34,y 35,y 36,y 37,y 38,y 39,y 40,y 41,y 42,y 43,y 44,y 45,y 46,y 47,y 48,y 49,y 50,y 51,y 52,y 53,y 54,y 55,y 56,y 57,y 58,y 59,y 60,y 61,y 62,y 63,y 64,y 65,y 66,y 67,y 68,y 69,y 70,y 71,y 72,y 73,y 74,y 75,y 76,y 77,y 78,y 79,y 80,y 81,y 82,y 83,y 84,y 85,y 86,y 87,y 88,y 89,y 90,y 91,y 92,y 93,y 94,y 95,y 96,y 97,y 98,y 99,y 100,y 101,y 102,y 103,y 104,y 105,y 106,y 107,y 108,y 109,y 110,y 111,y 112,y 113,y 114,y 115,y 116,y 117,y 118,y 119,y 120,y 121,y 122,y 123,y 124,y 125,y 126,y 127,y 128,y 129,y 130,y 131,y 132,y 133,y 134,y 135,y 136,y 137,y 138,y 139,y 140,y 141,y 142,y 143,y 144,y 145,y 146,y 147,y 148,y 149,y 150,y 151,y 152,y 153,y 154,y 155,y 156,y 157,y 158,y 159,y 160,y 161,y 162,y 163,y 164,y 165,y 166,y 167,y 168,y 169,y 170,y 171,y 172,y 173,y 174,y 175,y 176,y 177,y 178,y 179,y 180,y 181,y 182,y 183,y 184,y 185,y 186,y 187,y 188,y 189,y 190,y 191,y 192,y 193,y 194,y 195,y 196,y 197,y 198,y 199,y 200,y 201,y 202,y 203,y 204,y 205,y 206,y 207,y 208,y 209,y 210,y 211,y 212,y 213,y 214,y 215,y 216,y 217,y 218,y 219,y 220,y 221,y 222,y 223,y 224,y 225,y 226,y 227,y 228,y 229,y 230,y 231,y 232,y 233,y 234,y 235,y 236,y 237,y 238,y 239,y 240,y 241,y 242,y 243,y 244,y 245,y 246,y 247,y 248,y 249,y 250,y 251,y 252,y 253,y 254,y 255,y 256,y 257,y 258,y 259,y 260,y 261,y 262,y 263,y 264,y 265,y 266,y 267,y 268,y 269,y 270,y 271]) (k:=x.graces.l.length) ?_ ?_
      ⟨0,by omega,by simp,p0,p1,p2,hN,ex_x rfl⟩
    · clear y
      rintro k2 t H' ⟨j,hk2,hjf,q0,q1,q2,hN',y,rfl⟩
      simp only [c.enc_eq,i.enc_eq,X.enc_eq,c_agg] at q0 q1 q2
      by_cases d1 : (j : Int) < (x.graces.l.length : Int)
      rotate_left
      · rw [List.take_of_length_le (by omega)] at hjf
        simp -implicitDefEqProofs (maxDischargeDepth:=12) only [WW,List.replicate,Option.some_or,s_conv,e_conv,s_slc3,e_cut3,e_cut3n,e_bns,e_bnn,if_true,if_false,ite_true,ite_false,true_or,ne_eq,seval,beq_self_eq_true,eq_self,exists_eq_left,exists_eq_left',q0,hx,x.enc_eq,nl,d1,exC_exit]
        exact ⟨hjf,rfl,q1,q2,hN',ex_x rfl⟩
      obtain ⟨h,hj⟩ : ∃ y,x.graces.l[j]? = some y:=⟨_,List.getElem?_eq_getElem (by omega)⟩
      have e3 : IntKind.i64.wrap ((j : Int) + 1) = ((j + 1 : Nat) : Int):=by rw [w64 (by omega) (by have:=tx.graces; omega)]; omega
      have jl : j < x.graces.l.length:=by omega
      simp -implicitDefEqProofs (maxDischargeDepth:=12) only [WW,List.replicate,Option.some_or,s_conv,e_conv,s_slc3,e_cut3,e_cut3n,e_bns,e_bnn,if_true,if_false,ite_true,ite_false,true_or,ne_eq,seval,beq_self_eq_true,eq_self,exists_eq_left,exists_eq_left',q0,q1,hx,x.enc_eq,nl,d1,jl,hj,h.enc_eq]
      generalize hq : H'.next = q at hN'
      generalize hH1 : AHeap.alloc H' _ = H1
      have n1 : H1.next = q + 1:=by subst hH1; simp only [AHeap.next_alloc,hq]
      have k1 : ∀ b,b < q→H1.cells b = H'.cells b:=fun b hb => by subst hH1; rw [c_alloc_ne (by omega)]
      have cq:=congrArg (fun h => AHeap.cells h q) hH1
      simp -implicitDefEqProofs (maxDischargeDepth:=12) only [WW,List.replicate,Option.some_or,s_conv,e_conv,s_slc3,e_cut3,e_cut3n,e_bns,e_bnn,e_splice,if_true,if_false,ite_true,ite_false,true_or,ne_eq,seval,h_putc,beq_self_eq_true,eq_self,exists_eq_left,exists_eq_left',hq] at cq
      replace cq:=cq.symm
      clear hH1
      have r0:=(k1 0 (by omega)).trans q0
      have r1:=(k1 1 (by omega)).trans q1
      have r2:=(k1 2 (by omega)).trans q2
      rw [← h.pitch.enc_eq,← i.enc_eq]
      refine wA_pure rfl (tr_pv (okg h (List.mem_of_getElem? hj)) hi) ?_
      have t0 : trE i h.pitch = 0:=by
        have:=hno.2 h (List.mem_of_getElem? hj)
        simpa [failG] using this
      have ejf : (x.graces.l.take (j + 1)).any (failG i) = false:=by
        rw [List.take_add_one,hj,List.any_append,hjf]; simp [failG,t0]
      have hj2 : (x.tr i).graces.l[j]? = some (trG i h):=by rw [tr_graces,List.getElem?_map,hj]; rfl
      have hl2 : ((x.tr i).graces.l.length : Int) = (x.graces.l.length : Int):=by rw [tr_graces,List.length_map]
      have jl2 : j < (x.tr i).graces.l.length:=by rw [tr_graces,List.length_map]; exact jl
      have lj2 : ¬ ((x.graces.l.length : Int) ≤ (j : Int)):=by omega
      have eH : (trG i h).enc = .agg [.sc (.int .i64 (trQ i h.pitch).step),.sc (.int .i64 (trQ i h.pitch).alter),.sc (.int .i64 (trQ i h.pitch).octave),.sc (.int .i64 h.log),.sc (.bool h.slash)]:=rfl
      have c2x : ∀ z,(H1.put q (some (.cells z))).cells 2 = H1.cells 2:=fun z => c_put_ne (by omega)
      have c0x : ∀ z,(H1.put q (some (.cells z))).cells 0 = H1.cells 0:=fun z => c_put_ne (by omega)
      have cqx : ∀ z,(H1.put q (some (.cells z))).cells q = some z:=fun z => h_put_self cq
      have sp3 : ∀ a b d : AV,splice [AV.sc (.int .i64 0),.sc (.int .i64 0),.sc (.int .i64 0)] 0 [a,b,d] = [a,b,d]:=fun _ _ _ => rfl
      simp -implicitDefEqProofs (maxDischargeDepth:=12) only [WW,List.replicate,Option.some_or,s_conv,e_conv,s_slc3,e_cut3,e_cut3n,e_bns,e_bnn,if_true,if_false,ite_true,ite_false,true_or,ne_eq,seval,beq_self_eq_true,eq_self,exists_eq_left,exists_eq_left',t0,(trQ i h.pitch).enc_eq,cq,e3,c0x,c2x,cqx,sp3,r0,r2,hx,hx2,hXl,nl',eX,x.enc_eq,hj,h.enc_eq,eH,hj2,hl2,lj2,jl2]
      refine ⟨k2 - 1,by omega,j + 1,by omega,ejf,?_,?_,?_,?_,ex_x rfl⟩
      · first | rfl | exact r0 | (rw [c_put_ne (by omega)]; exact r0)
      · first | rfl | exact r1 | (rw [c_put_ne (by omega)]; exact r1)
      · first | rfl | exact r2 | (rw [c_put_ne (by omega)]; exact r2)
      · omega
    clear y
    rintro t H4 ⟨hgf,p0,p1,p2,hN,y,rfl⟩
    simp only [c.enc_eq,i.enc_eq,X.enc_eq,c_agg] at p0 p1 p2
    simp -implicitDefEqProofs (maxDischargeDepth:=12) only [WW,List.replicate,Option.some_or,s_conv,e_conv,s_slc3,e_cut3,e_cut3n,e_bns,e_bnn,e_splice,if_true,if_false,ite_true,ite_false,true_or,ne_eq,seval,h_putc,beq_self_eq_true,eq_self,exists_eq_left,exists_eq_left',e2]
    refine ⟨k - 1,by omega,n + 1,by omega,?_,p0,p1,p2,hN,ex_x rfl⟩
    rw [List.take_add_one,hx,List.any_append,hnf]
    simp [failN,hhf,hgf]
end
end Go.Hem
