/- Walks. -/
import Derived.Test.YtipbkcegnkpcmaaWalks0
set_option maxRecDepth 10000
set_option maxHeartbeats 4000000
set_option linter.unusedSimpArgs false
set_option linter.unusedVariables false
namespace Go.Hem
noncomputable section
open Classical in
def sylE (s : Syllable) : Int:=if h : ∃ e : Int,Pv prog polS 84 [s.enc] (.sc (.int .i64 e)) then h.choose else 0
theorem sylE_pv {s : Syllable} (hs : s.text.size < 1000000) : Pv prog polS 84 [s.enc] (.sc (.int .i64 (sylE s))):=by
  have h:=syl_pv s hs
  unfold sylE
  rw [dif_pos h]
  exact h.choose_spec
def Syllable.absentB (s : Syllable) : Bool:=decide (s = ⟨⟨#[]⟩,0⟩)
theorem absent_pv (s : Syllable) : Pv prog polS 85 [s.enc] (.sc (.bool s.absentB)):=by
  refine Pv_of' ok85 (by simp only [AV.closedBs,Syllable.enc_closed,Bool.and_self]) ?_
  have e:=syl_eq (a:=s) (b:=⟨⟨#[]⟩,0⟩)
  simp -implicitDefEqProofs (maxDischargeDepth:=12) only [wpF,cf85,WW,List.replicate,Option.some_or,s_conv,e_conv,s_slc3,e_cut3,e_cut3n,e_bns,e_bnn,e_splice,if_true,if_false,ite_true,ite_false,true_or,ne_eq,seval,h_putc,beq_self_eq_true,eq_self,exists_eq_left,exists_eq_left',s.enc_eq,e]
  exact frz_sc
def lastE (l : List Syllable) : Int:=match l.getLast? with
  | some x => if x.absentB = true then 3 else 0
  | none => 0
def lyricsE (l : List Syllable) : Int:=if 4 < l.length then 9 else if firstE (l.map sylE) ≠ 0 then firstE (l.map sylE) else lastE l
theorem getLast_at' {α : Type} {l : List α} (h : 0 < l.length) : ∃ a,l.getLast? = some a∧l[l.length - 1]? = some a:=by
  obtain ⟨a,ha⟩ : ∃ a,l.getLast? = some a:=by
    cases e : l.getLast? with
    | none => rw [List.getLast?_eq_none_iff] at e; subst e; simp at h
    | some a => exact ⟨a,rfl⟩
  exact ⟨a,ha,getLast_at ha⟩
theorem lyrics_pv (s : Sl Syllable) (hs : s.l.length < 1000000) (ht : ∀ x ∈ s.l,x.text.size < 1000000) : Pv prog polS 64 [slm Syllable.enc s] (.sc (.int .i64 (lyricsE s.l))):=by
  refine Pv_of' ok64 (by simp only [AV.closedBs,closedB_slm Syllable.enc_closed,Bool.and_self]) ?_
  generalize hr : lyricsE s.l = r
  unfold lyricsE at hr
  by_cases h2 : 4 < s.l.length
  · rw [if_pos h2] at hr; subst hr
    have h2' : (4 : Int) < (s.l.length : Int):=by omega
    simp -implicitDefEqProofs (maxDischargeDepth:=12) only [wpF,cf64,WW,List.replicate,Option.some_or,s_conv,e_conv,s_slc3,e_cut3,e_cut3n,e_bns,e_bnn,e_splice,if_true,if_false,ite_true,ite_false,true_or,ne_eq,seval,h_putc,beq_self_eq_true,eq_self,exists_eq_left,exists_eq_left',h2']
    exact frz_sc
  rw [if_neg h2] at hr
  have h2' : ¬ (4 : Int) < (s.l.length : Int):=by omega
  simp -implicitDefEqProofs (maxDischargeDepth:=12) only [wpF,cf64,WW,List.replicate,Option.some_or,s_conv,e_conv,s_slc3,e_cut3,e_cut3n,e_bns,e_bnn,e_splice,if_true,if_false,ite_true,ite_false,true_or,ne_eq,seval,h_putc,beq_self_eq_true,eq_self,exists_eq_left,exists_eq_left',h2']
  refine wp_loop (Inv:=fun k t H => ∃ (i : Nat),i + k = s.l.length∧firstE ((s.l.drop i).map sylE) = firstE (s.l.map sylE) ∧
    ∃ x : Nat→AV,t = [slm Syllable.enc s,x 1,x 2,x 3,x 4,x 5,x 6,x 7,x 8,x 9,slm Syllable.enc s,.sc (.int .i64 s.l.length),.sc (.int .i64 i),x 13,x 14,x 15,x 16,x 17,x 18,x 19,x 20,x 21,x 22,x 23,x 24,x 25,x 26,x 27,x 28,x 29,x 30,x 31,x 32,x 33]) (k:=s.l.length) ?_
    ⟨0,by omega,rfl,ex_x rfl⟩
  rintro k t H ⟨i,hk,hf,x,rfl⟩
  by_cases c1 : (i : Int) < (s.l.length : Int)
  · obtain ⟨y,hy⟩ : ∃ y,s.l[i]? = some y:=⟨_,List.getElem?_eq_getElem (by omega)⟩
    have e2 : IntKind.i64.wrap ((i : Int) + 1) = ((i + 1 : Nat) : Int):=by rw [w64 (by omega) (by omega)]; omega
    rw [drop_cons hy,List.map_cons] at hf
    simp only [firstE] at hf
    simp -implicitDefEqProofs (maxDischargeDepth:=12) only [WW,List.replicate,Option.some_or,s_conv,e_conv,s_slc3,e_cut3,e_cut3n,e_bns,e_bnn,e_splice,if_true,if_false,ite_true,ite_false,true_or,ne_eq,seval,h_putc,beq_self_eq_true,eq_self,exists_eq_left,exists_eq_left',c1,hy,y.enc_eq]
    rw [← y.enc_eq]
    refine wA_pure rfl (sylE_pv (ht y (List.mem_of_getElem? hy))) ?_
    by_cases c2 : sylE y = 0
    · rw [if_pos c2] at hf
      simp -implicitDefEqProofs (maxDischargeDepth:=12) only [WW,List.replicate,Option.some_or,s_conv,e_conv,s_slc3,e_cut3,e_cut3n,e_bns,e_bnn,e_splice,if_true,if_false,ite_true,ite_false,true_or,ne_eq,seval,h_putc,beq_self_eq_true,eq_self,exists_eq_left,exists_eq_left',c2,e2]
      exact ⟨k - 1,by omega,i + 1,by omega,hf,ex_x rfl⟩
    · rw [if_neg c2] at hf
      rw [← hf,if_pos c2] at hr; subst hr
      simp -implicitDefEqProofs (maxDischargeDepth:=12) only [WW,List.replicate,Option.some_or,s_conv,e_conv,s_slc3,e_cut3,e_cut3n,e_bns,e_bnn,e_splice,if_true,if_false,ite_true,ite_false,true_or,ne_eq,seval,h_putc,beq_self_eq_true,eq_self,exists_eq_left,exists_eq_left',c2]
      exact frz_sc
  · rw [drop_end c1] at hf
    have hf0 : firstE (s.l.map sylE) = 0:=hf.symm
    rw [hf0,if_neg (by simp)] at hr
    by_cases h0 : 0 < s.l.length
    · obtain ⟨a,ha,hat⟩:=getLast_at' h0
      have hr' : (if a.absentB = true then (3 : Int) else 0) = r:=by rw [← hr]; unfold lastE; rw [ha]
      have ei : IntKind.i64.wrap ((s.l.length : Int) - 1) = ((s.l.length - 1 : Nat) : Int):=by rw [w64 (by omega) (by omega)]; omega
      have h0' : (0 : Int) < (s.l.length : Int):=by omega
      simp -implicitDefEqProofs (maxDischargeDepth:=12) only [WW,List.replicate,Option.some_or,s_conv,e_conv,s_slc3,e_cut3,e_cut3n,e_bns,e_bnn,e_splice,if_true,if_false,ite_true,ite_false,true_or,ne_eq,seval,h_putc,beq_self_eq_true,eq_self,exists_eq_left,exists_eq_left',c1,h0',ei,hat,a.enc_eq]
      rw [← a.enc_eq]
      refine wA_pure rfl (absent_pv a) ?_
      cases hab : a.absentB with
      | true =>
        rw [hab,if_pos rfl] at hr'; subst hr'
        simp -implicitDefEqProofs (maxDischargeDepth:=12) only [WW,List.replicate,Option.some_or,s_conv,e_conv,s_slc3,e_cut3,e_cut3n,e_bns,e_bnn,e_splice,if_true,if_false,ite_true,ite_false,true_or,ne_eq,seval,h_putc,beq_self_eq_true,eq_self,exists_eq_left,exists_eq_left']
        exact frz_sc
      | false =>
        rw [hab,if_neg (by simp)] at hr'; subst hr'
        simp -implicitDefEqProofs (maxDischargeDepth:=12) only [WW,List.replicate,Option.some_or,s_conv,e_conv,s_slc3,e_cut3,e_cut3n,e_bns,e_bnn,e_splice,if_true,if_false,ite_true,ite_false,true_or,ne_eq,seval,h_putc,beq_self_eq_true,eq_self,exists_eq_left,exists_eq_left']
        exact frz_sc
    · have hl : s.l = []:=List.length_eq_zero_iff.1 (by omega)
      have h0' : ¬ (0 : Int) < (s.l.length : Int):=by omega
      rw [hl] at hr
      have hr' : (0 : Int) = r:=hr
      subst hr'
      simp -implicitDefEqProofs (maxDischargeDepth:=12) only [WW,List.replicate,Option.some_or,s_conv,e_conv,s_slc3,e_cut3,e_cut3n,e_bns,e_bnn,e_splice,if_true,if_false,ite_true,ite_false,true_or,ne_eq,seval,h_putc,beq_self_eq_true,eq_self,exists_eq_left,exists_eq_left',c1,h0']
      exact frz_sc
def chordE (x : Note) : Int :=
  if firstE [headsE x.heads.l,gracesE x.graces.l,lyricsE x.lyrics.l] ≠ 0 then firstE [headsE x.heads.l,gracesE x.graces.l,lyricsE x.lyrics.l]
  else firstE [within x.articulations 31,within x.ornament 4,within x.dynamic 9,within 0 2,within 0 2]
theorem exists_pv : Pv prog polS 58 [.sc (.int .i64 1)] (.sc (.bool true)):=by
  refine Pv_of' ok58 rfl ?_
  simp -implicitDefEqProofs (maxDischargeDepth:=12) only [wpF,cf58,WW,List.replicate,Option.some_or,s_conv,e_conv,s_slc3,e_cut3,e_cut3n,e_bns,e_bnn,e_splice,if_true,if_false,ite_true,ite_false,true_or,ne_eq,seval,h_putc,beq_self_eq_true,eq_self,exists_eq_left,exists_eq_left']
  exact frz_sc
theorem dur_pv : Pv prog polS 61 [.agg [.sc (.int .i64 0),.sc (.int .i64 0)]] (.sc (.int .i64 0)):=by
  refine Pv_of' ok61 rfl ?_
  simp -implicitDefEqProofs (maxDischargeDepth:=12) only [wpF,cf61,WW,List.replicate,Option.some_or,s_conv,e_conv,s_slc3,e_cut3,e_cut3n,e_bns,e_bnn,e_splice,if_true,if_false,ite_true,ite_false,true_or,ne_eq,seval,h_putc,beq_self_eq_true,eq_self,exists_eq_left,exists_eq_left']
  exact frz_sc
theorem strip_pv (x : Note) : Pv prog polS 60 [x.chord.enc] x.chord.enc:=by
  refine Pv_of' ok60 (by simp only [AV.closedBs,Event.enc_closed,Bool.and_self]) ?_
  have ec : x.chord.enc = .agg [.sc (.int .i64 0),.sc (.int .i64 0),.sc (.int .i64 1),.sc (.int .i64 0),.sc (.int .i64 0),slm Head.enc x.heads,slm Grace.enc x.graces,.sc (.int .i64 x.articulations),.sc (.int .i64 x.ornament),.sc (.int .i64 x.dynamic),slm Syllable.enc x.lyrics,.sc (.int .i64 0),.sc (.int .i64 0)]:=rfl
  have hp : AV.plain x.chord.enc = true:=Event.enc_plain x.chord
  rw [ec] at hp
  simp -implicitDefEqProofs (maxDischargeDepth:=12) only [wpF,cf60,WW,List.replicate,Option.some_or,s_conv,e_conv,s_slc3,e_cut3,e_cut3n,e_bns,e_bnn,e_splice,if_true,if_false,ite_true,ite_false,true_or,ne_eq,seval,h_putc,beq_self_eq_true,eq_self,exists_eq_left,exists_eq_left',ec]
  exact frz_plain rfl hp
theorem echeck_pv (x : Note) (tx : x.tame) : Pv prog polS 31 [x.chord.enc] (.sc (.int .i64 (chordE x))):=by
  refine Pv_of' ok31 (by simp only [AV.closedBs,Event.enc_closed,Bool.and_self]) ?_
  generalize hr : chordE x = r
  unfold chordE at hr
  have ec : x.chord.enc = .agg [.sc (.int .i64 0),.sc (.int .i64 0),.sc (.int .i64 1),.sc (.int .i64 0),.sc (.int .i64 0),slm Head.enc x.heads,slm Grace.enc x.graces,.sc (.int .i64 x.articulations),.sc (.int .i64 x.ornament),.sc (.int .i64 x.dynamic),slm Syllable.enc x.lyrics,.sc (.int .i64 0),.sc (.int .i64 0)]:=rfl
  have w0 : within 0 99 = 0:=rfl
  have w1 : within 0 1073741824 = 0:=rfl
  have f0 : firstE [0,0] = 0:=rfl
  simp -implicitDefEqProofs (maxDischargeDepth:=12) only [wpF,cf31,WW,List.replicate,Option.some_or,s_conv,e_conv,s_slc3,e_cut3,e_cut3n,e_bns,e_bnn,e_splice,if_true,if_false,ite_true,ite_false,true_or,ne_eq,seval,h_putc,beq_self_eq_true,eq_self,exists_eq_left,exists_eq_left',ec]
  refine wA_pure rfl (within_pv _ _) ?_
  simp -implicitDefEqProofs (maxDischargeDepth:=12) only [WW,List.replicate,Option.some_or,s_conv,e_conv,s_slc3,e_cut3,e_cut3n,e_bns,e_bnn,e_splice,if_true,if_false,ite_true,ite_false,true_or,ne_eq,seval,h_putc,beq_self_eq_true,eq_self,exists_eq_left,exists_eq_left',ec]
  refine wA_pure rfl (within_pv _ _) ?_
  simp -implicitDefEqProofs (maxDischargeDepth:=12) only [WW,List.replicate,Option.some_or,s_conv,e_conv,s_slc3,e_cut3,e_cut3n,e_bns,e_bnn,e_splice,if_true,if_false,ite_true,ite_false,true_or,ne_eq,seval,h_putc,beq_self_eq_true,eq_self,exists_eq_left,exists_eq_left',ec,w0,w1]
  refine wA_first (l:=[0,0]) rfl ?_ (by simp) ?_
  · simp -implicitDefEqProofs (maxDischargeDepth:=12) only [WW,List.replicate,Option.some_or,s_conv,e_conv,s_slc3,e_cut3,e_cut3n,e_bns,e_bnn,e_splice,if_true,if_false,ite_true,ite_false,true_or,ne_eq,seval,h_putc,beq_self_eq_true,eq_self,exists_eq_left,exists_eq_left']; rfl
  simp -implicitDefEqProofs (maxDischargeDepth:=12) only [WW,List.replicate,Option.some_or,s_conv,e_conv,s_slc3,e_cut3,e_cut3n,e_bns,e_bnn,e_splice,if_true,if_false,ite_true,ite_false,true_or,ne_eq,seval,h_putc,beq_self_eq_true,eq_self,exists_eq_left,exists_eq_left',ec,f0]
  refine wA_pure rfl exists_pv ?_
  simp -implicitDefEqProofs (maxDischargeDepth:=12) only [WW,List.replicate,Option.some_or,s_conv,e_conv,s_slc3,e_cut3,e_cut3n,e_bns,e_bnn,e_splice,if_true,if_false,ite_true,ite_false,true_or,ne_eq,seval,h_putc,beq_self_eq_true,eq_self,exists_eq_left,exists_eq_left',ec]
  rw [← ec]
  refine wA_pure rfl (strip_pv x) ?_
  simp -implicitDefEqProofs (maxDischargeDepth:=12) only [WW,List.replicate,Option.some_or,s_conv,e_conv,s_slc3,e_cut3,e_cut3n,e_bns,e_bnn,e_splice,if_true,if_false,ite_true,ite_false,true_or,ne_eq,seval,h_putc,beq_self_eq_true,eq_self,exists_eq_left,exists_eq_left',ec]
  rw [← ec]
  refine wA_pure rfl (eSame_pv x.chord x.chord (Note.chord_tame tx)) ?_
  have es : decide (x.chord.noid = x.chord.noid) = true:=decide_eq_true rfl
  simp -implicitDefEqProofs (maxDischargeDepth:=12) only [WW,List.replicate,Option.some_or,s_conv,e_conv,s_slc3,e_cut3,e_cut3n,e_bns,e_bnn,e_splice,if_true,if_false,ite_true,ite_false,true_or,ne_eq,seval,h_putc,beq_self_eq_true,eq_self,exists_eq_left,exists_eq_left',ec,es]
  refine wA_pure rfl dur_pv ?_
  simp -implicitDefEqProofs (maxDischargeDepth:=12) only [WW,List.replicate,Option.some_or,s_conv,e_conv,s_slc3,e_cut3,e_cut3n,e_bns,e_bnn,e_splice,if_true,if_false,ite_true,ite_false,true_or,ne_eq,seval,h_putc,beq_self_eq_true,eq_self,exists_eq_left,exists_eq_left',ec]
  refine wA_pure rfl (heads_pv x.heads tx.heads) ?_
  simp -implicitDefEqProofs (maxDischargeDepth:=12) only [WW,List.replicate,Option.some_or,s_conv,e_conv,s_slc3,e_cut3,e_cut3n,e_bns,e_bnn,e_splice,if_true,if_false,ite_true,ite_false,true_or,ne_eq,seval,h_putc,beq_self_eq_true,eq_self,exists_eq_left,exists_eq_left',ec]
  refine wA_pure rfl (graces_pv x.graces tx.graces) ?_
  simp -implicitDefEqProofs (maxDischargeDepth:=12) only [WW,List.replicate,Option.some_or,s_conv,e_conv,s_slc3,e_cut3,e_cut3n,e_bns,e_bnn,e_splice,if_true,if_false,ite_true,ite_false,true_or,ne_eq,seval,h_putc,beq_self_eq_true,eq_self,exists_eq_left,exists_eq_left',ec]
  refine wA_pure rfl (lyrics_pv x.lyrics tx.lyrics tx.text) ?_
  simp -implicitDefEqProofs (maxDischargeDepth:=12) only [WW,List.replicate,Option.some_or,s_conv,e_conv,s_slc3,e_cut3,e_cut3n,e_bns,e_bnn,e_splice,if_true,if_false,ite_true,ite_false,true_or,ne_eq,seval,h_putc,beq_self_eq_true,eq_self,exists_eq_left,exists_eq_left',ec]
  refine wA_first (l:=[headsE x.heads.l,gracesE x.graces.l,lyricsE x.lyrics.l]) rfl ?_ (by simp) ?_
  · simp -implicitDefEqProofs (maxDischargeDepth:=12) only [WW,List.replicate,Option.some_or,s_conv,e_conv,s_slc3,e_cut3,e_cut3n,e_bns,e_bnn,e_splice,if_true,if_false,ite_true,ite_false,true_or,ne_eq,seval,h_putc,beq_self_eq_true,eq_self,exists_eq_left,exists_eq_left']; rfl
  generalize firstE [headsE x.heads.l,gracesE x.graces.l,lyricsE x.lyrics.l] = e at hr ⊢
  by_cases he : e = 0
  rotate_left
  · rw [if_pos he] at hr; subst hr
    simp -implicitDefEqProofs (maxDischargeDepth:=12) only [WW,List.replicate,Option.some_or,s_conv,e_conv,s_slc3,e_cut3,e_cut3n,e_bns,e_bnn,e_splice,if_true,if_false,ite_true,ite_false,true_or,ne_eq,seval,h_putc,beq_self_eq_true,eq_self,exists_eq_left,exists_eq_left',he]
    exact frz_sc
  rw [if_neg (by simpa using he)] at hr
  simp -implicitDefEqProofs (maxDischargeDepth:=12) only [WW,List.replicate,Option.some_or,s_conv,e_conv,s_slc3,e_cut3,e_cut3n,e_bns,e_bnn,e_splice,if_true,if_false,ite_true,ite_false,true_or,ne_eq,seval,h_putc,beq_self_eq_true,eq_self,exists_eq_left,exists_eq_left',ec,eq_true he]
  refine wA_pure rfl (within_pv _ _) ?_
  simp -implicitDefEqProofs (maxDischargeDepth:=12) only [WW,List.replicate,Option.some_or,s_conv,e_conv,s_slc3,e_cut3,e_cut3n,e_bns,e_bnn,e_splice,if_true,if_false,ite_true,ite_false,true_or,ne_eq,seval,h_putc,beq_self_eq_true,eq_self,exists_eq_left,exists_eq_left',ec]
  refine wA_pure rfl (within_pv _ _) ?_
  simp -implicitDefEqProofs (maxDischargeDepth:=12) only [WW,List.replicate,Option.some_or,s_conv,e_conv,s_slc3,e_cut3,e_cut3n,e_bns,e_bnn,e_splice,if_true,if_false,ite_true,ite_false,true_or,ne_eq,seval,h_putc,beq_self_eq_true,eq_self,exists_eq_left,exists_eq_left',ec]
  refine wA_pure rfl (within_pv _ _) ?_
  simp -implicitDefEqProofs (maxDischargeDepth:=12) only [WW,List.replicate,Option.some_or,s_conv,e_conv,s_slc3,e_cut3,e_cut3n,e_bns,e_bnn,e_splice,if_true,if_false,ite_true,ite_false,true_or,ne_eq,seval,h_putc,beq_self_eq_true,eq_self,exists_eq_left,exists_eq_left',ec]
  refine wA_pure rfl (within_pv _ _) ?_
  simp -implicitDefEqProofs (maxDischargeDepth:=12) only [WW,List.replicate,Option.some_or,s_conv,e_conv,s_slc3,e_cut3,e_cut3n,e_bns,e_bnn,e_splice,if_true,if_false,ite_true,ite_false,true_or,ne_eq,seval,h_putc,beq_self_eq_true,eq_self,exists_eq_left,exists_eq_left',ec]
  refine wA_pure rfl (within_pv _ _) ?_
  simp -implicitDefEqProofs (maxDischargeDepth:=12) only [WW,List.replicate,Option.some_or,s_conv,e_conv,s_slc3,e_cut3,e_cut3n,e_bns,e_bnn,e_splice,if_true,if_false,ite_true,ite_false,true_or,ne_eq,seval,h_putc,beq_self_eq_true,eq_self,exists_eq_left,exists_eq_left',ec]
  refine wA_first (l:=[within x.articulations 31,within x.ornament 4,within x.dynamic 9,within 0 2,within 0 2]) rfl ?_ (by simp) ?_
  · simp -implicitDefEqProofs (maxDischargeDepth:=12) only [WW,List.replicate,Option.some_or,s_conv,e_conv,s_slc3,e_cut3,e_cut3n,e_bns,e_bnn,e_splice,if_true,if_false,ite_true,ite_false,true_or,ne_eq,seval,h_putc,beq_self_eq_true,eq_self,exists_eq_left,exists_eq_left']; rfl
  rw [hr]
  simp -implicitDefEqProofs (maxDischargeDepth:=12) only [WW,List.replicate,Option.some_or,s_conv,e_conv,s_slc3,e_cut3,e_cut3n,e_bns,e_bnn,e_splice,if_true,if_false,ite_true,ite_false,true_or,ne_eq,seval,h_putc,beq_self_eq_true,eq_self,exists_eq_left,exists_eq_left',ec]
  exact frz_sc
end
end Go.Hem
namespace Go.Hem
noncomputable section
def outR (len : Int) (n : Note) : Prop:=n.at_ < 0 ∨ n.len < 1 ∨ len < n.at_ ∨ IntKind.i64.wrap (len - n.at_) < n.len
instance (len : Int) (n : Note) : Decidable (outR len n):=by unfold outR; exact inferInstance
def early (p : Option Note) (n : Note) : Prop:=match p with
  | some m => n.at_ < m.fin
  | none => False
instance (p : Option Note) (n : Note) : Decidable (early p n):=by unfold early; split <;> exact inferInstance
def checkL (len : Int) : Option Note→List Note→Int
  | _,[] => 0
  | p,n :: t => if outR len n then 2 else if early p n then 25 else if chordE n ≠ 0 then chordE n else checkL len (some n) t
def prevAt (l : List Note) (i : Nat) : Option Note:=if i = 0 then none else l[i - 1]?
theorem prev_succ {l : List Note} {i : Nat} {n : Note} (h : l[i]? = some n) : prevAt l (i + 1) = some n:=by
  unfold prevAt; rw [if_neg (by omega),Nat.add_sub_cancel,h]
def checkE (c : Clip) : Int :=
  if c.len < 0 ∨ 123863040 < c.len then 5 else if 4096 < c.notes.l.length then 9 else if checkL c.len none c.notes.l ≠ 0 then checkL c.len none c.notes.l
  else if (tidyP c.notes.l).map Note.cn = c.notes.l.map Note.cn then 0 else 22
theorem untieN_tame {n : Note} {nx : Option Note} (h : n.tame) : (untieN n nx).tame:=by
  rw [← untieTo_all (j:=n.heads.l.length) (by omega)]; exact untieTo_tame h
theorem untie_tame : ∀ {l : List Note},(∀ y ∈ l,y.tame)→∀ y ∈ untie l,y.tame
  | [],_,y,hy => by simp [untie] at hy
  | n :: t,h,y,hy => by
    simp only [untie,List.mem_cons] at hy
    rcases hy with rfl | hy
    · exact untieN_tame (h n (by simp))
    · exact untie_tame (fun y hy => h y (by simp [hy])) y hy
theorem tidyP_tame {l : List Note} (h : ∀ y ∈ l,y.tame) : (∀ y ∈ tidyP l,y.tame)∧(tidyP l).length ≤ l.length:=by
  obtain ⟨a,b⟩:=fold_tame h [] (by simp)
  refine ⟨untie_tame a,?_⟩
  unfold tidyP
  rw [untie_len]; simpa using b
theorem check_pv (c : Clip) (tc : c.tame) : Pv prog polS 16 [c.enc] (.sc (.int .i64 (checkE c))):=by
  refine Pv_of' ok16 (by simp only [AV.closedBs,Clip.enc_closed,Bool.and_self]) ?_
  obtain ⟨t1,t2⟩:=tc
  generalize hr : checkE c = r
  unfold checkE at hr
  by_cases b1 : c.len < 0
  · rw [if_pos (.inl b1)] at hr; subst hr
    simp -implicitDefEqProofs (maxDischargeDepth:=12) only [wpF,cf16,WW,List.replicate,Option.some_or,s_conv,e_conv,s_slc3,e_cut3,e_cut3n,e_bns,e_bnn,e_splice,if_true,if_false,ite_true,ite_false,true_or,ne_eq,seval,h_putc,beq_self_eq_true,eq_self,exists_eq_left,exists_eq_left',c.enc_eq,b1]
    exact frz_sc
  by_cases b2 : 123863040 < c.len
  · rw [if_pos (.inr b2)] at hr; subst hr
    simp -implicitDefEqProofs (maxDischargeDepth:=12) only [wpF,cf16,WW,List.replicate,Option.some_or,s_conv,e_conv,s_slc3,e_cut3,e_cut3n,e_bns,e_bnn,e_splice,if_true,if_false,ite_true,ite_false,true_or,ne_eq,seval,h_putc,beq_self_eq_true,eq_self,exists_eq_left,exists_eq_left',c.enc_eq,b1,b2]
    exact frz_sc
  rw [if_neg (by rintro (h | h) <;> contradiction)] at hr
  by_cases b3 : 4096 < c.notes.l.length
  · rw [if_pos b3] at hr; subst hr
    have b3' : (4096 : Int) < (c.notes.l.length : Int):=by omega
    simp -implicitDefEqProofs (maxDischargeDepth:=12) only [wpF,cf16,WW,List.replicate,Option.some_or,s_conv,e_conv,s_slc3,e_cut3,e_cut3n,e_bns,e_bnn,e_splice,if_true,if_false,ite_true,ite_false,true_or,ne_eq,seval,h_putc,beq_self_eq_true,eq_self,exists_eq_left,exists_eq_left',c.enc_eq,b1,b2,b3']
    exact frz_sc
  rw [if_neg b3] at hr
  have b3' : ¬ (4096 : Int) < (c.notes.l.length : Int):=by omega
  simp -implicitDefEqProofs (maxDischargeDepth:=12) only [wpF,cf16,WW,List.replicate,Option.some_or,s_conv,e_conv,s_slc3,e_cut3,e_cut3n,e_bns,e_bnn,e_splice,if_true,if_false,ite_true,ite_false,true_or,ne_eq,seval,h_putc,beq_self_eq_true,eq_self,exists_eq_left,exists_eq_left',c.enc_eq,b1,b2,b3']
  refine wp_loop (Inv:=fun k t H => ∃ (i : Nat),i + k = c.notes.l.length∧checkL c.len (prevAt c.notes.l i) (c.notes.l.drop i) = checkL c.len none c.notes.l∧H.cells 0 = some c.enc.cells∧1 ≤ H.next ∧
    ∃ x : Nat→AV,t = [c.enc,.ptr 0 0,x 2,x 3,x 4,x 5,x 6,x 7,x 8,x 9,x 10,x 11,x 12,x 13,x 14,x 15,x 16,x 17,x 18,slm Note.enc c.notes,.sc (.int .i64 c.notes.l.length),.sc (.int .i64 i),x 22,x 23,x 24,x 25,x 26,x 27,x 28,x 29,x 30,x 31,x 32,x 33,x 34,x 35,x 36,x 37,x 38,x 39,x 40,x 41,x 42,x 43,x 44,x 45,x 46,x 47,x 48,x 49,x 50,x 51,x 52,x 53,x 54,x 55,x 56,x 57,x 58,x 59,x 60,x 61,x 62,x 63,x 64,x 65,x 66,x 67,x 68,x 69,x 70,x 71,x 72,x 73,x 74,x 75,x 76,x 77,x 78]) (k:=c.notes.l.length) ?_
    ⟨0,by omega,rfl,?_,by simp,ex_x rfl⟩
  rotate_left
  · simp -implicitDefEqProofs (maxDischargeDepth:=12) only [WW,List.replicate,Option.some_or,s_conv,e_conv,s_slc3,e_cut3,e_cut3n,e_bns,e_bnn,e_splice,if_true,if_false,ite_true,ite_false,true_or,ne_eq,seval,h_putc,beq_self_eq_true,eq_self,exists_eq_left,exists_eq_left']; rfl
  rintro k t H ⟨i,hk,hf,hA,hN,x,rfl⟩
  simp only [c.enc_eq,c_agg] at hA
  by_cases c1 : (i : Int) < (c.notes.l.length : Int)
  · obtain ⟨y,hy⟩ : ∃ y,c.notes.l[i]? = some y:=⟨_,List.getElem?_eq_getElem (by omega)⟩
    have ty:=t2 y (List.mem_of_getElem? hy)
    have e2 : IntKind.i64.wrap ((i : Int) + 1) = ((i + 1 : Nat) : Int):=by rw [w64 (by omega) (by omega)]; omega
    have q0 : ¬ 0 = H.next:=by omega
    have q1 : ¬ H.next = 0:=by omega
    rw [drop_cons hy] at hf
    simp only [checkL] at hf
    generalize hrr : checkL c.len none c.notes.l = rr at hf hr
    have hrr2 : rr ≠ 0→r = rr:=fun h => by rw [if_pos h] at hr; exact hr.symm
    by_cases c3 : y.at_ < 0
    · rw [if_pos (.inl c3)] at hf; rw [hrr2 (by rw [← hf]; decide),← hf]
      simp -implicitDefEqProofs (maxDischargeDepth:=12) only [WW,List.replicate,Option.some_or,s_conv,e_conv,s_slc3,e_cut3,e_cut3n,e_bns,e_bnn,e_splice,if_true,if_false,ite_true,ite_false,true_or,ne_eq,seval,h_putc,beq_self_eq_true,eq_self,exists_eq_left,exists_eq_left',hA,c1,hy,y.enc_eq,q0,q1,c3]
      exact frz_sc
    by_cases c4 : y.len < 1
    · rw [if_pos (.inr (.inl c4))] at hf; rw [hrr2 (by rw [← hf]; decide),← hf]
      simp -implicitDefEqProofs (maxDischargeDepth:=12) only [WW,List.replicate,Option.some_or,s_conv,e_conv,s_slc3,e_cut3,e_cut3n,e_bns,e_bnn,e_splice,if_true,if_false,ite_true,ite_false,true_or,ne_eq,seval,h_putc,beq_self_eq_true,eq_self,exists_eq_left,exists_eq_left',hA,c1,hy,y.enc_eq,q0,q1,c3,c4]
      exact frz_sc
    by_cases c5 : c.len < y.at_
    · rw [if_pos (.inr (.inr (.inl c5)))] at hf; rw [hrr2 (by rw [← hf]; decide),← hf]
      simp -implicitDefEqProofs (maxDischargeDepth:=12) only [WW,List.replicate,Option.some_or,s_conv,e_conv,s_slc3,e_cut3,e_cut3n,e_bns,e_bnn,e_splice,if_true,if_false,ite_true,ite_false,true_or,ne_eq,seval,h_putc,beq_self_eq_true,eq_self,exists_eq_left,exists_eq_left',hA,c1,hy,y.enc_eq,q0,q1,c3,c4,c5]
      exact frz_sc
    by_cases c6 : IntKind.i64.wrap (c.len - y.at_) < y.len
    · rw [if_pos (.inr (.inr (.inr c6)))] at hf; rw [hrr2 (by rw [← hf]; decide),← hf]
      simp -implicitDefEqProofs (maxDischargeDepth:=12) only [WW,List.replicate,Option.some_or,s_conv,e_conv,s_slc3,e_cut3,e_cut3n,e_bns,e_bnn,e_splice,if_true,if_false,ite_true,ite_false,true_or,ne_eq,seval,h_putc,beq_self_eq_true,eq_self,exists_eq_left,exists_eq_left',hA,c1,hy,y.enc_eq,q0,q1,c3,c4,c5,c6]
      exact frz_sc
    rw [if_neg (by unfold outR; rintro (h | h | h | h) <;> contradiction)] at hf
    by_cases i0 : (0 : Int) < (i : Int)
    · obtain ⟨m,hm⟩ : ∃ y,c.notes.l[i - 1]? = some y:=⟨_,List.getElem?_eq_getElem (by omega)⟩
      have hp : prevAt c.notes.l i = some m:=by unfold prevAt; rw [if_neg (by omega),hm]
      have em : IntKind.i64.wrap ((i : Int) - 1) = ((i - 1 : Nat) : Int):=by rw [w64 (by omega) (by omega)]; omega
      rw [hp] at hf
      simp -implicitDefEqProofs (maxDischargeDepth:=12) only [WW,List.replicate,Option.some_or,s_conv,e_conv,s_slc3,e_cut3,e_cut3n,e_bns,e_bnn,e_splice,if_true,if_false,ite_true,ite_false,true_or,ne_eq,seval,h_putc,beq_self_eq_true,eq_self,exists_eq_left,exists_eq_left',hA,c1,hy,y.enc_eq,q0,q1,c3,c4,c5,c6,i0,em,hm,m.enc_eq]
      rw [← m.enc_eq]
      refine wA_pure rfl (end_pv m) ?_
      by_cases c7 : y.at_ < m.fin
      · rw [if_pos (show early (some m) y from c7)] at hf
        rw [hrr2 (by rw [← hf]; decide),← hf]
        simp -implicitDefEqProofs (maxDischargeDepth:=12) only [WW,List.replicate,Option.some_or,s_conv,e_conv,s_slc3,e_cut3,e_cut3n,e_bns,e_bnn,e_splice,if_true,if_false,ite_true,ite_false,true_or,ne_eq,seval,h_putc,beq_self_eq_true,eq_self,exists_eq_left,exists_eq_left',hA,q0,q1,c7]
        exact frz_sc
      rw [if_neg (show ¬ early (some m) y from c7)] at hf
      simp -implicitDefEqProofs (maxDischargeDepth:=12) only [WW,List.replicate,Option.some_or,s_conv,e_conv,s_slc3,e_cut3,e_cut3n,e_bns,e_bnn,e_splice,if_true,if_false,ite_true,ite_false,true_or,ne_eq,seval,h_putc,beq_self_eq_true,eq_self,exists_eq_left,exists_eq_left',hA,q0,q1,c7]
      rw [← y.enc_eq]
      refine wA_pure rfl (chord_pv y ty) ?_
      simp -implicitDefEqProofs (maxDischargeDepth:=12) only [WW,List.replicate,Option.some_or,s_conv,e_conv,s_slc3,e_cut3,e_cut3n,e_bns,e_bnn,e_splice,if_true,if_false,ite_true,ite_false,true_or,ne_eq,seval,h_putc,beq_self_eq_true,eq_self,exists_eq_left,exists_eq_left']
      refine wA_pure rfl (echeck_pv y ty) ?_
      by_cases c8 : chordE y = 0
      · rw [if_neg (by simpa using c8)] at hf
        simp -implicitDefEqProofs (maxDischargeDepth:=12) only [WW,List.replicate,Option.some_or,s_conv,e_conv,s_slc3,e_cut3,e_cut3n,e_bns,e_bnn,e_splice,if_true,if_false,ite_true,ite_false,true_or,ne_eq,seval,h_putc,beq_self_eq_true,eq_self,exists_eq_left,exists_eq_left',c8,e2]
        exact ⟨k - 1,by omega,i + 1,by omega,by rw [prev_succ hy]; exact hf,by rw [if_neg q0,if_neg q0,hA]; rfl,ex_x rfl⟩
      · rw [if_pos c8] at hf
        rw [hrr2 (by rw [← hf]; exact c8),← hf]
        simp -implicitDefEqProofs (maxDischargeDepth:=12) only [WW,List.replicate,Option.some_or,s_conv,e_conv,s_slc3,e_cut3,e_cut3n,e_bns,e_bnn,e_splice,if_true,if_false,ite_true,ite_false,true_or,ne_eq,seval,h_putc,beq_self_eq_true,eq_self,exists_eq_left,exists_eq_left',c8]
        exact frz_sc
    · have hp : prevAt c.notes.l i = none:=by unfold prevAt; rw [if_pos (by omega)]
      rw [hp,if_neg (show ¬ early none y from fun h => h)] at hf
      simp -implicitDefEqProofs (maxDischargeDepth:=12) only [WW,List.replicate,Option.some_or,s_conv,e_conv,s_slc3,e_cut3,e_cut3n,e_bns,e_bnn,e_splice,if_true,if_false,ite_true,ite_false,true_or,ne_eq,seval,h_putc,beq_self_eq_true,eq_self,exists_eq_left,exists_eq_left',hA,c1,hy,y.enc_eq,q0,q1,c3,c4,c5,c6,i0]
      rw [← y.enc_eq]
      refine wA_pure rfl (chord_pv y ty) ?_
      simp -implicitDefEqProofs (maxDischargeDepth:=12) only [WW,List.replicate,Option.some_or,s_conv,e_conv,s_slc3,e_cut3,e_cut3n,e_bns,e_bnn,e_splice,if_true,if_false,ite_true,ite_false,true_or,ne_eq,seval,h_putc,beq_self_eq_true,eq_self,exists_eq_left,exists_eq_left']
      refine wA_pure rfl (echeck_pv y ty) ?_
      by_cases c8 : chordE y = 0
      · rw [if_neg (by simpa using c8)] at hf
        simp -implicitDefEqProofs (maxDischargeDepth:=12) only [WW,List.replicate,Option.some_or,s_conv,e_conv,s_slc3,e_cut3,e_cut3n,e_bns,e_bnn,e_splice,if_true,if_false,ite_true,ite_false,true_or,ne_eq,seval,h_putc,beq_self_eq_true,eq_self,exists_eq_left,exists_eq_left',c8,e2]
        exact ⟨k - 1,by omega,i + 1,by omega,by rw [prev_succ hy]; exact hf,by rw [if_neg q0,if_neg q0,hA]; rfl,ex_x rfl⟩
      · rw [if_pos c8] at hf
        rw [hrr2 (by rw [← hf]; exact c8),← hf]
        simp -implicitDefEqProofs (maxDischargeDepth:=12) only [WW,List.replicate,Option.some_or,s_conv,e_conv,s_slc3,e_cut3,e_cut3n,e_bns,e_bnn,e_splice,if_true,if_false,ite_true,ite_false,true_or,ne_eq,seval,h_putc,beq_self_eq_true,eq_self,exists_eq_left,exists_eq_left',c8]
        exact frz_sc
  · rw [drop_end c1] at hf
    have hf0 : checkL c.len none c.notes.l = 0:=hf.symm
    rw [hf0,if_neg (by simp)] at hr
    simp -implicitDefEqProofs (maxDischargeDepth:=12) only [WW,List.replicate,Option.some_or,s_conv,e_conv,s_slc3,e_cut3,e_cut3n,e_bns,e_bnn,e_splice,if_true,if_false,ite_true,ite_false,true_or,ne_eq,seval,h_putc,beq_self_eq_true,eq_self,exists_eq_left,exists_eq_left',hA,c1]
    refine wA_pure rfl (tidy_pv c.notes t1 t2) ?_
    have tt:=tidyP_tame t2
    simp -implicitDefEqProofs (maxDischargeDepth:=12) only [WW,List.replicate,Option.some_or,s_conv,e_conv,s_slc3,e_cut3,e_cut3n,e_bns,e_bnn,e_splice,if_true,if_false,ite_true,ite_false,true_or,ne_eq,seval,h_putc,beq_self_eq_true,eq_self,exists_eq_left,exists_eq_left',hA]
    have eg : ∀ (x : AV) t,aev (x :: t) (.func 37) = .func (.func 37) [] []:=fun _ _ => rfl
    simp only [eg]
    refine wA_pure rfl (eqNotes_pv (Sl.of (tidyP c.notes.l)) c.notes (by rw [l_of]; omega) (by rw [l_of]; exact tt.1) t2) ?_
    rw [l_of]
    by_cases d1 : (tidyP c.notes.l).map Note.cn = c.notes.l.map Note.cn
    · rw [if_pos d1] at hr; subst hr
      simp -implicitDefEqProofs (maxDischargeDepth:=12) only [WW,List.replicate,Option.some_or,s_conv,e_conv,s_slc3,e_cut3,e_cut3n,e_bns,e_bnn,e_splice,if_true,if_false,ite_true,ite_false,true_or,ne_eq,seval,h_putc,beq_self_eq_true,eq_self,exists_eq_left,exists_eq_left',eq_true d1]
      exact frz_sc
    · rw [if_neg d1] at hr; subst hr
      simp -implicitDefEqProofs (maxDischargeDepth:=12) only [WW,List.replicate,Option.some_or,s_conv,e_conv,s_slc3,e_cut3,e_cut3n,e_bns,e_bnn,e_splice,if_true,if_false,ite_true,ite_false,true_or,ne_eq,seval,h_putc,beq_self_eq_true,eq_self,exists_eq_left,exists_eq_left',d1]
      exact frz_sc
end
end Go.Hem
namespace Go.Hem
theorem rheads_ok (a : Sl Head) (ha : a.l.length < 1000000) (H0 : AHeap) : Ev prog polS (.call 14 [slm Head.enc a]) H0 fun o H' => ∃ v fp,o = .val v∧AccX false 1 5 Head.enc H' v (some a.l) fp∧Fresh H0 H' fp:=by
  refine (wpF_ok ok14 (Q:=fun v H' => ∃ fp,AccX false 1 5 Head.enc H' v (some a.l) fp∧Fresh H0 H' fp) ?_).mono ?_
  rotate_left
  · rintro o H' ⟨v,rfl,fp,h⟩; exact ⟨v,fp,rfl,h⟩
  simp -implicitDefEqProofs (maxDischargeDepth:=12) only [wpF,cf14,WW,List.replicate,Option.some_or,s_conv,e_conv,s_slc3,e_cut3,e_cut3n,e_bns,e_bnn,e_splice,if_true,if_false,ite_true,ite_false,true_or,ne_eq,seval,h_putc,beq_self_eq_true,eq_self,exists_eq_left,exists_eq_left']
  refine wA_app3 (f:=Head.enc) (bytes:=40) row_Head (I:=false) (d:=1) (l:=[]) (fp:=[H0.next]) (ys:=a.l) (.inr ⟨H0.next,0,[],[],[],[],rfl,rfl,Nat.le_refl _,?_,rfl,by simp,.nil,by simp,rfl⟩) Keep.refl (Nat.le_refl _) e_alenm (by rw [e_srcm Head.enc_len (Nat.le_refl _),List.take_length]) (OwnL.scal (by
    simp only [List.all_eq_true]
    intro v hv
    obtain ⟨x,_,hx⟩:=List.mem_flatMap.1 hv
    have : (Head.enc x).cells.all AV.isSc = true:=rfl
    exact List.all_eq_true.1 this v hx)) Apart.nil_right (by simp only [List.length_nil]; omega) ?_
  · simp -implicitDefEqProofs (maxDischargeDepth:=12) only [WW,List.replicate,Option.some_or,s_conv,e_conv,s_slc3,e_cut3,e_cut3n,e_bns,e_bnn,e_splice,if_true,if_false,ite_true,ite_false,true_or,ne_eq,seval,h_putc,beq_self_eq_true,eq_self,exists_eq_left,exists_eq_left']
  intro v' H' fp' h1 h2 h3 h4 h5 h6
  simp only [AHeap.next_alloc] at h2 h3
  simp -implicitDefEqProofs (maxDischargeDepth:=12) only [WW,List.replicate,Option.some_or,s_conv,e_conv,s_slc3,e_cut3,e_cut3n,e_bns,e_bnn,e_splice,if_true,if_false,ite_true,ite_false,true_or,ne_eq,seval,h_putc,beq_self_eq_true,eq_self,exists_eq_left,exists_eq_left']
  refine ⟨fp',h1,fun b hb => ?_,by omega,fun b hb => ?_⟩
  · rcases h4 b hb with h | h | h
    · simp at h; omega
    · simp at h
    · simp only [AHeap.next_alloc] at h; omega
  · rw [h3 b (by simp; omega) (by omega),c_alloc_ne (by omega)]
def Note.own (x : Note) : Note:={ x with heads:=some x.heads.l }
theorem Note.own_tame {x : Note} (h : x.tame) : x.own.tame:=⟨h.heads,h.graces,h.lyrics,h.text⟩
theorem noteQ_heads {H : AHeap} {x : Note} {hv : AV} {fh : List Nat} (h : AccQ HeadQ 5 H hv x.heads fh) : NoteQ H [intE x.at_,intE x.len,hv,slm Grace.enc x.graces,intE x.articulations,intE x.ornament,intE x.dynamic,slm Syllable.enc x.lyrics] x fh :=
  ⟨hv,_,_,fh,[],[],rfl,h,own_imm Grace.enc_closed,own_imm Syllable.enc_closed,o_slm,o_slm,Apart.nil_right,Apart.nil_right,Apart.nil_left,by simp⟩
def foldR (l : List Note) : List Note:=(l.map Note.own).foldl stepT []
theorem foldR_take {l : List Note} {i : Nat} {x : Note} (h : l[i]? = some x) : foldR (l.take (i + 1)) = stepT (foldR (l.take i)) x.own:=by
  unfold foldR
  rw [List.take_add_one,h,List.map_append,List.foldl_append]; rfl
theorem foldR_tame {l : List Note} (h : ∀ y ∈ l,y.tame) : (∀ y ∈ foldR l,y.tame)∧(foldR l).length ≤ l.length:=by
  have:=fold_tame (l:=l.map Note.own) (fun y hy => by
    obtain ⟨z,hz,rfl⟩:=List.mem_map.1 hy
    exact Note.own_tame (h z hz)) [] (by simp)
  simpa [foldR] using this
def Note.mergeTo (a x : Note) (j : Nat) : Note:={ a with len:=IntKind.i64.wrap (a.len + x.len),heads:=a.heads.map fun l => tieUpTo j l x.heads.l }
theorem mergeTo_zero {a x : Note} : a.mergeTo x 0 = { a with len:=IntKind.i64.wrap (a.len + x.len) }:=by
  unfold Note.mergeTo
  have : a.heads.map (fun l => tieUpTo 0 l x.heads.l) = a.heads:=by cases a.heads <;> simp [tieUp_zero]
  rw [this]
theorem mergeTo_all {a x : Note} {j : Nat} (hlen : a.heads.l.length = x.heads.l.length) (h : ¬ j < a.heads.l.length) : a.mergeTo x j = merge a x:=by
  unfold Note.mergeTo merge
  have : a.heads.map (fun l => tieUpTo j l x.heads.l) = a.heads.map fun l => tieTo l x.heads.l:=by
    cases e : a.heads with
    | none => rfl
    | some l =>
      rw [e] at hlen h
      simp only [Option.map_some,Option.some.injEq]
      exact tieUp_all hlen (by rw [l_some] at h; exact h)
  rw [this]
theorem mergeTo_heads {a x : Note} {j : Nat} (hlen : a.heads.l.length = x.heads.l.length) : (a.mergeTo x j).heads.l = tieUpTo j a.heads.l x.heads.l:=by
  show Sl.l (a.heads.map _) = _
  cases e : a.heads with
  | none => rw [e] at hlen; simp [Sl.l,tieUpTo,tieTo]
  | some l => rfl
theorem mergeTo_succ {a x : Note} {j : Nat} {u w : Head} (hlen : a.heads.l.length = x.heads.l.length) (hu : a.heads.l[j]? = some u) (hw : x.heads.l[j]? = some w) : { a.mergeTo x j with heads:=some ((a.mergeTo x j).heads.l.set j (u.tie w.tied)) } = a.mergeTo x (j + 1):=by
  rw [mergeTo_heads hlen,tieUp_set hlen hu hw]
  unfold Note.mergeTo
  have : a.heads.map (fun l => tieUpTo (j + 1) l x.heads.l) = some (tieUpTo (j + 1) a.heads.l x.heads.l):=by
    cases e : a.heads with
    | none => rw [e] at hu; simp [Sl.l] at hu
    | some l => rfl
  rw [this]
end Go.Hem
namespace Go.Hem
def tidyR (l : List Note) : List Note:=untie (foldR l)
theorem rtidy_pv (s : Sl Note) (hs : s.l.length < 1000000) (ts : ∀ y ∈ s.l,y.tame) : Pv prog polS 15 [slm Note.enc s] (slm Note.enc (Sl.of (tidyR s.l))):=by
  refine Pv_of' ok15 (by simp only [AV.closedBs,closedB_slm Note.enc_closed,Bool.and_self]) ?_
  simp -implicitDefEqProofs (maxDischargeDepth:=12) only [wpF,cf15,WW,List.replicate,Option.some_or,s_conv,e_conv,s_slc3,e_cut3,e_cut3n,e_bns,e_bnn,e_splice,if_true,if_false,ite_true,ite_false,true_or,ne_eq,seval,h_putc,beq_self_eq_true,eq_self,exists_eq_left,exists_eq_left']
  refine wp_loop (Inv:=fun k t H => ∃ (i : Nat) (v : AV) (fp : List Nat),i + k = s.l.length∧AccQ NoteQ 8 H v (Sl.of (foldR (s.l.take i))) fp ∧
    ∃ y : Nat→AV,t = [slm Note.enc s,y 1,y 2,v,.sc (.int .i64 i),y 5,y 6,y 7,y 8,y 9,y 10,y 11,y 12,y 13,y 14,y 15,y 16,y 17,y 18,y 19,y 20,y 21,y 22,y 23,y 24,y 25,y 26,y 27,y 28,y 29,y 30,y 31,y 32,y 33,y 34,y 35,y 36,y 37,y 38,y 39,y 40,y 41,y 42,y 43,y 44,y 45,y 46,y 47,y 48,y 49,y 50,y 51,y 52,y 53,y 54,y 55,y 56,y 57,y 58,y 59,y 60,y 61,y 62,y 63,y 64,y 65,y 66,y 67,y 68,y 69,y 70,y 71,y 72,y 73,y 74,y 75,y 76,y 77,y 78,y 79,y 80,y 81,y 82,y 83,y 84,y 85,y 86,y 87,y 88,y 89,y 90,y 91,y 92,y 93,y 94,y 95,y 96,y 97,y 98,y 99,y 100,y 101,y 102,y 103,y 104,y 105,y 106,y 107,y 108,y 109,y 110,y 111,y 112,y 113,y 114,y 115,y 116,y 117,y 118,y 119,y 120,y 121,y 122,y 123,y 124,y 125,y 126,y 127,y 128,y 129,y 130,y 131,y 132,y 133,y 134,y 135,y 136,y 137,y 138,y 139,y 140,y 141,y 142,y 143,y 144,y 145,y 146,y 147,y 148,y 149,y 150,y 151,y 152,y 153,y 154,y 155,y 156,y 157,y 158,y 159,y 160,y 161,y 162,y 163,y 164,y 165,y 166,y 167,y 168,y 169,y 170]) (k:=s.l.length) ?_
    ⟨0,_,[],by omega,accQ_none,ex_x rfl⟩
  rintro k t H0 ⟨i,v,fp,hk,hA,y,rfl⟩
  by_cases c1 : (i : Int) < (s.l.length : Int)
  rotate_left
  · rw [List.take_of_length_le (by omega)] at hA
    simp -implicitDefEqProofs (maxDischargeDepth:=12) only [WW,List.replicate,Option.some_or,s_conv,e_conv,s_slc3,e_cut3,e_cut3n,e_bns,e_bnn,e_splice,if_true,if_false,ite_true,ite_false,true_or,ne_eq,seval,h_putc,beq_self_eq_true,eq_self,exists_eq_left,exists_eq_left',c1]
    have tF:=foldR_tame ts
    unfold tidyR
    generalize foldR s.l = F at hA tF
    obtain ⟨tF,lF⟩:=tF
    clear hk c1
    refine wp_loop (Inv:=fun k t H => ∃ (i : Nat) (f2 : List Nat),i + k = F.length∧AccQ NoteQ 8 H v (Sl.of (untieUpTo i F)) f2 ∧
      ∃ y : Nat→AV,t = [slm Note.enc s,y 1,y 2,v,y 4,y 5,y 6,y 7,.sc (.int .i64 i),y 9,y 10,y 11,y 12,y 13,y 14,y 15,y 16,y 17,y 18,y 19,y 20,y 21,y 22,y 23,y 24,y 25,y 26,y 27,y 28,y 29,y 30,y 31,y 32,y 33,y 34,y 35,y 36,y 37,y 38,y 39,y 40,y 41,y 42,y 43,y 44,y 45,y 46,y 47,y 48,y 49,y 50,y 51,y 52,y 53,y 54,y 55,y 56,y 57,y 58,y 59,y 60,y 61,y 62,y 63,y 64,y 65,y 66,y 67,y 68,y 69,y 70,y 71,y 72,y 73,y 74,y 75,y 76,y 77,y 78,y 79,y 80,y 81,y 82,y 83,y 84,y 85,y 86,y 87,y 88,y 89,y 90,y 91,y 92,y 93,y 94,y 95,y 96,y 97,y 98,y 99,y 100,y 101,y 102,y 103,y 104,y 105,y 106,y 107,y 108,y 109,y 110,y 111,y 112,y 113,y 114,y 115,y 116,y 117,y 118,y 119,y 120,y 121,y 122,y 123,y 124,y 125,y 126,y 127,y 128,y 129,y 130,y 131,y 132,y 133,y 134,y 135,y 136,y 137,y 138,y 139,y 140,y 141,y 142,y 143,y 144,y 145,y 146,y 147,y 148,y 149,y 150,y 151,y 152,y 153,y 154,y 155,y 156,y 157,y 158,y 159,y 160,y 161,y 162,y 163,y 164,y 165,y 166,y 167,y 168,y 169,y 170]) (k:=F.length) ?_
      ⟨0,fp,by omega,by rw [untieUp_zero]; exact hA,ex_x rfl⟩
    clear hA fp H0 y i
    rintro k t H ⟨i,fp,hk,hA,y,rfl⟩
    have hl:=hA.length.1
    rw [l_of,untieUp_len] at hl
    by_cases c1 : (i : Int) < (F.length : Int)
    rotate_left
    · rw [untieUp_all (by omega)] at hA
      simp -implicitDefEqProofs (maxDischargeDepth:=12) only [WW,List.replicate,Option.some_or,s_conv,e_conv,s_slc3,e_cut3,e_cut3n,e_bns,e_bnn,e_splice,if_true,if_false,ite_true,ite_false,true_or,ne_eq,seval,h_putc,beq_self_eq_true,eq_self,exists_eq_left,exists_eq_left',c1,hl]
      exact hA.frz noteQ (by decide)
    have hil : i < F.length:=by omega
    obtain ⟨n,hn⟩ : ∃ y,F[i]? = some y:=⟨_,List.getElem?_eq_getElem hil⟩
    have e2 : IntKind.i64.wrap ((i : Int) + 1) = ((i + 1 : Nat) : Int):=by rw [w64 (by omega) (by omega)]; omega
    have tn:=tF n (List.mem_of_getElem? hn)
    rw [of_isSome (by rw [untieUp_len]; omega)] at hA
    obtain ⟨b,cap,cs,r,g,hv,a1,a2,a3,a4,a5,a6,a7,a8,a9,a10,a11,a12,a13⟩:=note_cells hA (i:=i) (x:=n) (by rw [l_some,untieUp_ge (Nat.le_refl _) hil]; exact hn)
    simp only [l_some,untieUp_len] at a1
    subst a1
    simp -implicitDefEqProofs (maxDischargeDepth:=12) only [WW,List.replicate,Option.some_or,s_conv,e_conv,s_slc3,e_cut3,e_cut3n,e_bns,e_bnn,e_splice,if_true,if_false,ite_true,ite_false,true_or,ne_eq,seval,h_putc,beq_self_eq_true,eq_self,exists_eq_left,exists_eq_left',c1,hil]
    refine wp_loop (Inv:=fun k' t H => ∃ (j : Nat) (f2 : List Nat),j + k' = n.heads.l.length∧AccQ NoteQ 8 H (.slice b 0 F.length cap 8) (some ((untieUpTo i F).set i (n.untieTo F[i + 1]? j))) f2 ∧
      ∃ y : Nat→AV,t = [slm Note.enc s,y 1,y 2,.slice b 0 F.length cap 8,y 4,y 5,y 6,y 7,.sc (.int .i64 i),.sc (.int .i64 j),y 10,y 11,y 12,y 13,y 14,y 15,y 16,y 17,y 18,y 19,y 20,y 21,y 22,y 23,y 24,y 25,y 26,y 27,y 28,y 29,y 30,y 31,y 32,y 33,y 34,y 35,y 36,y 37,y 38,y 39,y 40,y 41,y 42,y 43,y 44,y 45,y 46,y 47,y 48,y 49,y 50,y 51,y 52,y 53,y 54,y 55,y 56,y 57,y 58,y 59,y 60,y 61,y 62,y 63,y 64,y 65,y 66,y 67,y 68,y 69,y 70,y 71,y 72,y 73,y 74,y 75,y 76,y 77,y 78,y 79,y 80,y 81,y 82,y 83,y 84,y 85,y 86,y 87,y 88,y 89,y 90,y 91,y 92,y 93,y 94,y 95,y 96,y 97,y 98,y 99,y 100,y 101,y 102,y 103,y 104,y 105,y 106,y 107,y 108,y 109,y 110,y 111,y 112,y 113,y 114,y 115,y 116,y 117,y 118,y 119,y 120,y 121,y 122,y 123,y 124,y 125,y 126,y 127,y 128,y 129,y 130,y 131,y 132,y 133,y 134,y 135,y 136,y 137,y 138,y 139,y 140,y 141,y 142,y 143,y 144,y 145,y 146,y 147,y 148,y 149,y 150,y 151,y 152,y 153,y 154,y 155,y 156,y 157,y 158,y 159,y 160,y 161,y 162,y 163,y 164,y 165,y 166,y 167,y 168,y 169,y 170]) (k:=n.heads.l.length) ?_
      ⟨0,fp,by omega,?_,ex_x rfl⟩
    rotate_left
    · rw [untieTo_zero]
      have : (untieUpTo i F).set i n = untieUpTo i F:=by
        apply List.ext_getElem?
        intro q
        rw [List.getElem?_set]
        split
        · rename_i e; subst e
          rw [untieUp_len,if_pos hil,untieUp_ge (Nat.le_refl _) hil,hn]
        · rfl
      rw [this]; exact hA
    clear hA hl a2 a3 a4 a5 a6 a7 a8 a9 a10 a11 a12 a13 y H fp
    rintro k' t H ⟨j,fp,hk',hA,y,rfl⟩
    obtain ⟨b',cap',cs,r,g,hv',a1,a2,a3,a4,a5,a6,a7,a8,a9,a10,a11,a12,a13⟩:=note_cells hA (i:=i) (x:=n.untieTo F[i + 1]? j) (by rw [l_some,List.getElem?_set_self (by rw [untieUp_len]; exact hil)])
    simp only [l_some,AV.slice.injEq,true_and,and_true] at a1
    obtain ⟨rfl,_,rfl⟩:=a1
    rw [untieTo_heads,mapTo_len] at a11
    by_cases d1 : (j : Int) < (n.heads.l.length : Int)
    rotate_left
    · rw [untieTo_all (by omega),untieUp_set hn] at hA
      simp -implicitDefEqProofs (maxDischargeDepth:=12) only [WW,List.replicate,Option.some_or,s_conv,e_conv,s_slc3,e_cut3,e_cut3n,e_bns,e_bnn,e_splice,if_true,if_false,ite_true,ite_false,true_or,ne_eq,seval,h_putc,beq_self_eq_true,eq_self,exists_eq_left,exists_eq_left',d1,e2,hil,a2,a6,a11]
      exact ⟨k - 1,by omega,i + 1,fp,by omega,by rw [of_isSome (by rw [untieUp_len]; omega)]; exact hA,ex_x rfl⟩
    have hjl : j < n.heads.l.length:=by omega
    obtain ⟨h,hh⟩ : ∃ y,n.heads.l[j]? = some y:=⟨_,List.getElem?_eq_getElem hjl⟩
    have e3 : IntKind.i64.wrap ((j : Int) + 1) = ((j + 1 : Nat) : Int):=by rw [w64 (by omega) (by have:=tn.heads; omega)]; omega
    obtain ⟨bh,caph,ch,c2,c3,c4,c5,c6,c7,c8,c9⟩:=a13 j h (by rw [untieTo_heads]; exact mapTo_get hh)
    rw [untieTo_heads,mapTo_len] at c2
    subst c2
    have hle : j * 5 + 3 + 1 ≤ ch.length:=by omega
    have hle2 : j * 5 + 3 ≤ ch.length:=by omega
    have fin : ∀ H',H' = H.put bh (some (.cells (splice ch (j * 5 + 3) [.sc (.bool (keepTie n F[i + 1]? h))])))→∃ f3,AccQ NoteQ 8 H' (.slice b 0 F.length cap 8) (some ((untieUpTo i F).set i (n.untieTo F[i + 1]? (j + 1)))) f3:=by
      rintro H' rfl
      obtain ⟨f3,p1,p2⟩:=c9 (keepTie n F[i + 1]? h)
      rw [untieTo_succ hh,l_some,List.set_set] at p1
      exact ⟨f3,p1⟩
    cases ht : h.tied with
    | false =>
      have hkt : h.tie (keepTie n F[i + 1]? h) = h:=by unfold keepTie; rw [ht]; cases h; simp only at ht; subst ht; rfl
      have hsame : n.untieTo F[i + 1]? (j + 1) = n.untieTo F[i + 1]? j:=by
        have e:=untieTo_succ (nx:=F[i + 1]?) hh
        rw [hkt] at e
        rw [← e]
        have e4 : (n.untieTo F[i + 1]? j).heads.l.set j h = (n.untieTo F[i + 1]? j).heads.l:=by
          apply List.ext_getElem?
          intro q
          rw [List.getElem?_set]
          split
          · rename_i e; subst e
            rw [untieTo_heads,mapTo_len,if_pos hjl,mapTo_get hh]
          · rfl
        rw [e4]
        have e5 : (n.untieTo F[i + 1]? j).heads = some (n.untieTo F[i + 1]? j).heads.l:=by
          have : (n.untieTo F[i + 1]? j).heads = n.heads.map (mapTo (fun h => h.tie (keepTie n F[i + 1]? h)) j):=rfl
          rw [this]
          cases e6 : n.heads with
          | none => rw [e6] at hjl; simp [Sl.l] at hjl
          | some l => rfl
        generalize n.untieTo F[i + 1]? j = z at e5
        cases z; simp only at e5; rw [e5]; rfl
      simp -implicitDefEqProofs (maxDischargeDepth:=12) only [WW,List.replicate,Option.some_or,s_conv,e_conv,s_slc3,e_cut3,e_cut3n,e_bns,e_bnn,if_true,if_false,ite_true,ite_false,true_or,ne_eq,seval,beq_self_eq_true,eq_self,exists_eq_left,exists_eq_left',d1,hil,hjl,a2,a6,a11,c3,c5,ht,e3]
      exact ⟨k' - 1,by omega,j + 1,fp,by omega,by rw [hsame]; exact hA,ex_x rfl⟩
    | true =>
      by_cases n1 : i + 1 < F.length
      rotate_left
      · have hkt : keepTie n F[i + 1]? h = false:=by unfold keepTie; rw [ht,List.getElem?_eq_none (by omega)]; rfl
        rw [hkt] at fin
        have n1' : ¬ ((i + 1 : Nat) : Int) < (F.length : Int):=by omega
        simp -implicitDefEqProofs (maxDischargeDepth:=12) only [WW,List.replicate,Option.some_or,s_conv,e_conv,s_slc3,e_cut3,e_cut3n,e_bns,e_bnn,if_true,if_false,ite_true,ite_false,true_or,ne_eq,seval,beq_self_eq_true,eq_self,exists_eq_left,exists_eq_left',d1,hil,hjl,a2,a6,a11,c3,c5,ht,hle,e2,e3,n1']
        obtain ⟨f3,p1⟩:=fin _ rfl
        exact ⟨k' - 1,by omega,j + 1,f3,by omega,p1,ex_x rfl⟩
      have n1' : ((i + 1 : Nat) : Int) < (F.length : Int):=by omega
      obtain ⟨m,hm⟩ : ∃ y,F[i + 1]? = some y:=⟨_,List.getElem?_eq_getElem n1⟩
      have tm:=tF m (List.mem_of_getElem? hm)
      obtain ⟨b',cap',cs',r2,g2,hv2,q1,q2,q3,q4,q5,q6,q7,q8,q9,q10,q11,_,q13⟩:=note_cells hA (i:=i + 1) (x:=m) (by rw [l_some,List.getElem?_set_ne (by omega),untieUp_ge (by omega) n1]; exact hm)
      simp only [l_some,AV.slice.injEq,true_and,and_true] at q1
      obtain ⟨rfl,_,rfl⟩:=q1
      rw [a2,Option.some.injEq] at q2
      subst q2
      have hkt : keepTie n F[i + 1]? h = (decide (m.at_ = n.fin) && m.hasB h.pitch):=by unfold keepTie; rw [ht,hm]; rfl
      rw [hkt] at fin
      simp only [intE] at a4 a5 q4
      have a4' : cs[i * 8]? = some (.sc (.int .i64 n.at_)):=a4
      have a5' : cs[i * 8 + 1]? = some (.sc (.int .i64 n.len)):=a5
      have hfin : IntKind.i64.wrap (n.at_ + n.len) = n.fin:=rfl
      by_cases h1 : n.fin = m.at_
      rotate_left
      · rw [decide_eq_false (fun e => h1 e.symm),Bool.false_and] at fin
        simp -implicitDefEqProofs (maxDischargeDepth:=12) only [WW,List.replicate,Option.some_or,s_conv,e_conv,s_slc3,e_cut3,e_cut3n,e_bns,e_bnn,if_true,if_false,ite_true,ite_false,true_or,ne_eq,seval,beq_self_eq_true,eq_self,exists_eq_left,exists_eq_left',d1,hil,hjl,a2,a4',a5',hfin,a6,a11,c3,c5,ht,hle,e2,e3,n1,n1',q4,h1]
        obtain ⟨f3,p1⟩:=fin _ rfl
        exact ⟨k' - 1,by omega,j + 1,f3,by omega,p1,ex_x rfl⟩
      rw [decide_eq_true h1.symm,Bool.true_and] at fin
      simp -implicitDefEqProofs (maxDischargeDepth:=12) only [WW,List.replicate,Option.some_or,s_conv,e_conv,s_slc3,e_cut3,e_cut3n,e_bns,e_bnn,if_true,if_false,ite_true,ite_false,true_or,ne_eq,seval,beq_self_eq_true,eq_self,exists_eq_left,exists_eq_left',d1,hil,hjl,a2,a4',a5',hfin,a6,a11,c3,c5,ht,hle,e2,e3,n1,n1',q4,eq_true h1]
      refine wp_loop (Inv:=fun k2 t H2 => H2 = H∧∃ (p : Nat),p + k2 = m.heads.l.length ∧
        ∃ y : Nat→AV,t = [slm Note.enc s,y 1,y 2,.slice b 0 F.length cap 8,y 4,y 5,y 6,y 7,.sc (.int .i64 i),.sc (.int .i64 j),.sc (.bool ((m.heads.l.take p).any fun x => decide (x.pitch = h.pitch))),.sc (.int .i64 p),y 12,y 13,y 14,y 15,y 16,y 17,y 18,y 19,y 20,y 21,y 22,y 23,y 24,y 25,y 26,y 27,y 28,y 29,y 30,y 31,y 32,y 33,y 34,y 35,y 36,y 37,y 38,y 39,y 40,y 41,y 42,y 43,y 44,y 45,y 46,y 47,y 48,y 49,y 50,y 51,y 52,y 53,y 54,y 55,y 56,y 57,y 58,y 59,y 60,y 61,y 62,y 63,y 64,y 65,y 66,y 67,y 68,y 69,y 70,y 71,y 72,y 73,y 74,y 75,y 76,y 77,y 78,y 79,y 80,y 81,y 82,y 83,y 84,y 85,y 86,y 87,y 88,y 89,y 90,y 91,y 92,y 93,y 94,y 95,y 96,y 97,y 98,y 99,y 100,y 101,y 102,y 103,y 104,y 105,y 106,y 107,y 108,y 109,y 110,y 111,y 112,y 113,y 114,y 115,y 116,y 117,y 118,y 119,y 120,y 121,y 122,y 123,y 124,y 125,y 126,y 127,y 128,y 129,y 130,y 131,y 132,y 133,y 134,y 135,y 136,y 137,y 138,y 139,y 140,y 141,y 142,y 143,y 144,y 145,y 146,y 147,y 148,y 149,y 150,y 151,y 152,y 153,y 154,y 155,y 156,y 157,y 158,y 159,y 160,y 161,y 162,y 163,y 164,y 165,y 166,y 167,y 168,y 169,y 170]) (k:=m.heads.l.length) ?_
        ⟨rfl,0,by omega,ex_x rfl⟩
      clear y
      rintro k2 t H2 ⟨rfl,p,hp,y,rfl⟩
      by_cases g1 : (p : Int) < (m.heads.l.length : Int)
      rotate_left
      · rw [List.take_of_length_le (by omega)]
        have hb : (m.heads.l.any fun x => decide (x.pitch = h.pitch)) = m.hasB h.pitch:=rfl
        rw [hb]
        simp -implicitDefEqProofs (maxDischargeDepth:=12) only [WW,List.replicate,Option.some_or,s_conv,e_conv,s_slc3,e_cut3,e_cut3n,e_bns,e_bnn,if_true,if_false,ite_true,ite_false,true_or,ne_eq,seval,beq_self_eq_true,eq_self,exists_eq_left,exists_eq_left',g1,hil,hjl,a2,a6,c3,hle,e2,e3,n1,n1',q6,q11]
        obtain ⟨f3,p1⟩:=fin _ rfl
        exact ⟨k' - 1,by omega,j + 1,f3,by omega,p1,ex_x rfl⟩
      have hpl : p < m.heads.l.length:=by omega
      obtain ⟨u,hu⟩ : ∃ y,m.heads.l[p]? = some y:=⟨_,List.getElem?_eq_getElem hpl⟩
      have e4 : IntKind.i64.wrap ((p : Int) + 1) = ((p + 1 : Nat) : Int):=by rw [w64 (by omega) (by have:=tm.heads; omega)]; omega
      have hany : (m.heads.l.take (p + 1)).any (fun x => decide (x.pitch = h.pitch)) = ((m.heads.l.take p).any (fun x => decide (x.pitch = h.pitch)) || decide (u.pitch = h.pitch)):=by
        rw [List.take_add_one,hu,List.any_append]; simp
      obtain ⟨bx,capx,cx,x2,x3,x4,x5,x6,x7,x8,x9⟩:=q13 p u hu
      subst x2
      have hle3 : p * 5 + 3 ≤ cx.length:=by omega
      cases hf : (m.heads.l.take p).any (fun x => decide (x.pitch = h.pitch)) with
      | true =>
        simp -implicitDefEqProofs (maxDischargeDepth:=12) only [WW,List.replicate,Option.some_or,s_conv,e_conv,s_slc3,e_cut3,e_cut3n,e_bns,e_bnn,if_true,if_false,ite_true,ite_false,true_or,ne_eq,seval,beq_self_eq_true,eq_self,exists_eq_left,exists_eq_left',g1,hil,hjl,a2,a6,c3,hle,e2,e3,e4,n1,n1',q6,q11,hpl]
        exact ⟨k2 - 1,by omega,p + 1,by omega,by rw [hany,hf,Bool.true_or]; exact ex_x rfl⟩
      | false =>
        simp -implicitDefEqProofs (maxDischargeDepth:=12) only [WW,List.replicate,Option.some_or,s_conv,e_conv,s_slc3,e_cut3,e_cut3n,e_bns,e_bnn,if_true,if_false,ite_true,ite_false,true_or,ne_eq,seval,beq_self_eq_true,eq_self,exists_eq_left,exists_eq_left',g1,hil,hjl,a2,a6,c3,hle,hle2,e2,e3,e4,n1,n1',q6,q11,hpl,x3,x6,hle3,c6,u.pitch.enc_eq,h.pitch.enc_eq,pitch_cmp]
        exact ⟨k2 - 1,by omega,p + 1,by omega,by rw [hany,hf,Bool.false_or]; exact ex_x rfl⟩
  obtain ⟨x,hx⟩ : ∃ y,s.l[i]? = some y:=⟨_,List.getElem?_eq_getElem (by omega)⟩
  have tx:=ts x (List.mem_of_getElem? hx)
  have e2 : IntKind.i64.wrap ((i : Int) + 1) = ((i + 1 : Nat) : Int):=by rw [w64 (by omega) (by omega)]; omega
  have tL:=foldR_tame (l:=s.l.take i) (fun y hy => ts y (List.mem_of_mem_take hy))
  have hL : (foldR (s.l.take i)).length < 1000000:=by have:=tL.2; simp only [List.length_take] at this; omega
  have ef:=foldR_take hx
  generalize foldR (s.l.take i) = L at hA tL hL ef
  have hlt:=hA.lt noteQ
  generalize hq : H0.next = q at hlt
  have nqq : ∀ {z : List AV},(H0.alloc (.cells z)).cells q = some z:=by intro z; rw [h_alloc,if_pos hq.symm]
  simp -implicitDefEqProofs (maxDischargeDepth:=12) only [WW,List.replicate,Option.some_or,s_conv,e_conv,s_slc3,e_cut3,e_cut3n,e_bns,e_bnn,e_splice,if_true,if_false,ite_true,ite_false,true_or,ne_eq,seval,h_putc,beq_self_eq_true,eq_self,exists_eq_left,exists_eq_left',c1,hx,x.enc_eq,hq]
  generalize hH1 : AHeap.put _ q _ = H1
  have n1 : H1.next = q + 1:=by subst hH1; simp only [AHeap.next_put,AHeap.next_alloc,hq]
  have kp : Keep q H0 H1:=by subst hH1; exact fun b hb => by rw [c_put_ne (by omega),c_alloc_ne (by omega)]
  have cq:=congrArg (fun H => AHeap.cells H q) hH1
  simp -implicitDefEqProofs (maxDischargeDepth:=12) only [WW,List.replicate,Option.some_or,s_conv,e_conv,s_slc3,e_cut3,e_cut3n,e_bns,e_bnn,e_splice,if_true,if_false,ite_true,ite_false,true_or,ne_eq,seval,h_putc,beq_self_eq_true,eq_self,exists_eq_left,exists_eq_left',hq] at cq
  replace cq:=cq.symm
  clear hH1
  refine wA_call rfl ((rheads_ok x.heads tx.heads _).mono ?_)
  rintro o H2 ⟨hv,fh,rfl,hh0,hF⟩
  refine ⟨_,rfl,?_⟩
  have hN:=hF.2.1
  have cq2:=(hF.2.2 q (by omega)).trans cq
  have hh:=acc_heads hh0
  simp -implicitDefEqProofs (maxDischargeDepth:=12) only [WW,List.replicate,Option.some_or,s_conv,e_conv,s_slc3,e_cut3,e_cut3n,e_bns,e_bnn,e_splice,if_true,if_false,ite_true,ite_false,true_or,ne_eq,seval,h_putc,beq_self_eq_true,eq_self,exists_eq_left,exists_eq_left',cq,cq2,hh0.one,hh0.cells]
  generalize hH3 : AHeap.put H2 q _ = H3
  have n3 : H3.next = H2.next:=by subst hH3; simp only [AHeap.next_put]
  have k3 : ∀ b,b ≠ q→H3.cells b = H2.cells b:=fun b hb => by subst hH3; rw [c_put_ne hb]
  have cq3:=congrArg (fun H => AHeap.cells H q) hH3
  simp -implicitDefEqProofs (maxDischargeDepth:=12) only [WW,List.replicate,Option.some_or,s_conv,e_conv,s_slc3,e_cut3,e_cut3n,e_bns,e_bnn,e_splice,if_true,if_false,ite_true,ite_false,true_or,ne_eq,seval,h_putc,beq_self_eq_true,eq_self,exists_eq_left,exists_eq_left',cq2] at cq3
  replace cq3:=cq3.symm
  clear hH3
  have hh3 : AccQ HeadQ 5 H3 hv x.own.heads fh:=hh.fr headQ fun b hb => k3 b (by have:=hF.1 b hb; omega)
  have hrow:=noteQ_heads (x:=x.own) hh3
  have hA3 : AccQ NoteQ 8 H3 v (Sl.of L) fp:=hA.fr noteQ fun b hb => by have:=hlt b hb; rw [k3 b (by omega),hF.2.2 b (by omega),kp b (by omega)]
  have hfh : ∀ b ∈ fh,q < b:=fun b hb => by have:=hF.1 b hb; omega
  have hl:=hA3.length.1
  rw [l_of] at hl
  have hlt3:=hA3.lt noteQ
  have hap : Apart fp fh:=fun b h1 h2 => by have:=hlt b h1; have:=hfh b h2; omega
  clear hh hh0 hA cq cq2 hF kp n1 k3
  cases hlast : L.getLast? with
  | none =>
    have hL0 : L = []:=List.getLast?_eq_none_iff.1 hlast
    subst hL0
    have es : stepT [] x.own = [x.own]:=rfl
    have e5 : IntKind.i64.wrap (-1) = -1:=by decide
    simp -implicitDefEqProofs (maxDischargeDepth:=12) only [WW,List.replicate,Option.some_or,s_conv,e_conv,s_slc3,e_cut3,e_cut3n,e_bns,e_bnn,e_splice,if_true,if_false,ite_true,ite_false,true_or,ne_eq,seval,h_putc,beq_self_eq_true,eq_self,exists_eq_left,exists_eq_left',hl,e5]
    simp -implicitDefEqProofs (maxDischargeDepth:=12) only [WW,List.replicate,Option.some_or,s_conv,e_conv,s_slc3,e_cut3,e_cut3n,e_bns,e_bnn,e_splice,if_true,if_false,ite_true,ite_false,true_or,ne_eq,seval,h_putc,beq_self_eq_true,eq_self,exists_eq_left,exists_eq_left',cq3,hh3.one.1,hh3.one.2]
    refine wA_appQ noteQ (H0:=H3) hA3 (y:=x.own) (g:=fh) (fun c hc => c_alloc_ne (by have:=hlt3 c hc; omega)) rfl (asrc_one (by simp -implicitDefEqProofs (maxDischargeDepth:=12) only [WW,List.replicate,Option.some_or,s_conv,e_conv,s_slc3,e_cut3,e_cut3n,e_bns,e_bnn,e_splice,if_true,if_false,ite_true,ite_false,true_or,ne_eq,seval,h_putc,beq_self_eq_true,eq_self,exists_eq_left,exists_eq_left']; rfl) rfl) (noteQ.fr hrow fun b hb => c_alloc_ne (by have:=hh3.lt headQ b hb; omega)) hap (by rw [l_of]; omega) ?_
    intro v' H4 fp' h1 h2 h3 h4 h5 h6
    simp -implicitDefEqProofs (maxDischargeDepth:=12) only [WW,List.replicate,Option.some_or,s_conv,e_conv,s_slc3,e_cut3,e_cut3n,e_bns,e_bnn,e_splice,if_true,if_false,ite_true,ite_false,true_or,ne_eq,seval,h_putc,beq_self_eq_true,eq_self,exists_eq_left,exists_eq_left',e2]
    rw [l_of] at h1
    exact ⟨k - 1,by omega,i + 1,v',fp',by omega,by rw [ef,es,of_cons (by simp)]; exact h1,ex_x rfl⟩
  | some a =>
    have hne : L ≠ []:=fun e => by subst e; cases hlast
    have hat:=getLast_at hlast
    have hpos : 0 < L.length:=by rcases Nat.eq_zero_or_pos L.length with h | h; exact absurd (List.length_eq_zero_iff.1 h) hne; exact h
    have ta:=tL.1 a (List.mem_of_getElem? hat)
    rw [of_cons hne] at hA3
    have es : stepT L x.own = if oneB a x.own then L.set (L.length - 1) (merge a x.own) else L ++ [x.own]:=by unfold stepT; rw [hlast]
    rw [es] at ef
    have ei : IntKind.i64.wrap ((L.length : Int) - 1) = ((L.length - 1 : Nat) : Int):=by rw [w64 (by omega) (by omega)]; omega
    generalize hi : L.length - 1 = m at hat ef ei
    have hil : m < L.length:=by omega
    have hm0 : (0 : Int) ≤ (m : Int):=by omega
    obtain ⟨b,cap,cs,r,g,hv',a1,a2,a3,a4,a5,a6,a7,a8,a9,a10,a11,a12,a13⟩:=note_cells hA3 hat
    simp only [l_some] at a1 a12 a13
    subst a1
    obtain ⟨g',o1,o2⟩:=noteQ_own a8
    obtain ⟨g3,o3,o4⟩:=noteQ_own hrow
    simp -implicitDefEqProofs (maxDischargeDepth:=12) only [WW,List.replicate,Option.some_or,s_conv,e_conv,s_slc3,e_cut3,e_cut3n,e_bns,e_bnn,e_splice,if_true,if_false,ite_true,ite_false,true_or,ne_eq,seval,h_putc,beq_self_eq_true,eq_self,exists_eq_left,exists_eq_left',ei,hm0,hil,a2,a3,a7,cq3]
    refine wA_own rfl (OwnL.cons o1 (.cons o3 .nil Apart.nil_right) (by rw [List.append_nil]; exact fun c h1 h2 => hap c (a10 c (o2 c h1)) (o4 c h2))) (rone_pv a x.own ta.heads tx.heads) ?_
    cases h1 : oneB a x.own with
    | false =>
      rw [h1,if_neg (by simp)] at ef
      rw [← of_cons hne] at hA3
      simp -implicitDefEqProofs (maxDischargeDepth:=12) only [WW,List.replicate,Option.some_or,s_conv,e_conv,s_slc3,e_cut3,e_cut3n,e_bns,e_bnn,e_splice,if_true,if_false,ite_true,ite_false,true_or,ne_eq,seval,h_putc,beq_self_eq_true,eq_self,exists_eq_left,exists_eq_left',cq3,hh3.one.1,hh3.one.2]
      refine wA_appQ noteQ (H0:=H3) hA3 (y:=x.own) (g:=fh) (fun c hc => c_alloc_ne (by have:=hlt3 c hc; omega)) rfl (asrc_one (by simp -implicitDefEqProofs (maxDischargeDepth:=12) only [WW,List.replicate,Option.some_or,s_conv,e_conv,s_slc3,e_cut3,e_cut3n,e_bns,e_bnn,e_splice,if_true,if_false,ite_true,ite_false,true_or,ne_eq,seval,h_putc,beq_self_eq_true,eq_self,exists_eq_left,exists_eq_left']; rfl) rfl) (noteQ.fr hrow fun b hb => c_alloc_ne (by have:=hh3.lt headQ b hb; omega)) hap (by rw [l_of]; omega) ?_
      intro v' H4 fp' h1 h2 h3 h4 h5 h6
      simp -implicitDefEqProofs (maxDischargeDepth:=12) only [WW,List.replicate,Option.some_or,s_conv,e_conv,s_slc3,e_cut3,e_cut3n,e_bns,e_bnn,e_splice,if_true,if_false,ite_true,ite_false,true_or,ne_eq,seval,h_putc,beq_self_eq_true,eq_self,exists_eq_left,exists_eq_left',e2]
      rw [l_of] at h1
      exact ⟨k - 1,by omega,i + 1,v',fp',by omega,by rw [ef,of_cons (by simp)]; exact h1,ex_x rfl⟩
    | true =>
      rw [h1,if_pos rfl] at ef
      have hlen:=oneB_len h1
      have nb : ¬ b = q:=by have:=hlt b a9; omega
      have nb' : ¬ q = b:=fun e => nb e.symm
      have hle : m * 8 + 1 + 1 ≤ cs.length:=by omega
      obtain ⟨fp',p1,p2⟩:=a12 (IntKind.i64.wrap (a.len + x.len))
      simp only [intE] at a4 a5 p1
      simp -implicitDefEqProofs (maxDischargeDepth:=12) only [WW,List.replicate,Option.some_or,s_conv,e_conv,s_slc3,e_cut3,e_cut3n,e_bns,e_bnn,if_true,if_false,ite_true,ite_false,true_or,ne_eq,seval,beq_self_eq_true,eq_self,exists_eq_left,exists_eq_left',cq3,ei,hil,a2,a5,hle]
      generalize hH4 : AHeap.put H3 b _ = H4 at p1 ⊢
      have k4 : ∀ c,c ≠ b→H4.cells c = H3.cells c:=fun c hc => by subst hH4; rw [c_put_ne hc]
      have cq4:=(k4 q nb').trans cq3
      have hh4 : AccQ HeadQ 5 H4 hv x.own.heads fh:=hh3.fr headQ fun c hc => k4 c fun e => hap b a9 (e ▸ hc)
      refine wp_loop (Inv:=fun k' t H => ∃ (j : Nat) (f2 : List Nat),j + k' = x.heads.l.length∧H.cells q = some [intE x.at_,intE x.len,hv,slm Grace.enc x.graces,intE x.articulations,intE x.ornament,intE x.dynamic,slm Syllable.enc x.lyrics]∧AccQ HeadQ 5 H hv x.own.heads fh ∧
        AccQ NoteQ 8 H (.slice b 0 L.length cap 8) (some (L.set m (a.mergeTo x.own j))) f2∧(∀ c ∈ f2,c ∈ fp) ∧
        ∃ y : Nat→AV,t = [slm Note.enc s,y 1,y 2,.slice b 0 L.length cap 8,.sc (.int .i64 i),.ptr q 0,.sc (.int .i64 m),.sc (.int .i64 j),y 8,y 9,y 10,y 11,y 12,y 13,y 14,y 15,y 16,y 17,y 18,y 19,y 20,y 21,y 22,y 23,y 24,y 25,y 26,y 27,y 28,y 29,y 30,y 31,y 32,y 33,y 34,y 35,y 36,y 37,y 38,y 39,y 40,y 41,y 42,y 43,y 44,y 45,y 46,y 47,y 48,y 49,y 50,y 51,y 52,y 53,y 54,y 55,y 56,y 57,y 58,y 59,y 60,y 61,y 62,y 63,y 64,y 65,y 66,y 67,y 68,y 69,y 70,y 71,y 72,y 73,y 74,y 75,y 76,y 77,y 78,y 79,y 80,y 81,y 82,y 83,y 84,y 85,y 86,y 87,y 88,y 89,y 90,y 91,y 92,y 93,y 94,y 95,y 96,y 97,y 98,y 99,y 100,y 101,y 102,y 103,y 104,y 105,y 106,y 107,y 108,y 109,y 110,y 111,y 112,y 113,y 114,y 115,y 116,y 117,y 118,y 119,y 120,y 121,y 122,y 123,y 124,y 125,y 126,y 127,y 128,y 129,y 130,y 131,y 132,y 133,y 134,y 135,y 136,y 137,y 138,y 139,y 140,y 141,y 142,y 143,y 144,y 145,y 146,y 147,y 148,y 149,y 150,y 151,y 152,y 153,y 154,y 155,y 156,y 157,y 158,y 159,y 160,y 161,y 162,y 163,y 164,y 165,y 166,y 167,y 168,y 169,y 170]) (k:=x.heads.l.length) ?_
        ⟨0,fp',by omega,cq4,hh4,by rw [mergeTo_zero]; exact p1,p2,ex_x rfl⟩
      clear hH4 k4 cq4 hh4 p1 p2 fp' hA3 a2 a3 a4 a5 a6 a7 a8 a10 a11 a12 a13 hh3 hrow cq3 o1 o2 o3 o4 g' g3 hlt3 n3 H4 hv' hle y
      rintro k' t H ⟨j,f2,hk',hB,hh,p1,p2,y,rfl⟩
      have hhl:=hh.length.1
      have exl : x.own.heads.l = x.heads.l:=rfl
      rw [exl] at hhl
      simp only [intE] at hB
      by_cases d1 : (j : Int) < (x.heads.l.length : Int)
      rotate_left
      · rw [mergeTo_all hlen (by rw [hlen,exl]; omega)] at p1
        simp -implicitDefEqProofs (maxDischargeDepth:=12) only [WW,List.replicate,Option.some_or,s_conv,e_conv,s_slc3,e_cut3,e_cut3n,e_bns,e_bnn,if_true,if_false,ite_true,ite_false,true_or,ne_eq,seval,beq_self_eq_true,eq_self,exists_eq_left,exists_eq_left',hB,d1,hhl,e2]
        exact ⟨k - 1,by omega,i + 1,_,f2,by omega,by rw [ef,of_cons (by simpa using hne)]; exact p1,ex_x rfl⟩
      have hjx : j < x.heads.l.length:=by omega
      have hja : j < a.heads.l.length:=by rw [hlen,exl]; exact hjx
      obtain ⟨u,hu⟩ : ∃ y,a.heads.l[j]? = some y:=⟨_,List.getElem?_eq_getElem hja⟩
      obtain ⟨w,hw⟩ : ∃ y,x.heads.l[j]? = some y:=⟨_,List.getElem?_eq_getElem hjx⟩
      have e3 : IntKind.i64.wrap ((j : Int) + 1) = ((j + 1 : Nat) : Int):=by rw [w64 (by omega) (by have:=tx.heads; omega)]; omega
      obtain ⟨b',cap',cs3,r',g2,hv',b1,b2,b3,b4,b5,b6,b7,b8,b9,b10,b11,b12,b13⟩:=note_cells p1 (i:=m) (x:=a.mergeTo x.own j) (by rw [l_some,List.getElem?_set_self hil])
      simp only [l_some,AV.slice.injEq,true_and,and_true,List.length_set] at b1
      obtain ⟨rfl,rfl⟩:=b1
      obtain ⟨bh,caph,ch,c2,c3,c4,c5,c6,c7,c8,c9⟩:=b13 j u (by rw [mergeTo_heads hlen]; exact tieUp_get hlen hu)
      rw [mergeTo_heads hlen,tieUp_len hlen] at c2
      subst c2
      obtain ⟨bx,capx,cx,x1,x2,x3,x4,x5,x6,x7,_,x9,_⟩:=head_cells hh (k:=j) (x:=w) hw
      rw [exl] at x1
      subst x1
      obtain ⟨f3,q1,q2⟩:=c9 w.tied
      have hbh : bh < q:=hlt _ (p2 _ c7)
      have hle : j * 5 + 3 + 1 ≤ ch.length:=by omega
      simp -implicitDefEqProofs (maxDischargeDepth:=12) only [WW,List.replicate,Option.some_or,s_conv,e_conv,s_slc3,e_cut3,e_cut3n,e_bns,e_bnn,if_true,if_false,ite_true,ite_false,true_or,ne_eq,seval,beq_self_eq_true,eq_self,exists_eq_left,exists_eq_left',hB,d1,hhl,hil,hjx,hja,b2,b6,c3,hle,x2,x7,e3]
      refine ⟨k' - 1,by omega,j + 1,f3,by omega,?_,?_,?_,fun c hc => p2 c (q2 c hc),ex_x rfl⟩
      · rw [c_put_ne (by omega)]; exact hB
      · exact hh.fr headQ fun c hc => c_put_ne fun e => hap bh (p2 _ c7) (e ▸ hc)
      · rw [mergeTo_succ hlen hu (show x.own.heads.l[j]? = some w from hw),l_some,List.set_set] at q1
        exact q1
end Go.Hem
namespace Go.Hem
theorem Note.cn_cn {x : Note} : x.cn.cn = x.cn:=by
  unfold Note.cn; simp only [l_of]
theorem tailB_cn {x : Note} : x.cn.tailB = x.tailB:=by
  unfold Note.tailB Note.cn; simp only [l_of]
theorem oneB_cn {a x : Note} : oneB a.cn x.cn = oneB a x:=by
  unfold oneB Note.plainB headsOne
  rw [tailB_cn]
  unfold Note.fin Note.cn; simp only [l_of]
theorem tieTo_nil {m : List Head} : tieTo [] m = []:=rfl
theorem merge_cn {a x : Note} : (merge a.cn x.cn).cn = (merge a x).cn:=by
  unfold merge Note.cn
  simp only [l_of,l_map (g:=fun l => tieTo l x.heads.l) tieTo_nil]
theorem stepT_cn {L : List Note} {x : Note} : (stepT (L.map Note.cn) x.cn).map Note.cn = (stepT L x).map Note.cn:=by
  unfold stepT
  rw [List.getLast?_map]
  cases L.getLast? with
  | none => simp [Note.cn_cn]
  | some a =>
    simp only [Option.map_some,oneB_cn]
    have e : Note.cn ∘ Note.cn = Note.cn:=by funext y; exact Note.cn_cn
    split
    · rw [List.map_set,List.map_set,merge_cn,List.map_map,e,List.length_map]
    · rw [List.map_append,List.map_append,List.map_map,e]; simp [Note.cn_cn]
theorem fold_cn : ∀ {l : List Note} {L L' : List Note},L.map Note.cn = L'.map Note.cn→((l.map Note.cn).foldl stepT L').map Note.cn = (l.foldl stepT L).map Note.cn
  | [],L,L',h => h.symm
  | x :: l,L,L',h => by
    simp only [List.map_cons,List.foldl_cons]
    refine fold_cn ?_
    rw [← stepT_cn,h,← stepT_cn (L:=L') (x:=x.cn),Note.cn_cn]
theorem hasB_cn {m : Note} {p : Pitch} : m.cn.hasB p = m.hasB p:=by
  unfold Note.hasB Note.cn; simp only [l_of]
theorem keepTie_cn {n : Note} {nx : Option Note} {h : Head} : keepTie n.cn (nx.map Note.cn) h = keepTie n nx h:=by
  unfold keepTie
  cases nx with
  | none => rfl
  | some m => simp only [Option.map_some,hasB_cn]; rfl
theorem untieN_cn {n : Note} {nx : Option Note} : (untieN n.cn (nx.map Note.cn)).cn = (untieN n nx).cn:=by
  unfold untieN
  simp only [keepTie_cn]
  unfold Note.cn
  simp only [l_of,l_map (g:=List.map fun h : Head => h.tie (keepTie n nx h)) List.map_nil]
theorem untie_cn : ∀ {l : List Note},(untie (l.map Note.cn)).map Note.cn = (untie l).map Note.cn
  | [] => rfl
  | n :: t => by
    simp only [List.map_cons,untie]
    rw [List.head?_map,untieN_cn,untie_cn]
theorem tidyP_cn {l : List Note} : (tidyP (l.map Note.cn)).map Note.cn = (tidyP l).map Note.cn:=by
  unfold tidyP
  rw [← untie_cn,fold_cn (l:=l) (L:=[]) (L':=[]) rfl,untie_cn]
theorem tidyP_of {l m : List Note} (h : l.map Note.cn = m.map Note.cn) : (tidyP l).map Note.cn = (tidyP m).map Note.cn:=by
  rw [← tidyP_cn,h,tidyP_cn]
theorem tidyR_eq {l : List Note} : (tidyR l).map Note.cn = (tidyP l).map Note.cn:=by
  show (tidyP (l.map Note.own)).map Note.cn = _
  refine tidyP_of ?_
  rw [List.map_map]; rfl
end Go.Hem
namespace Go.Hem
noncomputable section
theorem tidyR_tame {l : List Note} (h : ∀ y ∈ l,y.tame) : (∀ y ∈ tidyR l,y.tame)∧(tidyR l).length ≤ l.length:=by
  obtain ⟨a,b⟩:=foldR_tame h
  refine ⟨untie_tame a,?_⟩
  unfold tidyR
  rw [untie_len]; exact b
theorem rcheck_pv (c : Clip) (tc : c.tame) : Pv prog polS 12 [c.enc] (.sc (.int .i64 (checkE c))):=by
  refine Pv_of' ok12 (by simp only [AV.closedBs,Clip.enc_closed,Bool.and_self]) ?_
  obtain ⟨t1,t2⟩:=tc
  generalize hr : checkE c = r
  unfold checkE at hr
  by_cases b1 : c.len < 0
  · rw [if_pos (.inl b1)] at hr; subst hr
    simp -implicitDefEqProofs (maxDischargeDepth:=12) only [wpF,cf12,WW,List.replicate,Option.some_or,s_conv,e_conv,s_slc3,e_cut3,e_cut3n,e_bns,e_bnn,e_splice,if_true,if_false,ite_true,ite_false,true_or,ne_eq,seval,h_putc,beq_self_eq_true,eq_self,exists_eq_left,exists_eq_left',c.enc_eq,b1]
    exact frz_sc
  by_cases b2 : 123863040 < c.len
  · rw [if_pos (.inr b2)] at hr; subst hr
    simp -implicitDefEqProofs (maxDischargeDepth:=12) only [wpF,cf12,WW,List.replicate,Option.some_or,s_conv,e_conv,s_slc3,e_cut3,e_cut3n,e_bns,e_bnn,e_splice,if_true,if_false,ite_true,ite_false,true_or,ne_eq,seval,h_putc,beq_self_eq_true,eq_self,exists_eq_left,exists_eq_left',c.enc_eq,b1,b2]
    exact frz_sc
  rw [if_neg (by rintro (h | h) <;> contradiction)] at hr
  by_cases b3 : 4096 < c.notes.l.length
  · rw [if_pos b3] at hr; subst hr
    have b3' : (4096 : Int) < (c.notes.l.length : Int):=by omega
    simp -implicitDefEqProofs (maxDischargeDepth:=12) only [wpF,cf12,WW,List.replicate,Option.some_or,s_conv,e_conv,s_slc3,e_cut3,e_cut3n,e_bns,e_bnn,e_splice,if_true,if_false,ite_true,ite_false,true_or,ne_eq,seval,h_putc,beq_self_eq_true,eq_self,exists_eq_left,exists_eq_left',c.enc_eq,b1,b2,b3']
    exact frz_sc
  rw [if_neg b3] at hr
  have b3' : ¬ (4096 : Int) < (c.notes.l.length : Int):=by omega
  simp -implicitDefEqProofs (maxDischargeDepth:=12) only [wpF,cf12,WW,List.replicate,Option.some_or,s_conv,e_conv,s_slc3,e_cut3,e_cut3n,e_bns,e_bnn,e_splice,if_true,if_false,ite_true,ite_false,true_or,ne_eq,seval,h_putc,beq_self_eq_true,eq_self,exists_eq_left,exists_eq_left',c.enc_eq,b1,b2,b3']
  refine wp_loop (Inv:=fun k t H => ∃ (i : Nat),i + k = c.notes.l.length∧checkL c.len (prevAt c.notes.l i) (c.notes.l.drop i) = checkL c.len none c.notes.l∧H.cells 0 = some c.enc.cells∧1 ≤ H.next ∧
    ∃ x : Nat→AV,t = [c.enc,.ptr 0 0,x 2,.sc (.int .i64 i),x 4,x 5,x 6,x 7,x 8,x 9,x 10,x 11,x 12,x 13,x 14,x 15,x 16,x 17,x 18,x 19,x 20,x 21,x 22,x 23,x 24,x 25,x 26,x 27,x 28,x 29,x 30,x 31,x 32,x 33,x 34,x 35,x 36,x 37,x 38,x 39,x 40,x 41,x 42,x 43,x 44,x 45,x 46,x 47,x 48,x 49,x 50,x 51,x 52,x 53,x 54,x 55,x 56,x 57,x 58,x 59,x 60,x 61,x 62,x 63,x 64,x 65,x 66,x 67,x 68,x 69,x 70,x 71,x 72,x 73,x 74,x 75,x 76,x 77,x 78,x 79,x 80,x 81,x 82,x 83,x 84,x 85,x 86,x 87,x 88,x 89,x 90,x 91]) (k:=c.notes.l.length) ?_
    ⟨0,by omega,rfl,?_,by simp,ex_x rfl⟩
  rotate_left
  · simp -implicitDefEqProofs (maxDischargeDepth:=12) only [WW,List.replicate,Option.some_or,s_conv,e_conv,s_slc3,e_cut3,e_cut3n,e_bns,e_bnn,e_splice,if_true,if_false,ite_true,ite_false,true_or,ne_eq,seval,h_putc,beq_self_eq_true,eq_self,exists_eq_left,exists_eq_left']; rfl
  rintro k t H ⟨i,hk,hf,hA,hN,x,rfl⟩
  simp only [c.enc_eq,c_agg] at hA
  by_cases c1 : (i : Int) < (c.notes.l.length : Int)
  · obtain ⟨y,hy⟩ : ∃ y,c.notes.l[i]? = some y:=⟨_,List.getElem?_eq_getElem (by omega)⟩
    have ty:=t2 y (List.mem_of_getElem? hy)
    have e2 : IntKind.i64.wrap ((i : Int) + 1) = ((i + 1 : Nat) : Int):=by rw [w64 (by omega) (by omega)]; omega
    have q0 : ¬ 0 = H.next:=by omega
    have q1 : ¬ H.next = 0:=by omega
    rw [drop_cons hy] at hf
    simp only [checkL] at hf
    generalize hrr : checkL c.len none c.notes.l = rr at hf hr
    have hrr2 : rr ≠ 0→r = rr:=fun h => by rw [if_pos h] at hr; exact hr.symm
    by_cases c3 : y.at_ < 0
    · rw [if_pos (.inl c3)] at hf; rw [hrr2 (by rw [← hf]; decide),← hf]
      simp -implicitDefEqProofs (maxDischargeDepth:=12) only [WW,List.replicate,Option.some_or,s_conv,e_conv,s_slc3,e_cut3,e_cut3n,e_bns,e_bnn,e_splice,if_true,if_false,ite_true,ite_false,true_or,ne_eq,seval,h_putc,beq_self_eq_true,eq_self,exists_eq_left,exists_eq_left',hA,c1,hy,y.enc_eq,q0,q1,c3]
      exact frz_sc
    by_cases c4 : y.len < 1
    · rw [if_pos (.inr (.inl c4))] at hf; rw [hrr2 (by rw [← hf]; decide),← hf]
      simp -implicitDefEqProofs (maxDischargeDepth:=12) only [WW,List.replicate,Option.some_or,s_conv,e_conv,s_slc3,e_cut3,e_cut3n,e_bns,e_bnn,e_splice,if_true,if_false,ite_true,ite_false,true_or,ne_eq,seval,h_putc,beq_self_eq_true,eq_self,exists_eq_left,exists_eq_left',hA,c1,hy,y.enc_eq,q0,q1,c3,c4]
      exact frz_sc
    by_cases c5 : c.len < y.at_
    · rw [if_pos (.inr (.inr (.inl c5)))] at hf; rw [hrr2 (by rw [← hf]; decide),← hf]
      simp -implicitDefEqProofs (maxDischargeDepth:=12) only [WW,List.replicate,Option.some_or,s_conv,e_conv,s_slc3,e_cut3,e_cut3n,e_bns,e_bnn,e_splice,if_true,if_false,ite_true,ite_false,true_or,ne_eq,seval,h_putc,beq_self_eq_true,eq_self,exists_eq_left,exists_eq_left',hA,c1,hy,y.enc_eq,q0,q1,c3,c4,c5]
      exact frz_sc
    by_cases c6 : IntKind.i64.wrap (c.len - y.at_) < y.len
    · rw [if_pos (.inr (.inr (.inr c6)))] at hf; rw [hrr2 (by rw [← hf]; decide),← hf]
      simp -implicitDefEqProofs (maxDischargeDepth:=12) only [WW,List.replicate,Option.some_or,s_conv,e_conv,s_slc3,e_cut3,e_cut3n,e_bns,e_bnn,e_splice,if_true,if_false,ite_true,ite_false,true_or,ne_eq,seval,h_putc,beq_self_eq_true,eq_self,exists_eq_left,exists_eq_left',hA,c1,hy,y.enc_eq,q0,q1,c3,c4,c5,c6]
      exact frz_sc
    rw [if_neg (by unfold outR; rintro (h | h | h | h) <;> contradiction)] at hf
    by_cases i0 : (0 : Int) < (i : Int)
    · obtain ⟨m,hm⟩ : ∃ y,c.notes.l[i - 1]? = some y:=⟨_,List.getElem?_eq_getElem (by omega)⟩
      have hp : prevAt c.notes.l i = some m:=by unfold prevAt; rw [if_neg (by omega),hm]
      have em : IntKind.i64.wrap ((i : Int) - 1) = ((i - 1 : Nat) : Int):=by rw [w64 (by omega) (by omega)]; omega
      have hfin : IntKind.i64.wrap (m.at_ + m.len) = m.fin:=rfl
      rw [hp] at hf
      by_cases c7 : y.at_ < m.fin
      · rw [if_pos (show early (some m) y from c7)] at hf
        rw [hrr2 (by rw [← hf]; decide),← hf]
        simp -implicitDefEqProofs (maxDischargeDepth:=12) only [WW,List.replicate,Option.some_or,s_conv,e_conv,s_slc3,e_cut3,e_cut3n,e_bns,e_bnn,e_splice,if_true,if_false,ite_true,ite_false,true_or,ne_eq,seval,h_putc,beq_self_eq_true,eq_self,exists_eq_left,exists_eq_left',hA,c1,hy,y.enc_eq,q0,q1,c3,c4,c5,c6,i0,em,hm,m.enc_eq,hfin,c7]
        exact frz_sc
      rw [if_neg (show ¬ early (some m) y from c7)] at hf
      simp -implicitDefEqProofs (maxDischargeDepth:=12) only [WW,List.replicate,Option.some_or,s_conv,e_conv,s_slc3,e_cut3,e_cut3n,e_bns,e_bnn,e_splice,if_true,if_false,ite_true,ite_false,true_or,ne_eq,seval,h_putc,beq_self_eq_true,eq_self,exists_eq_left,exists_eq_left',hA,c1,hy,y.enc_eq,q0,q1,c3,c4,c5,c6,i0,em,hm,m.enc_eq,hfin,c7]
      rw [← y.enc_eq]
      refine wA_pure rfl (rchord_pv y) ?_
      simp -implicitDefEqProofs (maxDischargeDepth:=12) only [WW,List.replicate,Option.some_or,s_conv,e_conv,s_slc3,e_cut3,e_cut3n,e_bns,e_bnn,e_splice,if_true,if_false,ite_true,ite_false,true_or,ne_eq,seval,h_putc,beq_self_eq_true,eq_self,exists_eq_left,exists_eq_left']
      refine wA_pure rfl (echeck_pv y ty) ?_
      by_cases c8 : chordE y = 0
      · rw [if_neg (by simpa using c8)] at hf
        simp -implicitDefEqProofs (maxDischargeDepth:=12) only [WW,List.replicate,Option.some_or,s_conv,e_conv,s_slc3,e_cut3,e_cut3n,e_bns,e_bnn,e_splice,if_true,if_false,ite_true,ite_false,true_or,ne_eq,seval,h_putc,beq_self_eq_true,eq_self,exists_eq_left,exists_eq_left',c8,e2]
        exact ⟨k - 1,by omega,i + 1,by omega,by rw [prev_succ hy]; exact hf,by rw [if_neg q0,if_neg q0,hA]; rfl,ex_x rfl⟩
      · rw [if_pos c8] at hf
        rw [hrr2 (by rw [← hf]; exact c8),← hf]
        simp -implicitDefEqProofs (maxDischargeDepth:=12) only [WW,List.replicate,Option.some_or,s_conv,e_conv,s_slc3,e_cut3,e_cut3n,e_bns,e_bnn,e_splice,if_true,if_false,ite_true,ite_false,true_or,ne_eq,seval,h_putc,beq_self_eq_true,eq_self,exists_eq_left,exists_eq_left',c8]
        exact frz_sc
    · have hp : prevAt c.notes.l i = none:=by unfold prevAt; rw [if_pos (by omega)]
      rw [hp,if_neg (show ¬ early none y from fun h => h)] at hf
      simp -implicitDefEqProofs (maxDischargeDepth:=12) only [WW,List.replicate,Option.some_or,s_conv,e_conv,s_slc3,e_cut3,e_cut3n,e_bns,e_bnn,e_splice,if_true,if_false,ite_true,ite_false,true_or,ne_eq,seval,h_putc,beq_self_eq_true,eq_self,exists_eq_left,exists_eq_left',hA,c1,hy,y.enc_eq,q0,q1,c3,c4,c5,c6,i0]
      rw [← y.enc_eq]
      refine wA_pure rfl (rchord_pv y) ?_
      simp -implicitDefEqProofs (maxDischargeDepth:=12) only [WW,List.replicate,Option.some_or,s_conv,e_conv,s_slc3,e_cut3,e_cut3n,e_bns,e_bnn,e_splice,if_true,if_false,ite_true,ite_false,true_or,ne_eq,seval,h_putc,beq_self_eq_true,eq_self,exists_eq_left,exists_eq_left']
      refine wA_pure rfl (echeck_pv y ty) ?_
      by_cases c8 : chordE y = 0
      · rw [if_neg (by simpa using c8)] at hf
        simp -implicitDefEqProofs (maxDischargeDepth:=12) only [WW,List.replicate,Option.some_or,s_conv,e_conv,s_slc3,e_cut3,e_cut3n,e_bns,e_bnn,e_splice,if_true,if_false,ite_true,ite_false,true_or,ne_eq,seval,h_putc,beq_self_eq_true,eq_self,exists_eq_left,exists_eq_left',c8,e2]
        exact ⟨k - 1,by omega,i + 1,by omega,by rw [prev_succ hy]; exact hf,by rw [if_neg q0,if_neg q0,hA]; rfl,ex_x rfl⟩
      · rw [if_pos c8] at hf
        rw [hrr2 (by rw [← hf]; exact c8),← hf]
        simp -implicitDefEqProofs (maxDischargeDepth:=12) only [WW,List.replicate,Option.some_or,s_conv,e_conv,s_slc3,e_cut3,e_cut3n,e_bns,e_bnn,e_splice,if_true,if_false,ite_true,ite_false,true_or,ne_eq,seval,h_putc,beq_self_eq_true,eq_self,exists_eq_left,exists_eq_left',c8]
        exact frz_sc
  · rw [drop_end c1] at hf
    have hf0 : checkL c.len none c.notes.l = 0:=hf.symm
    rw [hf0,if_neg (by simp)] at hr
    simp -implicitDefEqProofs (maxDischargeDepth:=12) only [WW,List.replicate,Option.some_or,s_conv,e_conv,s_slc3,e_cut3,e_cut3n,e_bns,e_bnn,e_splice,if_true,if_false,ite_true,ite_false,true_or,ne_eq,seval,h_putc,beq_self_eq_true,eq_self,exists_eq_left,exists_eq_left',hA,c1]
    refine wA_pure rfl (rtidy_pv c.notes t1 t2) ?_
    have tt:=tidyR_tame t2
    simp -implicitDefEqProofs (maxDischargeDepth:=12) only [WW,List.replicate,Option.some_or,s_conv,e_conv,s_slc3,e_cut3,e_cut3n,e_bns,e_bnn,e_splice,if_true,if_false,ite_true,ite_false,true_or,ne_eq,seval,h_putc,beq_self_eq_true,eq_self,exists_eq_left,exists_eq_left',hA]
    refine wA_pure rfl (same_pv ⟨0,Sl.of (tidyR c.notes.l)⟩ ⟨0,c.notes⟩ (by rw [l_of]; omega) (by rw [l_of]; exact fun y hy => Note.chord_tame (tt.1 y hy))) ?_
    have e : ((⟨0,Sl.of (tidyR c.notes.l)⟩ : Clip).cn = (⟨0,c.notes⟩ : Clip).cn) = ((tidyP c.notes.l).map Note.cn = c.notes.l.map Note.cn):=by
      rw [← tidyR_eq]
      refine propext ⟨fun k => ?_,fun k => Clip.cn_iff.2 ⟨rfl,by rw [l_of]; exact k⟩⟩
      have:=(Clip.cn_iff.1 k).2
      rwa [l_of] at this
    simp only [e]
    by_cases d1 : (tidyP c.notes.l).map Note.cn = c.notes.l.map Note.cn
    · rw [if_pos d1] at hr; subst hr
      simp -implicitDefEqProofs (maxDischargeDepth:=12) only [WW,List.replicate,Option.some_or,s_conv,e_conv,s_slc3,e_cut3,e_cut3n,e_bns,e_bnn,e_splice,if_true,if_false,ite_true,ite_false,true_or,ne_eq,seval,h_putc,beq_self_eq_true,eq_self,exists_eq_left,exists_eq_left',eq_true d1]
      exact frz_sc
    · rw [if_neg d1] at hr; subst hr
      simp -implicitDefEqProofs (maxDischargeDepth:=12) only [WW,List.replicate,Option.some_or,s_conv,e_conv,s_slc3,e_cut3,e_cut3n,e_bns,e_bnn,e_splice,if_true,if_false,ite_true,ite_false,true_or,ne_eq,seval,h_putc,beq_self_eq_true,eq_self,exists_eq_left,exists_eq_left',d1]
      exact frz_sc
end
end Go.Hem
namespace Go.Hem
noncomputable section
def NoOne (L : List Note) : Prop:=∀ i a b,L[i]? = some a→L[i + 1]? = some b→oneB a b = false
def Ties (L : List Note) : Prop:=∀ i n,L[i]? = some n→∀ h ∈ n.heads.l,h.tied = true→keepTie n L[i + 1]? h = true
def Neat (L : List Note) : Prop:=NoOne L∧Ties L
theorem noOne_nil : NoOne []:=fun i a b h => by simp at h
theorem noOne_snoc {L : List Note} {x : Note} (h : NoOne L) (hx : ∀ a,L.getLast? = some a→oneB a x = false) : NoOne (L ++ [x]):=by
  intro i a b h1 h2
  by_cases c : i + 1 < L.length
  · rw [List.getElem?_append_left (by omega)] at h1
    rw [List.getElem?_append_left c] at h2
    exact h i a b h1 h2
  · have hl:=(List.getElem?_eq_some_iff.1 h2).1
    simp only [List.length_append,List.length_cons,List.length_nil] at hl
    have e : i + 1 = L.length:=by omega
    rw [List.getElem?_append_right (by omega),e,Nat.sub_self] at h2
    simp only [List.getElem?_cons_zero,Option.some.injEq] at h2
    subst h2
    rw [List.getElem?_append_left (by omega)] at h1
    exact hx a (by rw [List.getLast?_eq_getElem?,← h1]; congr 1; omega)
theorem noOne_set {L : List Note} {a a' : Note} (h : NoOne L) (ha : L.getLast? = some a) (he : ∀ c,oneB c a' = oneB c a) : NoOne (L.set (L.length - 1) a'):=by
  have hat:=getLast_at ha
  intro i c d h1 h2
  have hl:=(List.getElem?_eq_some_iff.1 h2).1
  simp only [List.length_set] at hl
  rw [List.getElem?_set_ne (by omega)] at h1
  by_cases e : i + 1 = L.length - 1
  · rw [← e,List.getElem?_set_self (by omega)] at h2
    simp only [Option.some.injEq] at h2
    subst h2
    rw [he]
    exact h i c a h1 (by rw [e]; exact hat)
  · rw [List.getElem?_set_ne (by omega)] at h2
    exact h i c d h1 h2
theorem tieTo_map {β : Type} {f : Head→β} (hf : ∀ h b,f (h.tie b) = f h) : ∀ {l m : List Head},l.length = m.length→(tieTo l m).map f = l.map f
  | [],_,_ => by simp [tieTo]
  | h :: l,[],e => by simp at e
  | h :: l,k :: m,e => by
    have:=tieTo_map (f:=f) hf (l:=l) (m:=m) (by simpa using e)
    simp only [tieTo,List.zipWith_cons_cons,List.map_cons] at this ⊢
    rw [this]
    have:=hf h k.tied
    unfold Head.tie at this
    rw [this]
theorem all_map_eq {α β : Type} {f : α→β} {p : β→Bool} {l m : List α} (h : l.map f = m.map f) : (l.all fun x => p (f x)) = m.all fun x => p (f x):=by
  have:=congrArg (List.all · p) h
  simpa [List.all_map,Function.comp_def] using this
theorem oneB_of {a b c d : Note} (h1 : a.fin = c.fin) (h2 : b.at_ = d.at_) (h3 : b.heads.l.map Head.shown = d.heads.l.map Head.shown) (h4 : b.tailB = d.tailB) (h5 : a.heads.l.map Head.tied = c.heads.l.map Head.tied) (h6 : a.heads.l.map Head.pitch = c.heads.l.map Head.pitch) (h7 : b.heads.l.map Head.pitch = d.heads.l.map Head.pitch) : oneB a b = oneB c d:=by
  unfold oneB Note.plainB headsOne
  rw [h1,h2,h4,h6,h7,all_map_eq (p:=fun x => decide (x = 0)) h3,all_map_eq (p:=fun x => x) h5]
theorem merge_heads {a x : Note} : (merge a x).heads.l = tieTo a.heads.l x.heads.l:=by
  show Sl.l (a.heads.map _) = _
  cases a.heads <;> simp [Sl.l,tieTo]
theorem oneB_merge {a x c : Note} (h : oneB a x = true) : oneB c (merge a x) = oneB c a:=by
  have hl:=oneB_len h
  exact oneB_of rfl rfl (by rw [merge_heads]; exact tieTo_map (fun _ _ => rfl) hl) rfl rfl rfl (by rw [merge_heads]; exact tieTo_map (fun _ _ => rfl) hl)
theorem stepT_noOne {L : List Note} {x : Note} (h : NoOne L) : NoOne (stepT L x):=by
  unfold stepT
  cases hl : L.getLast? with
  | none =>
    intro i a b _ h2
    simp at h2
  | some a =>
    simp only
    cases h1 : oneB a x with
    | true => rw [if_pos rfl]; exact noOne_set h hl fun c => oneB_merge h1
    | false =>
      rw [if_neg (by simp)]
      exact noOne_snoc h fun b hb => by rw [hl,Option.some.injEq] at hb; rw [← hb]; exact h1
theorem fold_noOne : ∀ {l L : List Note},NoOne L→NoOne (l.foldl stepT L)
  | [],_,h => h
  | x :: l,L,h => by rw [List.foldl_cons]; exact fold_noOne (stepT_noOne h)
theorem fold_id : ∀ {l P : List Note},NoOne (P ++ l)→l.foldl stepT P = P ++ l
  | [],P,_ => by simp
  | x :: l,P,h => by
    have e : stepT P x = P ++ [x]:=by
      unfold stepT
      cases hl : P.getLast? with
      | none => rw [List.getLast?_eq_none_iff.1 hl]; rfl
      | some a =>
        have hat:=getLast_at hl
        have hlen:=(List.getElem?_eq_some_iff.1 hat).1
        have:=h (P.length - 1) a x (by rw [List.getElem?_append_left (by omega)]; exact hat) (by rw [List.getElem?_append_right (by omega)]; simp [show P.length - 1 + 1 - P.length = 0 by omega])
        simp only [this,Bool.false_eq_true,if_false]
    rw [List.foldl_cons,e,fold_id (by simpa using h)]; simp
theorem untieN_heads {n : Note} {nx : Option Note} : (untieN n nx).heads.l = n.heads.l.map fun h => h.tie (keepTie n nx h):=by
  show Sl.l (n.heads.map _) = _
  cases n.heads <;> simp [Sl.l]
theorem untieN_hmap {β : Type} {f : Head→β} (hf : ∀ h b,f (h.tie b) = f h) {n : Note} {nx : Option Note} : (untieN n nx).heads.l.map f = n.heads.l.map f:=by
  rw [untieN_heads,List.map_map]
  exact List.map_congr_left fun h _ => hf h _
theorem untie_at {L : List Note} {i : Nat} {a : Note} (h : (untie L)[i]? = some a) : ∃ n,L[i]? = some n∧a = untieN n L[i + 1]?:=by
  have hi:=(List.getElem?_eq_some_iff.1 h).1
  rw [untie_len] at hi
  refine ⟨L[i],List.getElem?_eq_getElem hi,?_⟩
  have:=untie_get (List.getElem?_eq_getElem hi)
  rw [this] at h; exact (Option.some.inj h).symm
theorem keepTie_tied {n : Note} {nx : Option Note} {h : Head} (k : keepTie n nx h = true) : h.tied = true:=by
  unfold keepTie at k; rw [Bool.and_eq_true] at k; exact k.1
theorem oneB_untied {a b : Note} {x y : Option Note} (h : oneB (untieN a x) (untieN b y) = true) : oneB a b = true:=by
  unfold oneB Note.plainB headsOne at h ⊢
  have s:=untieN_hmap (f:=Head.shown) (fun _ _ => rfl) (n:=b) (nx:=y)
  rw [all_map_eq (p:=fun x => decide (x = 0)) s,untieN_hmap (f:=Head.pitch) (fun _ _ => rfl),untieN_hmap (f:=Head.pitch) (fun _ _ => rfl),untieN_heads] at h
  simp only [Bool.and_eq_true,decide_eq_true_eq] at h ⊢
  obtain ⟨h1,⟨h2,h3⟩,h4,h5⟩:=h
  refine ⟨h1,⟨h2,h3⟩,?_,h5⟩
  rw [List.all_map,List.all_eq_true] at h4
  rw [List.all_eq_true]
  intro k hk
  exact keepTie_tied (h4 k hk)
theorem untie_noOne {L : List Note} (h : NoOne L) : NoOne (untie L):=by
  intro i a b h1 h2
  obtain ⟨n,e1,rfl⟩:=untie_at h1
  obtain ⟨m,e2,rfl⟩:=untie_at h2
  cases k : oneB (untieN n L[i + 1]?) (untieN m L[i + 1 + 1]?) with
  | false => rfl
  | true => have:=oneB_untied k; rw [h i n m e1 e2] at this; cases this
theorem hasB_of {a b : Note} (h : a.heads.l.map Head.pitch = b.heads.l.map Head.pitch) (p : Pitch) : a.hasB p = b.hasB p:=by
  unfold Note.hasB
  have:=congrArg (List.any · fun q => decide (q = p)) h
  simpa [List.any_map,Function.comp_def] using this
theorem untie_ties {L : List Note} : Ties (untie L):=by
  intro i a h1 h hh ht
  obtain ⟨n,e1,rfl⟩:=untie_at h1
  rw [untieN_heads,List.mem_map] at hh
  obtain ⟨k,hk,rfl⟩:=hh
  have ht' : keepTie n L[i + 1]? k = true:=ht
  have hm:=ht'
  unfold keepTie at hm ⊢
  rw [Bool.and_eq_true] at hm ⊢
  refine ⟨ht,?_⟩
  have hm2:=hm.2
  cases e2 : L[i + 1]? with
  | none => rw [e2] at hm2; simp at hm2
  | some m =>
    rw [untie_get e2]
    rw [e2] at hm2
    simp only [Bool.and_eq_true,decide_eq_true_eq] at hm2 ⊢
    exact ⟨hm2.1,by rw [hasB_of (untieN_hmap (f:=Head.pitch) fun _ _ => rfl)]; exact hm2.2⟩
theorem neat_tidy {l : List Note} : Neat (tidyP l):=⟨untie_noOne (fold_noOne noOne_nil),untie_ties⟩
theorem untie_id {L : List Note} (h : Ties L) : untie L = L:=by
  apply List.ext_getElem?
  intro i
  cases e : L[i]? with
  | none => rw [List.getElem?_eq_none_iff] at e ⊢; rw [untie_len]; exact e
  | some n =>
    rw [untie_get e,Option.some.injEq]
    unfold untieN
    have : n.heads.map (List.map fun h => h.tie (keepTie n L[i + 1]? h)) = n.heads:=by
      cases eh : n.heads with
      | none => rfl
      | some l =>
        simp only [Option.map_some,Option.some.injEq]
        have : ∀ h ∈ l,h.tie (keepTie n L[i + 1]? h) = h:=fun k hk => by
          cases ht : k.tied with
          | true => rw [h i n e k (by rw [eh]; exact hk) ht,← ht]; rfl
          | false =>
            have : keepTie n L[i + 1]? k = false:=by unfold keepTie; rw [ht]; rfl
            rw [this,← ht]; rfl
        rw [List.map_congr_left this]; simp
    rw [this]
theorem tidy_id {L : List Note} (h : Neat L) : tidyP L = L:=by
  unfold tidyP
  rw [fold_id (P:=[]) (by simpa using h.1)]
  exact untie_id h.2
theorem at_cn {L M : List Note} (h : L.map Note.cn = M.map Note.cn) {i : Nat} {m : Note} (hm : M[i]? = some m) : ∃ n,L[i]? = some n∧n.cn = m.cn:=by
  have:=congrArg (·[i]?) h
  simp only [List.getElem?_map,hm,Option.map_some] at this
  cases e : L[i]? with
  | none => rw [e] at this; cases this
  | some n => rw [e] at this; exact ⟨n,rfl,Option.some.inj this⟩
theorem opt_cn {L M : List Note} (h : L.map Note.cn = M.map Note.cn) (i : Nat) : L[i]?.map Note.cn = M[i]?.map Note.cn:=by
  have:=congrArg (·[i]?) h
  simpa only [List.getElem?_map] using this
theorem heads_cn {a b : Note} (h : a.cn = b.cn) : a.heads.l = b.heads.l:=by
  have:=congrArg Note.heads h
  exact of_inj.1 this
theorem neat_cn {L M : List Note} (h : L.map Note.cn = M.map Note.cn) (k : Neat L) : Neat M:=by
  refine ⟨fun i a b h1 h2 => ?_,fun i n h1 x hx ht => ?_⟩
  · obtain ⟨c,c1,c2⟩:=at_cn h h1
    obtain ⟨d,d1,d2⟩:=at_cn h h2
    rw [← oneB_cn,← c2,← d2,oneB_cn]
    exact k.1 i c d c1 d1
  · obtain ⟨c,c1,c2⟩:=at_cn h h1
    rw [← keepTie_cn,← c2,← opt_cn h,keepTie_cn]
    exact k.2 i c c1 x (by rw [heads_cn c2]; exact hx) ht
theorem neat_iff {l : List Note} : (tidyP l).map Note.cn = l.map Note.cn ↔ Neat l :=
  ⟨fun h => neat_cn h neat_tidy,fun h => by rw [tidy_id h]⟩
end
end Go.Hem
namespace Go.Hem
noncomputable section
structure NFit (L : Int) (n : Note) : Prop where
  lo : 0 ≤ n.at_
  one : 1 ≤ n.len
  hi : n.at_ + n.len ≤ L
  ok : chordE n = 0
def Before (m n : Note) : Prop:=m.at_ + m.len ≤ n.at_
structure Row (L : Int) (l : List Note) : Prop where
  fit : ∀ n ∈ l,NFit L n
  ord : l.Pairwise Before
theorem NFit.fin_eq {L : Int} {n : Note} (h : NFit L n) (hL : L ≤ 123863040) : n.fin = n.at_ + n.len:=by
  have:=h.lo; have:=h.one; have:=h.hi
  unfold Note.fin
  exact w64 (by omega) (by omega)
theorem row_nil {L : Int} : Row L []:=⟨by simp,.nil⟩
theorem checkL_row {L : Int} (h0 : 0 ≤ L) (hL : L ≤ 123863040) : ∀ {l : List Note} {p : Option Note},(∀ m,p = some m→NFit L m)→checkL L p l = 0→Row L l∧∀ m,p = some m→∀ n ∈ l,Before m n
  | [],p,_,_ => ⟨row_nil,by simp⟩
  | n :: t,p,hp,h => by
    simp only [checkL] at h
    by_cases c1 : outR L n
    · rw [if_pos c1] at h; simp at h
    rw [if_neg c1] at h
    by_cases c2 : early p n
    · rw [if_pos c2] at h; simp at h
    rw [if_neg c2] at h
    by_cases c3 : chordE n ≠ 0
    · rw [if_pos c3] at h; exact absurd h c3
    rw [if_neg c3] at h
    have c3' : chordE n = 0:=by simpa using c3
    unfold outR at c1
    have q1 : 0 ≤ n.at_:=by omega
    have q2 : 1 ≤ n.len:=by omega
    have q3 : n.at_ ≤ L:=by omega
    have q4 : IntKind.i64.wrap (L - n.at_) = L - n.at_:=w64 (by omega) (by omega)
    rw [q4] at c1
    have fn : NFit L n:=⟨q1,q2,by omega,c3'⟩
    obtain ⟨r1,r2⟩:=checkL_row h0 hL (p:=some n) (fun m e => by cases e; exact fn) h
    have hb : ∀ m,p = some m→Before m n:=fun m e => by
      subst e
      have:=(hp m rfl).fin_eq hL
      simp only [early] at c2
      unfold Before; omega
    refine ⟨⟨fun x hx => ?_,List.pairwise_cons.2 ⟨r2 n rfl,r1.ord⟩⟩,fun m e x hx => ?_⟩
    · rcases List.mem_cons.1 hx with rfl | hx
      · exact fn
      · exact r1.fit x hx
    · rcases List.mem_cons.1 hx with rfl | hx
      · exact hb m e
      · have a:=hb m e
        have b:=r2 n rfl x hx
        unfold Before at a b ⊢; omega
theorem row_checkL {L : Int} (h0 : 0 ≤ L) (hL : L ≤ 123863040) : ∀ {l : List Note} {p : Option Note},(∀ m,p = some m→NFit L m∧∀ n ∈ l,Before m n)→Row L l→checkL L p l = 0
  | [],p,_,_ => rfl
  | n :: t,p,hp,h => by
    have fn:=h.fit n (by simp)
    have:=fn.lo; have:=fn.one; have:=fn.hi
    have q4 : IntKind.i64.wrap (L - n.at_) = L - n.at_:=w64 (by omega) (by omega)
    simp only [checkL]
    rw [if_neg (by unfold outR; rw [q4]; omega),if_neg,if_neg (by rw [fn.ok]; simp)]
    · obtain ⟨a,b⟩:=List.pairwise_cons.1 h.ord
      exact row_checkL h0 hL (fun m e => by cases e; exact ⟨fn,a⟩) ⟨fun x hx => h.fit x (by simp [hx]),b⟩
    · cases p with
      | none => exact fun h => h
      | some m =>
        obtain ⟨a,b⟩:=hp m rfl
        have:=a.fin_eq hL
        have:=b n (by simp)
        simp only [early]
        unfold Before at this; omega
structure Good (c : Clip) : Prop where
  lo : 0 ≤ c.len
  hi : c.len ≤ 123863040
  row : Row c.len c.notes.l
  neat : Neat c.notes.l
theorem good_of {c : Clip} (h : checkE c = 0) : Good c:=by
  unfold checkE at h
  by_cases c1 : c.len < 0 ∨ 123863040 < c.len
  · rw [if_pos c1] at h; simp at h
  rw [if_neg c1] at h
  by_cases c2 : 4096 < c.notes.l.length
  · rw [if_pos c2] at h; simp at h
  rw [if_neg c2] at h
  by_cases c3 : checkL c.len none c.notes.l ≠ 0
  · rw [if_pos c3] at h; exact absurd h c3
  rw [if_neg c3] at h
  by_cases c4 : (tidyP c.notes.l).map Note.cn = c.notes.l.map Note.cn
  · exact ⟨by omega,by omega,(checkL_row (by omega) (by omega) (p:=none) (fun m e => by cases e) (by simpa using c3)).1,neat_iff.1 c4⟩
  · rw [if_neg c4] at h; simp at h
theorem check_of {c : Clip} (h : Good c) (hl : c.notes.l.length ≤ 4096) : checkE c = 0:=by
  unfold checkE
  have:=h.lo; have:=h.hi
  rw [if_neg (by omega),if_neg (by omega),row_checkL h.lo h.hi (fun m e => by cases e) h.row,if_neg (by simp),if_pos (neat_iff.2 h.neat)]
theorem headsL_of : ∀ {l m : List Head} {q : Int},l.map Head.pitch = m.map Head.pitch→l.map Head.shown = m.map Head.shown→headsL q l = headsL q m
  | [],[],_,_,_ => rfl
  | [],_ :: _,_,h,_ => by simp at h
  | _ :: _,[],_,h,_ => by simp at h
  | x :: l,y :: m,q,h1,h2 => by
    simp only [List.map_cons,List.cons.injEq] at h1 h2
    have e : wellE x = wellE y:=by unfold wellE; rw [h1.1,h2.1]
    simp only [headsL]
    rw [e,h1.1,headsL_of h1.2 h2.2]
theorem headsE_of {l m : List Head} (h1 : l.map Head.pitch = m.map Head.pitch) (h2 : l.map Head.shown = m.map Head.shown) : headsE l = headsE m:=by
  unfold headsE
  rw [map_inj_len h1,headsL_of h1 h2]
theorem chordE_of {a b : Note} (h1 : a.heads.l.map Head.pitch = b.heads.l.map Head.pitch) (h2 : a.heads.l.map Head.shown = b.heads.l.map Head.shown) (h3 : a.graces.l = b.graces.l) (h4 : a.lyrics.l = b.lyrics.l) (h5 : a.articulations = b.articulations) (h6 : a.ornament = b.ornament) (h7 : a.dynamic = b.dynamic) : chordE a = chordE b:=by
  unfold chordE
  rw [headsE_of h1 h2,h3,h4,h5,h6,h7]
inductive Same2 : List Note→List Note→Prop
  | nil : Same2 [] []
  | cons {a b : Note} {l m : List Note} : (a.at_ = b.at_∧a.len = b.len∧chordE a = chordE b)→Same2 l m→Same2 (a :: l) (b :: m)
end
end Go.Hem
namespace Go.Hem
noncomputable section
def strQ (num den v : Int) : Int:=IntKind.i64.wrap ((IntKind.i64.wrap (v * num)).tdiv den)
def Note.str (num den : Int) (n : Note) : Note:={ n with at_:=strQ num den n.at_,len:=strQ num den n.len }
def ratio (num den : Int) : Prop:=1 ≤ num∧num ≤ 64∧1 ≤ den∧den ≤ 64
instance {num den : Int} : Decidable (ratio num den):=by unfold ratio; exact inferInstance
theorem frz_tup {I : Bool} {d : Nat} {H : AHeap} {v u : AV} {fp : List Nat} {x : Sc} (h : OwnX I d H v u fp) (hd : d ≤ 19) : Frz (.tup [v,.sc x]) H (.tup [u,.sc x]):=by
  obtain ⟨H1,h1,h2,_⟩:=freezeV_own (h.mono hd)
  refine ⟨H1,?_,?_⟩
  · have e : ∀ k (l : List AV) H,freezeV (k + 1) (.tup l) H = (freezeL (freezeV k) l H).map fun r => (.tup r.1,r.2):=fun _ _ _ => rfl
    have e2 : ∀ k H,freezeV (k + 1) (.sc x) H = some (.sc x,H):=fun _ _ => rfl
    show freezeV (19 + 1) _ _ = _
    rw [e,freezeL,h1,Option.bind_some,freezeL,e2 18,Option.bind_some,freezeL]; rfl
  · simp only [AV.closedB,AV.closedBs,h2,Bool.and_self]
theorem frz_err {H : AHeap} {e : Int} : Frz (.tup [.agg [.sc (.int .i64 0),.sc .nils],.sc (.int .i64 e)]) H (.tup [Clip.enc ⟨0,none⟩,.sc (.int .i64 e)]) :=
  frz_tup (own_closed (d:=3) (cs:=(Clip.enc ⟨0,none⟩).cells) (Clip.enc_plain _)) (by decide)
theorem frz_clip {H : AHeap} {c : Clip} {v : AV} {f : List Nat} {e : Int} (h : Own 4 H v (slm Note.enc c.notes) f) : Frz (.tup [.agg [.sc (.int .i64 c.len),v],.sc (.int .i64 e)]) H (.tup [c.enc,.sc (.int .i64 e)]) :=
  frz_tup (I:=true) (d:=5) (fp:=[] ++ (f ++ [])) ⟨c.enc.cells,rfl,.cons .scal (.cons h .nil Apart.nil_right) Apart.nil_left⟩ (by decide)
end
end Go.Hem
namespace Go.Hem
def okTrue : XR AV→Bool
  | .ok (.sc (.bool b)) => b
  | _ => false
theorem okTrue_spec {r : XR AV} (h : okTrue r = true) : r = .ok (.sc (.bool true)):=by
  unfold okTrue at h
  split at h
  · subst h; rfl
  · cases h
theorem known_run : okTrue (xPure (X prog polS memo0 1000) 9 []) = true:=by decide +kernel
theorem known_pv : Pv prog polS 9 [] (.sc (.bool true)):=pv_of_x memo0_ok rfl (okTrue_spec known_run)
end Go.Hem
namespace Go.Hem
noncomputable section
def sylS (s : Syllable) : Bool:=decide (s.text.size ≤ 300)
def noteS (n : Note) : Bool:=decide (n.heads.l.length ≤ 12) && (decide (n.graces.l.length ≤ 12) && (decide (n.lyrics.l.length ≤ 6) && n.lyrics.l.all sylS))
def Clip.smallB (c : Clip) : Bool:=decide (c.notes.l.length ≤ 20) && c.notes.l.all noteS
theorem noteS_tame {n : Note} (h : noteS n = true) : n.tame:=by
  unfold noteS at h
  simp only [Bool.and_eq_true,decide_eq_true_eq] at h
  obtain ⟨h1,h2,h3,h4⟩:=h
  refine ⟨by omega,by omega,by omega,fun s hs => ?_⟩
  have:=List.all_eq_true.1 h4 s hs
  simp only [sylS,decide_eq_true_eq] at this; omega
theorem smallB_tame {c : Clip} (h : c.smallB = true) : c.tame:=by
  unfold Clip.smallB at h
  simp only [Bool.and_eq_true,decide_eq_true_eq] at h
  exact ⟨by omega,fun x hx => noteS_tame (List.all_eq_true.1 h.2 x hx)⟩
theorem small_pv (c : Clip) : Pv prog polS 10 [c.enc] (.sc (.bool c.smallB)):=by
  refine Pv_of' ok10 (by simp only [AV.closedBs,Clip.enc_closed,Bool.and_self]) ?_
  generalize hr : c.smallB = r
  unfold Clip.smallB at hr
  by_cases b1 : (20 : Int) < (c.notes.l.length : Int)
  · rw [decide_eq_false (by omega),Bool.false_and] at hr; subst hr
    simp -implicitDefEqProofs (maxDischargeDepth:=12) only [wpF,cf10,WW,List.replicate,Option.some_or,s_conv,e_conv,s_slc3,e_cut3,e_cut3n,e_bns,e_bnn,e_splice,if_true,if_false,ite_true,ite_false,true_or,ne_eq,seval,h_putc,beq_self_eq_true,eq_self,exists_eq_left,exists_eq_left',c.enc_eq,b1]
    exact frz_sc
  rw [decide_eq_true (by omega),Bool.true_and] at hr
  simp -implicitDefEqProofs (maxDischargeDepth:=12) only [wpF,cf10,WW,List.replicate,Option.some_or,s_conv,e_conv,s_slc3,e_cut3,e_cut3n,e_bns,e_bnn,e_splice,if_true,if_false,ite_true,ite_false,true_or,ne_eq,seval,h_putc,beq_self_eq_true,eq_self,exists_eq_left,exists_eq_left',c.enc_eq,b1]
  refine wp_loop (Inv:=fun k t H => ∃ (i : Nat),i + k = c.notes.l.length∧(c.notes.l.take i).all noteS = true∧H.cells 0 = some c.enc.cells∧1 ≤ H.next ∧
    ∃ x : Nat→AV,t = [c.enc,.ptr 0 0,x 2,.sc (.int .i64 i),x 4,x 5,x 6,x 7,x 8,x 9,x 10,x 11,x 12,x 13,x 14,x 15,x 16,x 17,x 18,x 19,x 20,x 21,x 22,x 23,x 24,x 25,x 26,x 27,x 28,x 29,x 30,x 31,x 32,x 33,x 34,x 35,x 36,x 37,x 38,x 39,x 40,x 41,x 42,x 43,x 44,x 45,x 46,x 47,x 48,x 49,x 50,x 51,x 52]) (k:=c.notes.l.length) ?_
    ⟨0,by omega,by simp,?_,by simp,ex_x rfl⟩
  rotate_left
  · simp -implicitDefEqProofs (maxDischargeDepth:=12) only [WW,List.replicate,Option.some_or,s_conv,e_conv,s_slc3,e_cut3,e_cut3n,e_bns,e_bnn,e_splice,if_true,if_false,ite_true,ite_false,true_or,ne_eq,seval,h_putc,beq_self_eq_true,eq_self,exists_eq_left,exists_eq_left']; rfl
  rintro k t H ⟨i,hk,hf,hA,hN,x,rfl⟩
  simp only [c.enc_eq,c_agg] at hA
  by_cases c1 : (i : Int) < (c.notes.l.length : Int)
  rotate_left
  · rw [List.take_of_length_le (by omega)] at hf
    rw [hf] at hr; subst hr
    simp -implicitDefEqProofs (maxDischargeDepth:=12) only [WW,List.replicate,Option.some_or,s_conv,e_conv,s_slc3,e_cut3,e_cut3n,e_bns,e_bnn,e_splice,if_true,if_false,ite_true,ite_false,true_or,ne_eq,seval,h_putc,beq_self_eq_true,eq_self,exists_eq_left,exists_eq_left',hA,c1]
    exact frz_sc
  obtain ⟨y,hy⟩ : ∃ y,c.notes.l[i]? = some y:=⟨_,List.getElem?_eq_getElem (by omega)⟩
  have e2 : IntKind.i64.wrap ((i : Int) + 1) = ((i + 1 : Nat) : Int):=by rw [w64 (by omega) (by omega)]; omega
  have q0 : ¬ 0 = H.next:=by omega
  have q1 : ¬ H.next = 0:=by omega
  have no : noteS y = false→r = false:=fun h => by rw [all_no hy h] at hr; exact hr.symm
  by_cases c3 : (12 : Int) < (y.heads.l.length : Int)
  · rw [no (by unfold noteS; rw [decide_eq_false (by omega),Bool.false_and])]
    simp -implicitDefEqProofs (maxDischargeDepth:=12) only [WW,List.replicate,Option.some_or,s_conv,e_conv,s_slc3,e_cut3,e_cut3n,e_bns,e_bnn,e_splice,if_true,if_false,ite_true,ite_false,true_or,ne_eq,seval,h_putc,beq_self_eq_true,eq_self,exists_eq_left,exists_eq_left',hA,c1,hy,y.enc_eq,q0,q1,c3]
    exact frz_sc
  by_cases c4 : (12 : Int) < (y.graces.l.length : Int)
  · rw [no (by unfold noteS; rw [decide_eq_false (p:=y.graces.l.length ≤ 12) (by omega),Bool.false_and,Bool.and_false])]
    simp -implicitDefEqProofs (maxDischargeDepth:=12) only [WW,List.replicate,Option.some_or,s_conv,e_conv,s_slc3,e_cut3,e_cut3n,e_bns,e_bnn,e_splice,if_true,if_false,ite_true,ite_false,true_or,ne_eq,seval,h_putc,beq_self_eq_true,eq_self,exists_eq_left,exists_eq_left',hA,c1,hy,y.enc_eq,q0,q1,c3,c4]
    exact frz_sc
  by_cases c5 : (6 : Int) < (y.lyrics.l.length : Int)
  · rw [no (by unfold noteS; rw [decide_eq_false (p:=y.lyrics.l.length ≤ 6) (by omega),Bool.false_and,Bool.and_false,Bool.and_false])]
    simp -implicitDefEqProofs (maxDischargeDepth:=12) only [WW,List.replicate,Option.some_or,s_conv,e_conv,s_slc3,e_cut3,e_cut3n,e_bns,e_bnn,e_splice,if_true,if_false,ite_true,ite_false,true_or,ne_eq,seval,h_putc,beq_self_eq_true,eq_self,exists_eq_left,exists_eq_left',hA,c1,hy,y.enc_eq,q0,q1,c3,c4,c5]
    exact frz_sc
  have hns : noteS y = y.lyrics.l.all sylS:=by
    unfold noteS; rw [decide_eq_true (p:=y.heads.l.length ≤ 12) (by omega),decide_eq_true (p:=y.graces.l.length ≤ 12) (by omega),decide_eq_true (p:=y.lyrics.l.length ≤ 6) (by omega)]
    simp only [Bool.true_and]
  simp -implicitDefEqProofs (maxDischargeDepth:=12) only [WW,List.replicate,Option.some_or,s_conv,e_conv,s_slc3,e_cut3,e_cut3n,e_bns,e_bnn,e_splice,if_true,if_false,ite_true,ite_false,true_or,ne_eq,seval,h_putc,beq_self_eq_true,eq_self,exists_eq_left,exists_eq_left',hA,c1,hy,y.enc_eq,q0,q1,c3,c4,c5]
  generalize hq : H.next = q at q0 q1 hN
  generalize hH1 : AHeap.put _ q _ = H1
  have n1 : H1.next = q + 1:=by subst hH1; simp only [AHeap.next_put,AHeap.next_alloc,hq]
  have cq:=congrArg (fun H => AHeap.cells H q) hH1
  have c0:=congrArg (fun H => AHeap.cells H 0) hH1
  simp -implicitDefEqProofs (maxDischargeDepth:=12) only [WW,List.replicate,Option.some_or,s_conv,e_conv,s_slc3,e_cut3,e_cut3n,e_bns,e_bnn,e_splice,if_true,if_false,ite_true,ite_false,true_or,ne_eq,seval,h_putc,beq_self_eq_true,eq_self,exists_eq_left,exists_eq_left',hq,q0,hA] at cq c0
  replace cq:=cq.symm
  replace c0:=c0.symm
  clear hH1
  refine wp_loop (Inv:=fun k2 t H => H = H1∧∃ (j : Nat),j + k2 = y.lyrics.l.length∧(y.lyrics.l.take j).all sylS = true ∧
    ∃ x : Nat→AV,t = [c.enc,.ptr 0 0,x 2,.sc (.int .i64 i),.ptr q 0,.sc (.int .i64 j),x 6,x 7,x 8,x 9,x 10,x 11,x 12,x 13,x 14,x 15,x 16,x 17,x 18,x 19,x 20,x 21,x 22,x 23,x 24,x 25,x 26,x 27,x 28,x 29,x 30,x 31,x 32,x 33,x 34,x 35,x 36,x 37,x 38,x 39,x 40,x 41,x 42,x 43,x 44,x 45,x 46,x 47,x 48,x 49,x 50,x 51,x 52]) (k:=y.lyrics.l.length) ?_
    ⟨rfl,0,by omega,by simp,ex_x rfl⟩
  clear x
  rintro k2 t _ ⟨rfl,j,hk2,hs,x,rfl⟩
  by_cases d1 : (j : Int) < (y.lyrics.l.length : Int)
  rotate_left
  · rw [List.take_of_length_le (by omega)] at hs
    simp -implicitDefEqProofs (maxDischargeDepth:=12) only [WW,List.replicate,Option.some_or,s_conv,e_conv,s_slc3,e_cut3,e_cut3n,e_bns,e_bnn,e_splice,if_true,if_false,ite_true,ite_false,true_or,ne_eq,seval,h_putc,beq_self_eq_true,eq_self,exists_eq_left,exists_eq_left',cq,c0,d1,e2]
    exact ⟨k - 1,by omega,i + 1,by omega,by rw [all_take hy hf,hns]; exact hs,rfl,by omega,ex_x rfl⟩
  obtain ⟨z,hz⟩ : ∃ z,y.lyrics.l[j]? = some z:=⟨_,List.getElem?_eq_getElem (by omega)⟩
  have e3 : IntKind.i64.wrap ((j : Int) + 1) = ((j + 1 : Nat) : Int):=by rw [w64 (by omega) (by omega)]; omega
  by_cases d2 : (300 : Int) < (z.text.size : Int)
  · rw [no (by rw [hns]; exact all_no hz (by unfold sylS; exact decide_eq_false (by omega)))]
    simp -implicitDefEqProofs (maxDischargeDepth:=12) only [WW,List.replicate,Option.some_or,s_conv,e_conv,s_slc3,e_cut3,e_cut3n,e_bns,e_bnn,e_splice,if_true,if_false,ite_true,ite_false,true_or,ne_eq,seval,h_putc,beq_self_eq_true,eq_self,exists_eq_left,exists_eq_left',cq,c0,d1,hz,z.enc_eq,d2]
    exact frz_sc
  · simp -implicitDefEqProofs (maxDischargeDepth:=12) only [WW,List.replicate,Option.some_or,s_conv,e_conv,s_slc3,e_cut3,e_cut3n,e_bns,e_bnn,e_splice,if_true,if_false,ite_true,ite_false,true_or,ne_eq,seval,h_putc,beq_self_eq_true,eq_self,exists_eq_left,exists_eq_left',cq,c0,d1,hz,z.enc_eq,d2,e3]
    exact ⟨k2 - 1,by omega,j + 1,by omega,by rw [all_take hz hs]; unfold sylS; exact decide_eq_true (by omega),ex_x rfl⟩
theorem chord_tames {c : Clip} (h : c.tame) : ∀ x ∈ c.notes.l,x.chord.tame:=fun x hx => Note.chord_tame (h.2 x hx)
end
end Go.Hem
namespace Go.Hem
noncomputable section
def ClosedQ {α : Type} (f : α→AV) : RQ α:=fun _ r x g => r = (f x).cells∧g = []
theorem closedQ {α : Type} {n : Nat} {f : α→AV} (row : RowOf n f) (hl : ∀ x,(f x).cells.length = n) (hp : ∀ x,AV.plain2 (f x) = true) (ha : ∀ x,∃ cs,f x = .agg cs) : RowQ n 3 f (ClosedQ f) where
  row:=row
  len:=by rintro H r x g ⟨rfl,rfl⟩; exact hl x
  fr:=by rintro H H' r x g h _; exact h
  lt:=by rintro H r x g ⟨rfl,rfl⟩ b hb; simp at hb
  own:=by
    rintro H r x g ⟨rfl,rfl⟩
    refine ⟨[],OwnL.plain fun v hv => ?_,fun _ h => h⟩
    obtain ⟨cs,e⟩:=ha x
    have:=hp x
    rw [e] at this hv
    simp only [AV.plain2,List.all_eq_true] at this
    exact this v hv
theorem rows_closed {α : Type} {f : α→AV} {H : AHeap} : ∀ {l : List α},Rows (ClosedQ f) H (l.flatMap fun x => (f x).cells) l []
  | [] => .nil
  | h :: l => Rows.cons (Q:=ClosedQ f) (g:=[]) ⟨rfl,rfl⟩ rows_closed Apart.nil_left
def NoteC : RQ Note:=ClosedQ Note.enc
theorem noteC : RowQ 8 3 Note.enc NoteC:=closedQ row_Note (fun _ => rfl) Note.enc_plain fun _ => ⟨_,rfl⟩
theorem wA_appC {α : Type} {f : α→AV} {n bytes : Nat} {P : Program} {pol : Pol} {is : List CI} {dst : Option Tmp} {rd : List COp} {R : List AV→AHeap→Prop} {z : AV} {t : List AV} {b : Nat} {H : AHeap} {s : Sl α}
    (row : RowOf n f) (hl : ∀ x,(f x).cells.length = n) (hb : H.cells b = some []) (hs : s.l.length < 1000000) (hy : bytes ≤ 1000)
    (k : ∀ v' H' fp',AccQ (ClosedQ f) n H' v' (some s.l) fp'→H.next ≤ H'.next→(∀ c,c ≠ b→c < H.next→H'.cells c = H.cells c)→(∀ c ∈ fp',c = b ∨ H.next ≤ c)→v'.one = true→v'.cells = [v']→reK P (z :: t) H rd H'∧wpIns P pol is (putT (z :: t) dst v') H' R) :
    wA P pol rd is dst (z :: t) H R (some true) (appTo n bytes H (.slice b 0 0 0 n) (slm f s)):=by
  have e1 : alen (slm f s) = some s.l.length:=by rw [e_alenm]
  have e2 : asrc n H (slm f s) s.l.length = some (s.l.flatMap fun v => (f v).cells):=by
    rw [e_srcm hl (Nat.le_refl _),List.take_length]
  have hflat : (s.l.flatMap fun v => (f v).cells).length = s.l.length * n:=flat_len row s.l
  by_cases h0 : s.l = []
  · rw [h0] at e1 e2 k
    have e : appTo n bytes H (.slice b 0 0 0 n) (slm f s) = some (.mem (.slice b 0 0 0 n) b []):=by
      simp only [appTo,e1,Option.bind_some,List.length_nil]
      rw [List.length_nil] at e2
      simp [e2,hb,splice]
    rw [e,wA_mem]
    refine k _ _ [b] (.inr ⟨b,0,[],[],[],[],rfl,rfl,Nat.le_refl _,?_,by simp,.nil,by simp,rfl⟩) (by simp) (fun c h1 h2 => c_put_ne h1) (fun c hc => .inl (by simpa using hc)) rfl rfl
    rw [h_put_self hb]; rfl
  · have h9 : s.l.length ≠ 0:=by simpa using h0
    have h1 : ¬ (0 + s.l.length ≤ 0):=by omega
    have hbig : (2 * (0 + s.l.length) + 1000) * bytes ≤ 2 ^ 47:=by
      have : (2 * (0 + s.l.length) + 1000) * bytes ≤ (2 * (0 + s.l.length) + 1000) * 1000:=Nat.mul_le_mul_left _ hy
      omega
    have e : appTo n bytes H (.slice b 0 0 0 n) (slm f s) = some (.move (fun b' => .slice b' 0 (0 + s.l.length) (0 + s.l.length) n) b (s.l.flatMap fun v => (f v).cells)):=by
      simp only [appTo,e1,e2,Option.bind_some,hb,ne_eq,not_true,if_false,if_neg h1]
      rw [if_pos ⟨trivial,hbig,by simp⟩]; simp
    rw [e]
    simp only [Nat.zero_add]
    rw [wA_move]
    refine k _ _ [H.next] (.inr ⟨H.next,s.l.length,_,[],[],s.l,rfl,rfl,Nat.le_refl _,?_,by simp,rows_closed,by simp,rfl⟩) (by simp) (fun c h1 h2 => ?_) (fun c hc => .inr (by simp at hc; omega)) rfl rfl
    · rw [h_alloc,if_pos (by simp)]; simp
    · rw [c_alloc_ne (by simp; omega),c_put_ne h1]
end
end Go.Hem
namespace Go.Hem
noncomputable section
theorem wp_loopY {P : Program} {pol : Pol} {b : CC} {Q : Post} (n : Nat) (Inv : Nat→List AV→AHeap→Prop) (Ex : List AV→AHeap→Prop)
    (step : ∀ k t H,Inv k t H→wpC P pol b t H (thenC (fun e t' H' => e = .exit n∧Ex t' H') fun t' H' => ∃ k',k' < k∧Inv k' t' H')) (hex : ∀ t H,Ex t H→Q (.exit n) t H) {k : Nat} {t : List AV} {H : AHeap} (h : Inv k t H) : wpC P pol (.loop b) t H Q:=by
  refine wp_loop Inv (fun k t H hi => wpC_mono (fun e t' H' q => ?_) (step k t H hi)) h
  cases e with
  | normal => exact q
  | exit id => obtain ⟨e1,e2⟩:=q; cases e1; exact hex _ _ e2
  | ret => obtain ⟨e1,e2⟩:=q; cases e1
def noClip : Clip:=⟨0,none⟩
theorem noClip_enc : noClip.enc = .agg [.sc (.int .i64 0),.sc .nils]:=rfl
theorem noClip_tame : noClip.tame:=⟨by decide,fun x hx => by simp [noClip,Sl.l] at hx⟩
end
end Go.Hem
namespace Go.Hem
noncomputable section
def Note.untied (n : Note) : Note:={ n with heads:=n.heads.map (List.map fun h => h.tie false) }
def Note.part (n : Note) (b : Int) : Note:=if n.at_ < b then n.bare else n
def Note.cutTie (n m : Note) (e : Int) : Note:=if e < n.fin then m.untied else m
def limitP (n : Note) (b e : Int) : Note:={ n.cutTie (n.part b) e with at_:=IntKind.i64.wrap (max n.at_ b - b),len:=IntKind.i64.wrap (min n.fin e - max n.at_ b) }
theorem frz_note {H0 H : AHeap} {x : Note} {r : List AV} {g : List Nat} (h : NoteQ H0 r x g) (k : ∀ c ∈ g,H.cells c = H0.cells c) : Frz (.agg r) H x.enc:=by
  obtain ⟨g',o1,_⟩:=noteQ_own (noteQ.fr h k)
  exact OwnX.frz o1 (by decide)
theorem limit_pv (x : Note) (tx : x.tame) (b e : Int) : Pv prog polS 39 [x.enc,.sc (.int .i64 b),.sc (.int .i64 e)] (limitP x b e).enc:=by
  refine Pv_of' ok39 (by simp only [AV.closedBs,Note.enc_closed,AV.closedB,Bool.and_self]) ?_
  generalize hrr : limitP x b e = rr
  have hr0 : { x.cutTie (if x.at_ < b then x.bare else x) e with at_:=IntKind.i64.wrap (max x.at_ b - b),len:=IntKind.i64.wrap (min x.fin e - max x.at_ b) } = rr:=hrr
  clear hrr
  simp -implicitDefEqProofs (maxDischargeDepth:=12) only [wpF,cf39,WW,List.replicate,Option.some_or,s_conv,e_conv,s_slc3,e_cut3,e_cut3n,e_bns,e_bnn,e_splice,if_true,if_false,ite_true,ite_false,true_or,ne_eq,seval,h_putc,beq_self_eq_true,eq_self,exists_eq_left,exists_eq_left',x.enc_eq]
  rw [← x.enc_eq]
  refine wA_call rfl ((clone_ok x tx _).mono ?_)
  rintro o H2 ⟨r,g,rfl,hr,hF⟩
  refine ⟨_,rfl,?_⟩
  have n2:=hF.2.1
  have c0:=hF.2.2 0 (by simp)
  have c1:=hF.2.2 1 (by simp)
  have g2:=hF.1
  simp -implicitDefEqProofs (maxDischargeDepth:=12) only [WW,List.replicate,Option.some_or,s_conv,e_conv,s_slc3,e_cut3,e_cut3n,e_bns,e_bnn,e_splice,if_true,if_false,ite_true,ite_false,true_or,ne_eq,seval,h_putc,beq_self_eq_true,eq_self,exists_eq_left,exists_eq_left',x.enc_eq] at c0 c1 n2 g2
  clear hF
  have hrl : r.length = 8:=noteQ.len hr
  have hones:=hr.ones
  have glt:=noteQ.lt hr
  generalize hq : H2.next = q at n2
  have sp : splice [AV.sc (.int .i64 0),.sc (.int .i64 0),.sc .nils,.sc .nils,.sc (.int .i64 0),.sc (.int .i64 0),.sc (.int .i64 0),.sc .nils] 0 r = r:=splice_full (by rw [hrl]; rfl)
  have n0 : ¬ 0 = q:=by omega
  have n1 : ¬ 1 = q:=by omega
  simp -implicitDefEqProofs (maxDischargeDepth:=12) only [WW,List.replicate,Option.some_or,s_conv,e_conv,s_slc3,e_cut3,e_cut3n,e_bns,e_bnn,if_true,if_false,ite_true,ite_false,true_or,ne_eq,seval,beq_self_eq_true,eq_self,exists_eq_left,exists_eq_left',hrl,hones,sp,c0,n0,n1,hq]
  generalize hH : AHeap.put _ q _ = H
  have p0:=congrArg (fun H => AHeap.cells H 0) hH
  have p1:=congrArg (fun H => AHeap.cells H 1) hH
  have pq:=congrArg (fun H => AHeap.cells H q) hH
  have nH : H.next = q + 1:=by subst hH; simp only [AHeap.next_put,AHeap.next_alloc,hq]
  have hr' : NoteQ H r x g:=noteQ.fr hr fun c hc => by have:=glt c hc; subst hH; rw [c_put_ne (by omega),c_alloc_ne (by omega)]
  simp -implicitDefEqProofs (maxDischargeDepth:=12) only [WW,List.replicate,Option.some_or,s_conv,e_conv,s_slc3,e_cut3,e_cut3n,e_bns,e_bnn,e_splice,if_true,if_false,ite_true,ite_false,true_or,ne_eq,seval,h_putc,beq_self_eq_true,eq_self,exists_eq_left,exists_eq_left',hq,n0,n1,c0,c1] at p0 p1 pq
  replace p0:=p0.symm
  replace p1:=p1.symm
  replace pq:=pq.symm
  have hgq : ∀ c ∈ g,2 ≤ c∧c ≠ q:=fun c hc => by have:=glt c hc; have:=g2 c hc; omega
  clear hH hr g2 glt c0 c1 sp hq
  by_cases b1 : x.at_ < b
  · rw [if_pos b1] at hr0
    simp -implicitDefEqProofs (maxDischargeDepth:=12) only [WW,List.replicate,Option.some_or,s_conv,e_conv,s_slc3,e_cut3,e_cut3n,e_bns,e_bnn,e_splice,if_true,if_false,ite_true,ite_false,true_or,ne_eq,seval,h_putc,beq_self_eq_true,eq_self,exists_eq_left,exists_eq_left',p0,n0,b1]
    rw [← x.enc_eq]
    refine wA_call rfl ((bare_ok x tx.heads _).mono ?_)
    rintro o H3 ⟨r3,g3,rfl,hr3,hF3⟩
    refine ⟨_,rfl,?_⟩
    have hrl3 : r3.length = 8:=noteQ.len hr3
    have hones3:=hr3.ones
    have glt3:=noteQ.lt hr3
    have n3:=hF3.2.1
    have d0:=(hF3.2.2 0 (by omega)).trans p0
    have d1:=(hF3.2.2 1 (by omega)).trans p1
    have dq:=(hF3.2.2 q (by omega)).trans pq
    have sp : splice r 0 r3 = r3:=splice_full (by rw [hrl,hrl3])
    simp -implicitDefEqProofs (maxDischargeDepth:=12) only [WW,List.replicate,Option.some_or,s_conv,e_conv,s_slc3,e_cut3,e_cut3n,e_bns,e_bnn,if_true,if_false,ite_true,ite_false,true_or,ne_eq,seval,beq_self_eq_true,eq_self,exists_eq_left,exists_eq_left',hrl,hrl3,hones3,sp,dq,n0,n1,d0]
    generalize hH : AHeap.put _ q _ = H4
    have p0':=congrArg (fun H => AHeap.cells H 0) hH
    have p1':=congrArg (fun H => AHeap.cells H 1) hH
    have pq':=congrArg (fun H => AHeap.cells H q) hH
    have hr4 : NoteQ H4 r3 x.bare g3:=noteQ.fr hr3 fun c hc => by have:=hF3.1 c hc; subst hH; rw [c_put_ne (by omega)]
    simp -implicitDefEqProofs (maxDischargeDepth:=12) only [WW,List.replicate,Option.some_or,s_conv,e_conv,s_slc3,e_cut3,e_cut3n,e_bns,e_bnn,e_splice,if_true,if_false,ite_true,ite_false,true_or,ne_eq,seval,h_putc,beq_self_eq_true,eq_self,exists_eq_left,exists_eq_left',n0,n1,d0,d1,dq] at p0' p1' pq'
    have hgq3 : ∀ c ∈ g3,2 ≤ c∧c ≠ q:=fun c hc => by have:=hF3.1 c hc; omega
    clear hH hr' p0 p1 pq d0 d1 dq hF3 hgq nH hrl hones hr3 glt3 sp
    replace p0:=p0'.symm
    replace p1:=p1'.symm
    replace pq:=pq'.symm
    clear p0' p1' pq'
    have hml : x.bare.heads.l.length < 1000000:=by rw [Note.bare_heads,List.length_map]; exact tx.heads
    generalize x.bare = m at hr4 hr0 hml
    rw [show max x.at_ b = b by omega] at hr0
    have hr5:=hr4
    obtain ⟨hv,gv,lv,fh,fg,fl,rfl,m1,m2,m3,m4,m5,m6,m7,m8,rfl⟩:=hr5
    have m1o:=m1.one.1
    have n1q : ¬ q = 1:=fun h => n1 h.symm
    simp only [intE] at pq
    try simp -implicitDefEqProofs (maxDischargeDepth:=12) only [WW,List.replicate,Option.some_or,s_conv,e_conv,s_slc3,e_cut3,e_cut3n,e_bns,e_bnn,e_splice,if_true,if_false,ite_true,ite_false,true_or,ne_eq,seval,h_putc,beq_self_eq_true,eq_self,exists_eq_left,exists_eq_left',p0]
    try rw [← x.enc_eq]
    refine wA_pure rfl (end_pv x) ?_
    by_cases b2 : e < x.fin
    · simp only [Note.cutTie] at hr0
      rw [if_pos b2,show min x.fin e = e by omega] at hr0
      have hl:=m1.length.1
      simp -implicitDefEqProofs (maxDischargeDepth:=12) only [WW,List.replicate,Option.some_or,s_conv,e_conv,s_slc3,e_cut3,e_cut3n,e_bns,e_bnn,e_splice,if_true,if_false,ite_true,ite_false,true_or,ne_eq,seval,h_putc,beq_self_eq_true,eq_self,exists_eq_left,exists_eq_left',p0,p1,pq,hl,n0,n1,n1q,b2]
      refine wp_loop (Inv:=fun k t H' => ∃ (i : Nat) (f' : List Nat),i + k = m.heads.l.length∧AccQ HeadQ 5 H' hv (m.heads.map (mapTo (fun h => h.tie false) i)) f'∧(∀ c ∈ f',c ∈ fh)∧(∀ c,c ∉ fh→H'.cells c = H4.cells c) ∧
        ∃ y : Nat→AV,t = [x.enc,.sc (.int .i64 b),.sc (.int .i64 e),.ptr 0 0,y 4,y 5,.ptr 1 0,.ptr q 0,y 8,y 9,y 10,y 11,y 12,y 13,y 14,y 15,y 16,y 17,y 18,y 19,y 20,y 21,y 22,y 23,.sc (.int .i64 m.heads.l.length),.sc (.int .i64 i),y 26,y 27,y 28,y 29,y 30,y 31,y 32,y 33,y 34,y 35,y 36,y 37,y 38,y 39,y 40,y 41,y 42,y 43,y 44,y 45,y 46,y 47,y 48,y 49]) (k:=m.heads.l.length) ?_ ⟨0,fh,by omega,?_,fun _ h => h,fun _ _ => rfl,ex_x rfl⟩
      rotate_left
      · have : m.heads.map (mapTo (fun h : Head => h.tie false) 0) = m.heads:=by cases m.heads <;> simp [mapTo_zero]
        rw [this]; exact m1
      rintro k t H' ⟨i,f',hk,hA,hf,hst,y,rfl⟩
      have p0':=(hst 0 (fun h => by have:=hgq3 0 (mem3.2 (.inl h)); omega)).trans p0
      have p1':=(hst 1 (fun h => by have:=hgq3 1 (mem3.2 (.inl h)); omega)).trans p1
      have pq':=(hst q (fun h => (hgq3 q (mem3.2 (.inl h))).2 rfl)).trans pq
      by_cases c1 : (i : Int) < (m.heads.l.length : Int)
      · obtain ⟨h,hh⟩ : ∃ y,m.heads.l[i]? = some y:=⟨_,List.getElem?_eq_getElem (by omega)⟩
        have e2 : IntKind.i64.wrap ((i : Int) + 1) = ((i + 1 : Nat) : Int):=by rw [w64 (by omega) (by omega)]; omega
        have eh : ∀ i,m.heads.map (mapTo (fun h : Head => h.tie false) i) = some (mapTo (fun h => h.tie false) i m.heads.l):=fun i => by cases e : m.heads with
          | none => rw [e] at hh; simp [Sl.l] at hh
          | some l => rfl
        rw [eh] at hA
        obtain ⟨bh,cap,cs,a1,a2,a3,a4,a5,a6,a7,a8,a9,a10⟩:=head_cells hA (k:=i) (x:=h) (by rw [l_some]; exact mapTo_get hh)
        rw [l_some,mapTo_len] at a1
        obtain ⟨f2,d1,d2⟩:=a10 false
        subst a1
        have hle : i * 5 + 3 + 1 ≤ cs.length:=by omega
        have il : i < m.heads.l.length:=by omega
        simp -implicitDefEqProofs (maxDischargeDepth:=12) only [WW,List.replicate,Option.some_or,s_conv,e_conv,s_slc3,e_cut3,e_cut3n,e_bns,e_bnn,if_true,if_false,ite_true,ite_false,true_or,ne_eq,seval,beq_self_eq_true,eq_self,exists_eq_left,exists_eq_left',p0',p1',pq',c1,a2,hle,il,e2]
        refine ⟨k - 1,by omega,i + 1,f2,by omega,?_,fun c hc => hf c (d2 c hc),fun c hc => by rw [c_put_ne (fun h => hc (by rw [h]; exact hf bh a9)),hst c hc],ex_x rfl⟩
        rw [l_some,mapTo_set (f:=fun h : Head => h.tie false) hh] at d1
        rw [eh]; exact d1
      · have eA : m.heads.map (mapTo (fun h : Head => h.tie false) i) = m.heads.map (List.map fun h => h.tie false):=by cases e : m.heads with
          | none => rfl
          | some l => rw [e,l_some] at c1; simp only [Option.map_some,Option.some.injEq]; exact mapTo_all (by omega)
        rw [eA] at hA
        simp -implicitDefEqProofs (maxDischargeDepth:=12) only [WW,List.replicate,Option.some_or,s_conv,e_conv,s_slc3,e_cut3,e_cut3n,e_bns,e_bnn,e_splice,if_true,if_false,ite_true,ite_false,true_or,ne_eq,seval,h_putc,beq_self_eq_true,eq_self,exists_eq_left,exists_eq_left',c1,p0',p1',pq',m1o,m4,m5,n0,n1,n1q,b1,b2,x.enc_eq]
        rw [← x.enc_eq]
        refine wA_pure rfl (end_pv x) ?_
        simp -implicitDefEqProofs (maxDischargeDepth:=12) only [WW,List.replicate,Option.some_or,s_conv,e_conv,s_slc3,e_cut3,e_cut3n,e_bns,e_bnn,e_splice,if_true,if_false,ite_true,ite_false,true_or,ne_eq,seval,h_putc,beq_self_eq_true,eq_self,exists_eq_left,exists_eq_left',p0',p1',pq',m1o,m4,m5,n0,n1,n1q,b1,b2]
        refine frz_note (H0:=H') (x:=rr) (g:=f' ++ (fg ++ fl)) ?_ fun c hc => ?_
        · subst hr0
          have hs : ∀ c,c ∈ fg ++ fl→H'.cells c = H4.cells c:=fun c hc => hst c fun h => (List.mem_append.1 hc).elim (fun h2 => m6 c h h2) (fun h2 => m7 c h h2)
          exact ⟨hv,gv,lv,f',fg,fl,rfl,hA,m2.frame fun c hc => hs c (List.mem_append.2 (.inl hc)),m3.frame fun c hc => hs c (List.mem_append.2 (.inr hc)),m4,m5,fun c h1 h2 => m6 c (hf c h1) h2,fun c h1 h2 => m7 c (hf c h1) h2,m8,rfl⟩
        · have:=hgq3 c (mem3.2 ((mem3.1 hc).imp (hf c) id))
          rw [c_put_ne (by omega),c_put_ne this.2,c_put_ne this.2]
    · simp only [Note.cutTie] at hr0
      rw [if_neg b2,show min x.fin e = x.fin by omega] at hr0
      simp -implicitDefEqProofs (maxDischargeDepth:=12) only [WW,List.replicate,Option.some_or,s_conv,e_conv,s_slc3,e_cut3,e_cut3n,e_bns,e_bnn,e_splice,if_true,if_false,ite_true,ite_false,true_or,ne_eq,seval,h_putc,beq_self_eq_true,eq_self,exists_eq_left,exists_eq_left',p0,p1,pq,m1o,m4,m5,n0,n1,n1q,b1,b2,x.enc_eq]
      rw [← x.enc_eq]
      refine wA_pure rfl (end_pv x) ?_
      simp -implicitDefEqProofs (maxDischargeDepth:=12) only [WW,List.replicate,Option.some_or,s_conv,e_conv,s_slc3,e_cut3,e_cut3n,e_bns,e_bnn,e_splice,if_true,if_false,ite_true,ite_false,true_or,ne_eq,seval,h_putc,beq_self_eq_true,eq_self,exists_eq_left,exists_eq_left',p0,p1,pq,m1o,m4,m5,n0,n1,n1q,b1,b2]
      refine frz_note (H0:=H4) (x:=rr) (g:=fh ++ (fg ++ fl)) ?_ fun c hc => ?_
      · subst hr0
        exact ⟨hv,gv,lv,fh,fg,fl,rfl,m1,m2,m3,m4,m5,m6,m7,m8,rfl⟩
      · have:=hgq3 c hc
        rw [c_put_ne (by omega),c_put_ne this.2,c_put_ne this.2]
  · rw [if_neg b1] at hr0
    simp -implicitDefEqProofs (maxDischargeDepth:=12) only [WW,List.replicate,Option.some_or,s_conv,e_conv,s_slc3,e_cut3,e_cut3n,e_bns,e_bnn,e_splice,if_true,if_false,ite_true,ite_false,true_or,ne_eq,seval,h_putc,beq_self_eq_true,eq_self,exists_eq_left,exists_eq_left',p0,n0,b1]
    obtain ⟨m,hm⟩ : ∃ m,m = x:=⟨x,rfl⟩
    have hr4 : NoteQ H r m g:=by rw [hm]; exact hr'
    have hr0' : { x.cutTie m e with at_:=IntKind.i64.wrap (max x.at_ b - b),len:=IntKind.i64.wrap (min x.fin e - max x.at_ b) } = rr:=by rw [hm]; exact hr0
    have hml : m.heads.l.length < 1000000:=by rw [hm]; exact tx.heads
    clear hm hr' hr0
    have hr0:=hr0'
    rw [show max x.at_ b = x.at_ by omega] at hr0
    have hr5:=hr4
    obtain ⟨hv,gv,lv,fh,fg,fl,rfl,m1,m2,m3,m4,m5,m6,m7,m8,rfl⟩:=hr5
    have m1o:=m1.one.1
    have n1q : ¬ q = 1:=fun h => n1 h.symm
    simp only [intE] at pq
    try simp -implicitDefEqProofs (maxDischargeDepth:=12) only [WW,List.replicate,Option.some_or,s_conv,e_conv,s_slc3,e_cut3,e_cut3n,e_bns,e_bnn,e_splice,if_true,if_false,ite_true,ite_false,true_or,ne_eq,seval,h_putc,beq_self_eq_true,eq_self,exists_eq_left,exists_eq_left',p0]
    try rw [← x.enc_eq]
    refine wA_pure rfl (end_pv x) ?_
    by_cases b2 : e < x.fin
    · simp only [Note.cutTie] at hr0
      rw [if_pos b2,show min x.fin e = e by omega] at hr0
      have hl:=m1.length.1
      simp -implicitDefEqProofs (maxDischargeDepth:=12) only [WW,List.replicate,Option.some_or,s_conv,e_conv,s_slc3,e_cut3,e_cut3n,e_bns,e_bnn,e_splice,if_true,if_false,ite_true,ite_false,true_or,ne_eq,seval,h_putc,beq_self_eq_true,eq_self,exists_eq_left,exists_eq_left',p0,p1,pq,hl,n0,n1,n1q,b2]
      refine wp_loop (Inv:=fun k t H' => ∃ (i : Nat) (f' : List Nat),i + k = m.heads.l.length∧AccQ HeadQ 5 H' hv (m.heads.map (mapTo (fun h => h.tie false) i)) f'∧(∀ c ∈ f',c ∈ fh)∧(∀ c,c ∉ fh→H'.cells c = H.cells c) ∧
        ∃ y : Nat→AV,t = [x.enc,.sc (.int .i64 b),.sc (.int .i64 e),.ptr 0 0,y 4,y 5,.ptr 1 0,.ptr q 0,y 8,y 9,y 10,y 11,y 12,y 13,y 14,y 15,y 16,y 17,y 18,y 19,y 20,y 21,y 22,y 23,.sc (.int .i64 m.heads.l.length),.sc (.int .i64 i),y 26,y 27,y 28,y 29,y 30,y 31,y 32,y 33,y 34,y 35,y 36,y 37,y 38,y 39,y 40,y 41,y 42,y 43,y 44,y 45,y 46,y 47,y 48,y 49]) (k:=m.heads.l.length) ?_ ⟨0,fh,by omega,?_,fun _ h => h,fun _ _ => rfl,ex_x rfl⟩
      rotate_left
      · have : m.heads.map (mapTo (fun h : Head => h.tie false) 0) = m.heads:=by cases m.heads <;> simp [mapTo_zero]
        rw [this]; exact m1
      rintro k t H' ⟨i,f',hk,hA,hf,hst,y,rfl⟩
      have p0':=(hst 0 (fun h => by have:=hgq 0 (mem3.2 (.inl h)); omega)).trans p0
      have p1':=(hst 1 (fun h => by have:=hgq 1 (mem3.2 (.inl h)); omega)).trans p1
      have pq':=(hst q (fun h => (hgq q (mem3.2 (.inl h))).2 rfl)).trans pq
      by_cases c1 : (i : Int) < (m.heads.l.length : Int)
      · obtain ⟨h,hh⟩ : ∃ y,m.heads.l[i]? = some y:=⟨_,List.getElem?_eq_getElem (by omega)⟩
        have e2 : IntKind.i64.wrap ((i : Int) + 1) = ((i + 1 : Nat) : Int):=by rw [w64 (by omega) (by omega)]; omega
        have eh : ∀ i,m.heads.map (mapTo (fun h : Head => h.tie false) i) = some (mapTo (fun h => h.tie false) i m.heads.l):=fun i => by cases e : m.heads with
          | none => rw [e] at hh; simp [Sl.l] at hh
          | some l => rfl
        rw [eh] at hA
        obtain ⟨bh,cap,cs,a1,a2,a3,a4,a5,a6,a7,a8,a9,a10⟩:=head_cells hA (k:=i) (x:=h) (by rw [l_some]; exact mapTo_get hh)
        rw [l_some,mapTo_len] at a1
        obtain ⟨f2,d1,d2⟩:=a10 false
        subst a1
        have hle : i * 5 + 3 + 1 ≤ cs.length:=by omega
        have il : i < m.heads.l.length:=by omega
        simp -implicitDefEqProofs (maxDischargeDepth:=12) only [WW,List.replicate,Option.some_or,s_conv,e_conv,s_slc3,e_cut3,e_cut3n,e_bns,e_bnn,if_true,if_false,ite_true,ite_false,true_or,ne_eq,seval,beq_self_eq_true,eq_self,exists_eq_left,exists_eq_left',p0',p1',pq',c1,a2,hle,il,e2]
        refine ⟨k - 1,by omega,i + 1,f2,by omega,?_,fun c hc => hf c (d2 c hc),fun c hc => by rw [c_put_ne (fun h => hc (by rw [h]; exact hf bh a9)),hst c hc],ex_x rfl⟩
        rw [l_some,mapTo_set (f:=fun h : Head => h.tie false) hh] at d1
        rw [eh]; exact d1
      · have eA : m.heads.map (mapTo (fun h : Head => h.tie false) i) = m.heads.map (List.map fun h => h.tie false):=by cases e : m.heads with
          | none => rfl
          | some l => rw [e,l_some] at c1; simp only [Option.map_some,Option.some.injEq]; exact mapTo_all (by omega)
        rw [eA] at hA
        simp -implicitDefEqProofs (maxDischargeDepth:=12) only [WW,List.replicate,Option.some_or,s_conv,e_conv,s_slc3,e_cut3,e_cut3n,e_bns,e_bnn,e_splice,if_true,if_false,ite_true,ite_false,true_or,ne_eq,seval,h_putc,beq_self_eq_true,eq_self,exists_eq_left,exists_eq_left',c1,p0',p1',pq',m1o,m4,m5,n0,n1,n1q,b1,b2,x.enc_eq]
        rw [← x.enc_eq]
        refine wA_pure rfl (end_pv x) ?_
        simp -implicitDefEqProofs (maxDischargeDepth:=12) only [WW,List.replicate,Option.some_or,s_conv,e_conv,s_slc3,e_cut3,e_cut3n,e_bns,e_bnn,e_splice,if_true,if_false,ite_true,ite_false,true_or,ne_eq,seval,h_putc,beq_self_eq_true,eq_self,exists_eq_left,exists_eq_left',p0',p1',pq',m1o,m4,m5,n0,n1,n1q,b1,b2]
        refine frz_note (H0:=H') (x:=rr) (g:=f' ++ (fg ++ fl)) ?_ fun c hc => ?_
        · subst hr0
          have hs : ∀ c,c ∈ fg ++ fl→H'.cells c = H.cells c:=fun c hc => hst c fun h => (List.mem_append.1 hc).elim (fun h2 => m6 c h h2) (fun h2 => m7 c h h2)
          exact ⟨hv,gv,lv,f',fg,fl,rfl,hA,m2.frame fun c hc => hs c (List.mem_append.2 (.inl hc)),m3.frame fun c hc => hs c (List.mem_append.2 (.inr hc)),m4,m5,fun c h1 h2 => m6 c (hf c h1) h2,fun c h1 h2 => m7 c (hf c h1) h2,m8,rfl⟩
        · have:=hgq c (mem3.2 ((mem3.1 hc).imp (hf c) id))
          rw [c_put_ne (by omega),c_put_ne this.2,c_put_ne this.2]
    · simp only [Note.cutTie] at hr0
      rw [if_neg b2,show min x.fin e = x.fin by omega] at hr0
      simp -implicitDefEqProofs (maxDischargeDepth:=12) only [WW,List.replicate,Option.some_or,s_conv,e_conv,s_slc3,e_cut3,e_cut3n,e_bns,e_bnn,e_splice,if_true,if_false,ite_true,ite_false,true_or,ne_eq,seval,h_putc,beq_self_eq_true,eq_self,exists_eq_left,exists_eq_left',p0,p1,pq,m1o,m4,m5,n0,n1,n1q,b1,b2,x.enc_eq]
      rw [← x.enc_eq]
      refine wA_pure rfl (end_pv x) ?_
      simp -implicitDefEqProofs (maxDischargeDepth:=12) only [WW,List.replicate,Option.some_or,s_conv,e_conv,s_slc3,e_cut3,e_cut3n,e_bns,e_bnn,e_splice,if_true,if_false,ite_true,ite_false,true_or,ne_eq,seval,h_putc,beq_self_eq_true,eq_self,exists_eq_left,exists_eq_left',p0,p1,pq,m1o,m4,m5,n0,n1,n1q,b1,b2]
      refine frz_note (H0:=H) (x:=rr) (g:=fh ++ (fg ++ fl)) ?_ fun c hc => ?_
      · subst hr0
        exact ⟨hv,gv,lv,fh,fg,fl,rfl,m1,m2,m3,m4,m5,m6,m7,m8,rfl⟩
      · have:=hgq c hc
        rw [c_put_ne (by omega),c_put_ne this.2,c_put_ne this.2]
def cutB (n : Note) (b e : Int) : Bool:=decide (b < e) && (decide (n.at_ < e) && decide (b < n.fin))
def subL (l : List Note) (b e : Int) : List Note:=(l.filter fun n => cutB n b e).map fun n => limitP n b e
def subE (c : Clip) (b e : Int) : Int:=if checkE c ≠ 0 then checkE c else if b < 0 ∨ e < b ∨ c.len < e then 2 else 0
def subC (c : Clip) (b e : Int) : Clip:=if subE c b e = 0 then ⟨IntKind.i64.wrap (e - b),Sl.of (tidyP (subL c.notes.l b e))⟩ else noClip
theorem subL_take {l : List Note} {i : Nat} {x : Note} {b e : Int} (h : l[i]? = some x) : subL (l.take (i + 1)) b e = subL (l.take i) b e ++ if cutB x b e then [limitP x b e] else []:=by
  unfold subL
  rw [List.take_add_one,h,List.filter_append,List.map_append]
  congr 1
  cases q : cutB x b e <;> simp [List.filter,q]
theorem limitP_tame {x : Note} {b e : Int} (h : x.tame) : (limitP x b e).tame:=by
  have h1 : (x.part b).tame:=by unfold Note.part; split; exact Note.tame_bare h; exact h
  have h2 : (x.cutTie (x.part b) e).tame:=by
    unfold Note.cutTie
    split
    · refine ⟨?_,h1.graces,h1.lyrics,h1.text⟩
      have:=h1.heads
      show (Sl.l ((x.part b).heads.map _)).length < _
      cases q : (x.part b).heads with
      | none => show 0 < _; omega
      | some l => rw [q,l_some] at this; rw [Option.map_some,l_some,List.length_map]; exact this
    · exact h1
  exact ⟨h2.heads,h2.graces,h2.lyrics,h2.text⟩
theorem subL_tame {l : List Note} {b e : Int} (h : ∀ y ∈ l,y.tame) : ∀ y ∈ subL l b e,y.tame:=fun y hy => by
  unfold subL at hy
  obtain ⟨z,hz,rfl⟩:=List.mem_map.1 hy
  exact limitP_tame (h z (List.mem_filter.1 hz).1)
theorem subL_len {l : List Note} {b e : Int} : (subL l b e).length ≤ l.length:=by
  unfold subL; rw [List.length_map]; exact List.length_filter_le _ _
theorem sub_pv (c : Clip) (tc : c.tame) (b e : Int) : Pv prog polS 19 [c.enc,.sc (.int .i64 b),.sc (.int .i64 e)] (.tup [(subC c b e).enc,.sc (.int .i64 (subE c b e))]):=by
  refine Pv_of' ok19 (by simp only [AV.closedBs,Clip.enc_closed,AV.closedB,Bool.and_self]) ?_
  unfold subC
  generalize hr : subE c b e = r
  unfold subE at hr
  simp -implicitDefEqProofs (maxDischargeDepth:=12) only [wpF,cf19,WW,List.replicate,Option.some_or,s_conv,e_conv,s_slc3,e_cut3,e_cut3n,e_bns,e_bnn,e_splice,if_true,if_false,ite_true,ite_false,true_or,ne_eq,seval,h_putc,beq_self_eq_true,eq_self,exists_eq_left,exists_eq_left',c.enc_eq]
  rw [← c.enc_eq]
  refine wA_pure rfl (check_pv c tc) ?_
  by_cases h1 : checkE c = 0
  rotate_left
  · rw [if_pos h1] at hr; subst hr
    simp -implicitDefEqProofs (maxDischargeDepth:=12) only [WW,List.replicate,Option.some_or,s_conv,e_conv,s_slc3,e_cut3,e_cut3n,e_bns,e_bnn,e_splice,if_true,if_false,ite_true,ite_false,true_or,ne_eq,seval,h_putc,beq_self_eq_true,eq_self,exists_eq_left,exists_eq_left',h1]
    exact frz_err
  rw [if_neg (by simpa using h1)] at hr
  by_cases b1 : b < 0
  · rw [if_pos (by omega)] at hr; subst hr
    simp -implicitDefEqProofs (maxDischargeDepth:=12) only [WW,List.replicate,Option.some_or,s_conv,e_conv,s_slc3,e_cut3,e_cut3n,e_bns,e_bnn,e_splice,if_true,if_false,ite_true,ite_false,true_or,ne_eq,seval,h_putc,beq_self_eq_true,eq_self,exists_eq_left,exists_eq_left',eq_true h1,b1]
    exact frz_err
  by_cases b2 : e < b
  · rw [if_pos (by omega)] at hr; subst hr
    simp -implicitDefEqProofs (maxDischargeDepth:=12) only [WW,List.replicate,Option.some_or,s_conv,e_conv,s_slc3,e_cut3,e_cut3n,e_bns,e_bnn,e_splice,if_true,if_false,ite_true,ite_false,true_or,ne_eq,seval,h_putc,beq_self_eq_true,eq_self,exists_eq_left,exists_eq_left',eq_true h1,b1,b2]
    exact frz_err
  by_cases b3 : c.len < e
  · rw [if_pos (by omega)] at hr; subst hr
    simp -implicitDefEqProofs (maxDischargeDepth:=12) only [WW,List.replicate,Option.some_or,s_conv,e_conv,s_slc3,e_cut3,e_cut3n,e_bns,e_bnn,e_splice,if_true,if_false,ite_true,ite_false,true_or,ne_eq,seval,h_putc,beq_self_eq_true,eq_self,exists_eq_left,exists_eq_left',eq_true h1,b1,b2,b3,c.enc_eq]
    exact frz_err
  rw [if_neg (by omega)] at hr
  subst hr
  simp -implicitDefEqProofs (maxDischargeDepth:=12) only [WW,List.replicate,Option.some_or,s_conv,e_conv,s_slc3,e_cut3,e_cut3n,e_bns,e_bnn,e_splice,if_true,if_false,ite_true,ite_false,true_or,ne_eq,seval,h_putc,beq_self_eq_true,eq_self,exists_eq_left,exists_eq_left',eq_true h1,b1,b2,b3,c.enc_eq]
  refine wp_loop (Inv:=fun k t H => ∃ (i : Nat) (v : AV) (fp : List Nat),i + k = c.notes.l.length∧H.cells 0 = some c.enc.cells∧H.cells 1 = some [.sc (.int .i64 0),.sc .nils] ∧
    AccQ NoteC 8 H v (Sl.of (subL (c.notes.l.take i) b e)) fp∧(∀ b ∈ fp,2 ≤ b)∧2 ≤ H.next ∧
    ∃ y : Nat→AV,t = [c.enc,.sc (.int .i64 b),.sc (.int .i64 e),y 3,y 4,y 5,.ptr 1 0,.sc (.int .i64 0),y 8,v,y 10,y 11,y 12,y 13,y 14,y 15,y 16,y 17,y 18,y 19,y 20,y 21,y 22,y 23,y 24,y 25,y 26,y 27,y 28,y 29,y 30,y 31,y 32,slm Note.enc c.notes,.sc (.int .i64 c.notes.l.length),.sc (.int .i64 i),y 36,y 37,y 38,y 39,y 40,y 41,y 42,y 43,y 44,y 45,y 46,y 47,y 48,y 49,y 50,y 51,y 52,y 53,y 54,y 55,y 56,y 57,y 58,y 59,y 60,y 61,y 62,y 63,y 64,y 65,y 66,y 67]) (k:=c.notes.l.length) ?_
    ⟨0,_,[],by omega,?_,?_,accQ_none,by simp,?_,ex_x rfl⟩
  rotate_left
  · simp -implicitDefEqProofs (maxDischargeDepth:=12) only [WW,List.replicate,Option.some_or,s_conv,e_conv,s_slc3,e_cut3,e_cut3n,e_bns,e_bnn,e_splice,if_true,if_false,ite_true,ite_false,true_or,ne_eq,seval,h_putc,beq_self_eq_true,eq_self,exists_eq_left,exists_eq_left',c.enc_eq]
  · simp -implicitDefEqProofs (maxDischargeDepth:=12) only [WW,List.replicate,Option.some_or,s_conv,e_conv,s_slc3,e_cut3,e_cut3n,e_bns,e_bnn,e_splice,if_true,if_false,ite_true,ite_false,true_or,ne_eq,seval,h_putc,beq_self_eq_true,eq_self,exists_eq_left,exists_eq_left']
  · simp only [AHeap.next_put,AHeap.next_alloc]; decide
  rintro k t H ⟨i,v,fp,hk,p0,p1,hA,hfp,hN,y,rfl⟩
  by_cases c1 : (i : Int) < (c.notes.l.length : Int)
  rotate_left
  · rw [List.take_of_length_le (by omega)] at hA
    have hvo:=hA.one
    obtain ⟨f,o1,o2⟩:=hA.own noteC
    simp -implicitDefEqProofs (maxDischargeDepth:=12) only [WW,List.replicate,Option.some_or,s_conv,e_conv,s_slc3,e_cut3,e_cut3n,e_bns,e_bnn,e_splice,if_true,if_false,ite_true,ite_false,true_or,ne_eq,seval,h_putc,beq_self_eq_true,eq_self,exists_eq_left,exists_eq_left',c1,p0,p1,hvo.1,hvo.2]
    refine wA_ownA rfl (.cons (o1.mono (by decide)) .nil Apart.nil_right) (tidy_pv (Sl.of (subL c.notes.l b e)) (by rw [l_of]; have:=subL_len (l:=c.notes.l) (b:=b) (e:=e); have:=tc.1; omega) (by rw [l_of]; exact subL_tame tc.2)) ?_
    intro H1 hL
    have q1:=(cells_of_get (hL 1 (fun h => by have:=hfp 1 (o2 1 (by simpa using h)); omega))).trans p1
    rw [l_of]
    simp -implicitDefEqProofs (maxDischargeDepth:=12) only [WW,List.replicate,Option.some_or,s_conv,e_conv,s_slc3,e_cut3,e_cut3n,e_bns,e_bnn,e_splice,if_true,if_false,ite_true,ite_false,true_or,ne_eq,seval,h_putc,beq_self_eq_true,eq_self,exists_eq_left,exists_eq_left',q1]
    exact frz_clip (c:=⟨_,_⟩) (f:=[]) (own_imm Note.enc_closed)
  obtain ⟨x,hx⟩ : ∃ x,c.notes.l[i]? = some x:=⟨_,List.getElem?_eq_getElem (by omega)⟩
  have e2 : IntKind.i64.wrap ((i : Int) + 1) = ((i + 1 : Nat) : Int):=by rw [w64 (by omega) (by have:=tc.1; omega)]; omega
  have tx:=tc.2 x (List.mem_of_getElem? hx)
  have hlt:=hA.lt noteC
  have es:=subL_take (b:=b) (e:=e) hx
  unfold cutB at es
  by_cases d1 : b < e
  rotate_left
  · rw [decide_eq_false d1,Bool.false_and,if_neg (by simp),List.append_nil] at es
    simp -implicitDefEqProofs (maxDischargeDepth:=12) only [WW,List.replicate,Option.some_or,s_conv,e_conv,s_slc3,e_cut3,e_cut3n,e_bns,e_bnn,if_true,if_false,ite_true,ite_false,true_or,ne_eq,seval,beq_self_eq_true,eq_self,exists_eq_left,exists_eq_left',c1,hx,x.enc_eq,d1,e2]
    generalize hH1 : AHeap.put _ H.next _ = H1
    have n1 : H1.next = H.next + 1:=by subst hH1; simp only [AHeap.next_put,AHeap.next_alloc]
    have k1 : ∀ b,b < H.next→H1.cells b = H.cells b:=fun b hb => by subst hH1; rw [c_put_ne (by omega),c_alloc_ne (by omega)]
    have cq1:=congrArg (fun h => AHeap.cells h H.next) hH1
    simp -implicitDefEqProofs (maxDischargeDepth:=12) only [WW,List.replicate,Option.some_or,s_conv,e_conv,s_slc3,e_cut3,e_cut3n,e_bns,e_bnn,e_splice,if_true,if_false,ite_true,ite_false,true_or,ne_eq,seval,h_putc,beq_self_eq_true,eq_self,exists_eq_left,exists_eq_left'] at cq1
    replace cq1:=cq1.symm
    clear hH1
    refine ⟨k - 1,by omega,i + 1,v,fp,by omega,?_,?_,?_,?_,by omega,ex_x rfl⟩
    · rw [k1 0 (by omega)]; exact p0
    · rw [k1 1 (by omega)]; exact p1
    · rw [es]; exact hA.fr noteC fun b hb => k1 b (hlt b hb)
    · exact hfp
  by_cases d2 : x.at_ < e
  rotate_left
  · rw [decide_eq_false d2,Bool.false_and,Bool.and_false,if_neg (by simp),List.append_nil] at es
    simp -implicitDefEqProofs (maxDischargeDepth:=12) only [WW,List.replicate,Option.some_or,s_conv,e_conv,s_slc3,e_cut3,e_cut3n,e_bns,e_bnn,if_true,if_false,ite_true,ite_false,true_or,ne_eq,seval,beq_self_eq_true,eq_self,exists_eq_left,exists_eq_left',c1,hx,x.enc_eq,d1]
    generalize hH1 : AHeap.put _ H.next _ = H1
    have n1 : H1.next = H.next + 1:=by subst hH1; simp only [AHeap.next_put,AHeap.next_alloc]
    have k1 : ∀ b,b < H.next→H1.cells b = H.cells b:=fun b hb => by subst hH1; rw [c_put_ne (by omega),c_alloc_ne (by omega)]
    have cq1:=congrArg (fun h => AHeap.cells h H.next) hH1
    simp -implicitDefEqProofs (maxDischargeDepth:=12) only [WW,List.replicate,Option.some_or,s_conv,e_conv,s_slc3,e_cut3,e_cut3n,e_bns,e_bnn,e_splice,if_true,if_false,ite_true,ite_false,true_or,ne_eq,seval,h_putc,beq_self_eq_true,eq_self,exists_eq_left,exists_eq_left'] at cq1
    replace cq1:=cq1.symm
    clear hH1
    simp -implicitDefEqProofs (maxDischargeDepth:=12) only [WW,List.replicate,Option.some_or,s_conv,e_conv,s_slc3,e_cut3,e_cut3n,e_bns,e_bnn,e_splice,if_true,if_false,ite_true,ite_false,true_or,ne_eq,seval,h_putc,beq_self_eq_true,eq_self,exists_eq_left,exists_eq_left',cq1,d2,e2]
    refine ⟨k - 1,by omega,i + 1,v,fp,by omega,?_,?_,?_,?_,by omega,ex_x rfl⟩
    · rw [k1 0 (by omega)]; exact p0
    · rw [k1 1 (by omega)]; exact p1
    · rw [es]; exact hA.fr noteC fun b hb => k1 b (hlt b hb)
    · exact hfp
  simp -implicitDefEqProofs (maxDischargeDepth:=12) only [WW,List.replicate,Option.some_or,s_conv,e_conv,s_slc3,e_cut3,e_cut3n,e_bns,e_bnn,if_true,if_false,ite_true,ite_false,true_or,ne_eq,seval,beq_self_eq_true,eq_self,exists_eq_left,exists_eq_left',c1,hx,x.enc_eq,d1]
  generalize hH1 : AHeap.put _ H.next _ = H1
  have n1 : H1.next = H.next + 1:=by subst hH1; simp only [AHeap.next_put,AHeap.next_alloc]
  have k1 : ∀ b,b < H.next→H1.cells b = H.cells b:=fun b hb => by subst hH1; rw [c_put_ne (by omega),c_alloc_ne (by omega)]
  have cq1:=congrArg (fun h => AHeap.cells h H.next) hH1
  simp -implicitDefEqProofs (maxDischargeDepth:=12) only [WW,List.replicate,Option.some_or,s_conv,e_conv,s_slc3,e_cut3,e_cut3n,e_bns,e_bnn,e_splice,if_true,if_false,ite_true,ite_false,true_or,ne_eq,seval,h_putc,beq_self_eq_true,eq_self,exists_eq_left,exists_eq_left'] at cq1
  replace cq1:=cq1.symm
  clear hH1
  simp -implicitDefEqProofs (maxDischargeDepth:=12) only [WW,List.replicate,Option.some_or,s_conv,e_conv,s_slc3,e_cut3,e_cut3n,e_bns,e_bnn,e_splice,if_true,if_false,ite_true,ite_false,true_or,ne_eq,seval,h_putc,beq_self_eq_true,eq_self,exists_eq_left,exists_eq_left',cq1,d2]
  rw [← x.enc_eq]
  refine wA_pure rfl (end_pv x) ?_
  by_cases d3 : b < x.fin
  rotate_left
  · rw [decide_eq_false d3,Bool.and_false,Bool.and_false,if_neg (by simp),List.append_nil] at es
    simp -implicitDefEqProofs (maxDischargeDepth:=12) only [WW,List.replicate,Option.some_or,s_conv,e_conv,s_slc3,e_cut3,e_cut3n,e_bns,e_bnn,e_splice,if_true,if_false,ite_true,ite_false,true_or,ne_eq,seval,h_putc,beq_self_eq_true,eq_self,exists_eq_left,exists_eq_left',cq1,d3,e2]
    refine ⟨k - 1,by omega,i + 1,v,fp,by omega,?_,?_,?_,?_,by omega,ex_x rfl⟩
    · rw [k1 0 (by omega)]; exact p0
    · rw [k1 1 (by omega)]; exact p1
    · rw [es]; exact hA.fr noteC fun b hb => k1 b (hlt b hb)
    · exact hfp
  rw [decide_eq_true d1,decide_eq_true d2,decide_eq_true d3,Bool.and_self,Bool.and_self,if_pos rfl] at es
  simp -implicitDefEqProofs (maxDischargeDepth:=12) only [WW,List.replicate,Option.some_or,s_conv,e_conv,s_slc3,e_cut3,e_cut3n,e_bns,e_bnn,e_splice,if_true,if_false,ite_true,ite_false,true_or,ne_eq,seval,h_putc,beq_self_eq_true,eq_self,exists_eq_left,exists_eq_left',cq1,d3]
  rw [← x.enc_eq]
  refine wA_pure rfl (limit_pv x tx b e) ?_
  generalize limitP x b e = m at es
  simp -implicitDefEqProofs (maxDischargeDepth:=12) only [WW,List.replicate,Option.some_or,s_conv,e_conv,s_slc3,e_cut3,e_cut3n,e_bns,e_bnn,e_splice,if_true,if_false,ite_true,ite_false,true_or,ne_eq,seval,h_putc,beq_self_eq_true,eq_self,exists_eq_left,exists_eq_left',m.enc_eq]
  have kk : ∀ z b,b < H.next→(H1.alloc z).cells b = H.cells b:=fun z b hb => by rw [c_alloc_ne (by omega),k1 b hb]
  refine wA_appQ noteC (H0:=H) hA (y:=m) (r:=m.enc.cells) (g:=[]) (fun b hb => kk _ b (hlt b hb)) rfl (asrc_one (by simp -implicitDefEqProofs (maxDischargeDepth:=12) only [WW,List.replicate,Option.some_or,s_conv,e_conv,s_slc3,e_cut3,e_cut3n,e_bns,e_bnn,e_splice,if_true,if_false,ite_true,ite_false,true_or,ne_eq,seval,h_putc,beq_self_eq_true,eq_self,exists_eq_left,exists_eq_left']; rfl) rfl) ⟨rfl,rfl⟩ Apart.nil_right (by rw [l_of]; have h1:=subL_len (l:=c.notes.l.take i) (b:=b) (e:=e); rw [List.length_take] at h1; have:=tc.1; omega) ?_
  intro v' H8 fp' q1 q2 q3 q4 q5 q6
  simp only [AHeap.next_alloc] at q2
  have z8 : ∀ b,b < 2→H8.cells b = H.cells b:=fun b hb => by rw [q3 b (fun h => by have:=hfp b h; omega) (by rw [AHeap.next_alloc]; omega),kk _ b (by omega)]
  simp -implicitDefEqProofs (maxDischargeDepth:=12) only [WW,List.replicate,Option.some_or,s_conv,e_conv,s_slc3,e_cut3,e_cut3n,e_bns,e_bnn,e_splice,if_true,if_false,ite_true,ite_false,true_or,ne_eq,seval,h_putc,beq_self_eq_true,eq_self,exists_eq_left,exists_eq_left',q5,q6,e2]
  refine ⟨k - 1,by omega,i + 1,v',fp',by omega,by rw [z8 0 (by decide)]; exact p0,by rw [z8 1 (by decide)]; exact p1,?_,fun b hb => ?_,by omega,ex_x rfl⟩
  · rw [es,of_cons (by simp)]
    rw [l_of] at q1; exact q1
  · rcases q4 b hb with h | h | h
    · exact hfp b h
    · simp at h
    · rw [AHeap.next_alloc] at h; omega
end
end Go.Hem
namespace Go.Hem
noncomputable section
end
end Go.Hem
namespace Go.Hem
noncomputable section
theorem firstE_zero : ∀ {l : List Int},firstE l = 0→∀ e ∈ l,e = 0
  | [],_,e,h => by simp at h
  | a :: l,k,e,h => by
    simp only [firstE] at k
    by_cases c : a = 0
    · rw [if_pos c] at k
      rcases List.mem_cons.1 h with rfl | h
      · exact c
      · exact firstE_zero k e h
    · rw [if_neg c] at k; exact absurd k c
theorem chordE_parts {x : Note} (h : chordE x = 0) : headsE x.heads.l = 0∧gracesE x.graces.l = 0∧lyricsE x.lyrics.l = 0:=by
  unfold chordE at h
  by_cases c : firstE [headsE x.heads.l,gracesE x.graces.l,lyricsE x.lyrics.l] = 0
  · have:=firstE_zero c
    exact ⟨this _ (by simp),this _ (by simp),this _ (by simp)⟩
  · rw [if_pos c] at h; exact absurd h c
theorem cutB_iff {n : Note} {b e : Int} : cutB n b e = true ↔ b < e∧n.at_ < e∧b < n.fin:=by
  unfold cutB; simp only [Bool.and_eq_true,decide_eq_true_eq]
theorem subC_tame {c : Clip} (tc : c.tame) {b e : Int} : (subC c b e).tame:=by
  unfold subC
  split
  · have:=tidyP_tame (subL_tame (b:=b) (e:=e) tc.2)
    refine ⟨?_,?_⟩
    · rw [l_of]; have h1:=this.2; have h2:=subL_len (l:=c.notes.l) (b:=b) (e:=e); have:=tc.1; omega
    · rw [l_of]; exact this.1
  · exact noClip_tame
end
end Go.Hem
namespace Go.Hem
noncomputable section
def exC (n : Nat) (Ex : List AV→AHeap→Prop) (Q : Post) : Post:=fun e t H => match e with
  | .exit m => m = n∧Ex t H
  | .ret => Q .ret t H
  | .normal => Q .normal t H
theorem exC_exit {n m : Nat} {Ex : List AV→AHeap→Prop} {Q : Post} {t : List AV} {H : AHeap} : exC n Ex Q (.exit m) t H = (m = n∧Ex t H):=rfl
theorem exC_ret {n : Nat} {Ex : List AV→AHeap→Prop} {Q : Post} {t : List AV} {H : AHeap} : exC n Ex Q .ret t H = Q .ret t H:=rfl
theorem wp_loopZ {P : Program} {pol : Pol} {b : CC} {Q : Post} (n : Nat) (Inv : Nat→List AV→AHeap→Prop) (Ex : List AV→AHeap→Prop)
    (step : ∀ k t H,Inv k t H→wpC P pol b t H (thenC (exC n Ex Q) fun t' H' => ∃ k',k' < k∧Inv k' t' H')) (hex : ∀ t H,Ex t H→Q (.exit n) t H) {k : Nat} {t : List AV} {H : AHeap} (h : Inv k t H) : wpC P pol (.loop b) t H Q:=by
  refine wp_loop Inv (fun k t H hi => wpC_mono (fun e t' H' q => ?_) (step k t H hi)) h
  cases e with
  | normal => exact q
  | exit id => obtain ⟨e1,e2⟩:=q; cases e1; exact hex _ _ e2
  | ret => exact q
def Note.shift (d : Int) (n : Note) : Note:={ n with at_:=IntKind.i64.wrap (n.at_ + d) }
def joinE (a b : Clip) : Int:=if checkE a ≠ 0 then checkE a else if checkE b ≠ 0 then checkE b else if 123863040 < IntKind.i64.wrap (a.len + b.len) then 5 else 0
def joinL (a b : Clip) : List Note:=a.notes.l ++ b.notes.l.map (Note.shift a.len)
def joinC (a b : Clip) : Clip:=if joinE a b = 0 then ⟨IntKind.i64.wrap (a.len + b.len),Sl.of (joinL a b)⟩ else noClip
theorem join_pv (a b : Clip) (ta : a.tame) (tb : b.tame) (hs : a.notes.l.length + b.notes.l.length ≤ 4096) : Pv prog polS 21 [a.enc,b.enc] (.tup [(joinC a b).enc,.sc (.int .i64 (joinE a b))]):=by
  refine Pv_of' ok21 (by simp only [AV.closedBs,Clip.enc_closed,AV.closedB,Bool.and_self]) ?_
  unfold joinC
  generalize hr : joinE a b = r
  unfold joinE at hr
  simp -implicitDefEqProofs (maxDischargeDepth:=12) only [wpF,cf21,WW,List.replicate,Option.some_or,s_conv,e_conv,s_slc3,e_cut3,e_cut3n,e_bns,e_bnn,e_splice,if_true,if_false,ite_true,ite_false,true_or,ne_eq,seval,h_putc,beq_self_eq_true,eq_self,exists_eq_left,exists_eq_left',a.enc_eq,b.enc_eq]
  refine wp_loopZ 0 (Inv:=fun k t H => ∃ (i : Nat),i + k = 2∧(1 ≤ i→checkE a = 0)∧(2 ≤ i→checkE b = 0)∧H.cells 0 = some a.enc.cells∧H.cells 1 = some b.enc.cells∧H.cells 2 = some [.sc (.int .i64 0),.sc .nils] ∧
      H.cells 3 = some (a.enc.cells ++ b.enc.cells)∧4 ≤ H.next∧∃ y : Nat→AV,t = [a.enc,b.enc,.ptr 0 0,.ptr 1 0,.ptr 2 0,.sc (.int .i64 0),y 6,y 7,y 8,y 9,y 10,y 11,y 12,y 13,y 14,y 15,.slice 3 0 2 2 2,.sc (.int .i64 2),.sc (.int .i64 i),y 19,y 20,y 21,y 22,y 23,y 24,y 25,y 26,y 27,y 28,y 29,y 30,y 31,y 32,y 33,y 34,y 35,y 36,y 37,y 38,y 39,y 40,y 41,y 42,y 43,y 44,y 45,y 46,y 47,y 48,y 49,y 50,y 51,y 52,y 53,y 54,y 55,y 56,y 57,y 58,y 59,y 60,y 61,y 62,y 63,y 64,y 65,y 66,y 67,y 68,y 69,y 70,y 71,y 72,y 73,y 74,y 75,y 76,y 77,y 78,y 79,y 80,y 81,y 82,y 83,y 84,y 85,y 86,y 87,y 88])
    (Ex:=fun t H => checkE a = 0∧checkE b = 0∧H.cells 0 = some a.enc.cells∧H.cells 1 = some b.enc.cells∧H.cells 2 = some [.sc (.int .i64 0),.sc .nils]∧4 ≤ H.next ∧
      ∃ y : Nat→AV,t = [a.enc,b.enc,.ptr 0 0,.ptr 1 0,.ptr 2 0,.sc (.int .i64 0),y 6,y 7,y 8,y 9,y 10,y 11,y 12,y 13,y 14,y 15,y 16,y 17,y 18,y 19,y 20,y 21,y 22,y 23,y 24,y 25,y 26,y 27,y 28,y 29,y 30,y 31,y 32,y 33,y 34,y 35,y 36,y 37,y 38,y 39,y 40,y 41,y 42,y 43,y 44,y 45,y 46,y 47,y 48,y 49,y 50,y 51,y 52,y 53,y 54,y 55,y 56,y 57,y 58,y 59,y 60,y 61,y 62,y 63,y 64,y 65,y 66,y 67,y 68,y 69,y 70,y 71,y 72,y 73,y 74,y 75,y 76,y 77,y 78,y 79,y 80,y 81,y 82,y 83,y 84,y 85,y 86,y 87,y 88]) (k:=2) ?_ ?_ ⟨0,by omega,by omega,by omega,?_,?_,?_,?_,?_,ex_x rfl⟩
  · rintro k t H ⟨i,hk,i1,i2,p0,p1,p2,p3,hN,y,rfl⟩
    simp only [a.enc_eq,b.enc_eq,c_agg,List.cons_append,List.nil_append] at p0 p1 p3
    have hi : i = 0 ∨ i = 1 ∨ i = 2:=by omega
    rcases hi with rfl | rfl | rfl
    · simp -implicitDefEqProofs (maxDischargeDepth:=12) only [WW,List.replicate,Option.some_or,s_conv,e_conv,s_slc3,e_cut3,e_cut3n,e_bns,e_bnn,if_true,if_false,ite_true,ite_false,true_or,ne_eq,seval,beq_self_eq_true,eq_self,exists_eq_left,exists_eq_left',p3,Int.ofNat_zero,Int.ofNat_one]
      generalize hH1 : AHeap.put _ H.next _ = H1
      have n1 : H1.next = H.next + 1:=by subst hH1; simp only [AHeap.next_put,AHeap.next_alloc]
      have k1 : ∀ b,b < H.next→H1.cells b = H.cells b:=fun b hb => by subst hH1; rw [c_put_ne (by omega),c_alloc_ne (by omega)]
      have cq1:=congrArg (fun h => AHeap.cells h H.next) hH1
      simp -implicitDefEqProofs (maxDischargeDepth:=12) only [WW,List.replicate,Option.some_or,s_conv,e_conv,s_slc3,e_cut3,e_cut3n,e_bns,e_bnn,e_splice,if_true,if_false,ite_true,ite_false,true_or,ne_eq,seval,h_putc,beq_self_eq_true,eq_self,exists_eq_left,exists_eq_left'] at cq1
      replace cq1:=cq1.symm
      clear hH1
      simp -implicitDefEqProofs (maxDischargeDepth:=12) only [WW,List.replicate,Option.some_or,s_conv,e_conv,s_slc3,e_cut3,e_cut3n,e_bns,e_bnn,e_splice,if_true,if_false,ite_true,ite_false,true_or,ne_eq,seval,h_putc,beq_self_eq_true,eq_self,exists_eq_left,exists_eq_left',cq1]
      rw [← a.enc_eq]
      refine wA_pure rfl (check_pv a ta) ?_
      by_cases h1 : checkE a = 0
      rotate_left
      · have hr2 : checkE a = r:=by rw [← hr]; rw [if_pos h1]
        subst hr2
        have z2:=(k1 2 (by omega)).trans p2
        simp -implicitDefEqProofs (maxDischargeDepth:=12) only [WW,List.replicate,Option.some_or,s_conv,e_conv,s_slc3,e_cut3,e_cut3n,e_bns,e_bnn,e_splice,if_true,if_false,ite_true,ite_false,true_or,ne_eq,seval,h_putc,beq_self_eq_true,eq_self,exists_eq_left,exists_eq_left',h1,z2,exC_ret]
        exact frz_err
      have e2 : IntKind.i64.wrap ((0 : Int) + 1) = 0 + 1:=by decide
      simp -implicitDefEqProofs (maxDischargeDepth:=12) only [WW,List.replicate,Option.some_or,s_conv,e_conv,s_slc3,e_cut3,e_cut3n,e_bns,e_bnn,e_splice,if_true,if_false,ite_true,ite_false,true_or,ne_eq,seval,h_putc,beq_self_eq_true,eq_self,exists_eq_left,exists_eq_left',eq_true h1,e2]
      exact ⟨k - 1,by omega,1,by omega,fun _ => trivial,by omega,(k1 0 (by omega)).trans p0,(k1 1 (by omega)).trans p1,(k1 2 (by omega)).trans p2,(k1 3 (by omega)).trans p3,by omega,ex_x rfl⟩
    · have h0:=i1 (by omega)
      simp -implicitDefEqProofs (maxDischargeDepth:=12) only [WW,List.replicate,Option.some_or,s_conv,e_conv,s_slc3,e_cut3,e_cut3n,e_bns,e_bnn,if_true,if_false,ite_true,ite_false,true_or,ne_eq,seval,beq_self_eq_true,eq_self,exists_eq_left,exists_eq_left',p3,Int.ofNat_zero,Int.ofNat_one]
      generalize hH1 : AHeap.put _ H.next _ = H1
      have n1 : H1.next = H.next + 1:=by subst hH1; simp only [AHeap.next_put,AHeap.next_alloc]
      have k1 : ∀ b,b < H.next→H1.cells b = H.cells b:=fun b hb => by subst hH1; rw [c_put_ne (by omega),c_alloc_ne (by omega)]
      have cq1:=congrArg (fun h => AHeap.cells h H.next) hH1
      simp -implicitDefEqProofs (maxDischargeDepth:=12) only [WW,List.replicate,Option.some_or,s_conv,e_conv,s_slc3,e_cut3,e_cut3n,e_bns,e_bnn,e_splice,if_true,if_false,ite_true,ite_false,true_or,ne_eq,seval,h_putc,beq_self_eq_true,eq_self,exists_eq_left,exists_eq_left'] at cq1
      replace cq1:=cq1.symm
      clear hH1
      simp -implicitDefEqProofs (maxDischargeDepth:=12) only [WW,List.replicate,Option.some_or,s_conv,e_conv,s_slc3,e_cut3,e_cut3n,e_bns,e_bnn,e_splice,if_true,if_false,ite_true,ite_false,true_or,ne_eq,seval,h_putc,beq_self_eq_true,eq_self,exists_eq_left,exists_eq_left',cq1]
      rw [← b.enc_eq]
      refine wA_pure rfl (check_pv b tb) ?_
      by_cases h1 : checkE b = 0
      rotate_left
      · have hr2 : checkE b = r:=by rw [← hr]; rw [if_neg (by simpa using h0),if_pos h1]
        subst hr2
        have z2:=(k1 2 (by omega)).trans p2
        simp -implicitDefEqProofs (maxDischargeDepth:=12) only [WW,List.replicate,Option.some_or,s_conv,e_conv,s_slc3,e_cut3,e_cut3n,e_bns,e_bnn,e_splice,if_true,if_false,ite_true,ite_false,true_or,ne_eq,seval,h_putc,beq_self_eq_true,eq_self,exists_eq_left,exists_eq_left',h1,z2,exC_ret]
        exact frz_err
      have e2 : IntKind.i64.wrap ((1 : Int) + 1) = 1 + 1:=by decide
      simp -implicitDefEqProofs (maxDischargeDepth:=12) only [WW,List.replicate,Option.some_or,s_conv,e_conv,s_slc3,e_cut3,e_cut3n,e_bns,e_bnn,e_splice,if_true,if_false,ite_true,ite_false,true_or,ne_eq,seval,h_putc,beq_self_eq_true,eq_self,exists_eq_left,exists_eq_left',eq_true h1,e2]
      exact ⟨k - 1,by omega,2,by omega,fun _ => h0,fun _ => trivial,(k1 0 (by omega)).trans p0,(k1 1 (by omega)).trans p1,(k1 2 (by omega)).trans p2,(k1 3 (by omega)).trans p3,by omega,ex_x rfl⟩
    · simp -implicitDefEqProofs (maxDischargeDepth:=12) only [WW,List.replicate,Option.some_or,s_conv,e_conv,s_slc3,e_cut3,e_cut3n,e_bns,e_bnn,if_true,if_false,ite_true,ite_false,true_or,ne_eq,seval,beq_self_eq_true,eq_self,exists_eq_left,exists_eq_left',p3,exC_exit]
      exact ⟨i1 (by omega),i2 (by omega),p0,p1,p2,hN,ex_x rfl⟩
  · rintro t H ⟨h1,h2,p0,p1,p2,hN,y,rfl⟩
    simp only [a.enc_eq,b.enc_eq,c_agg] at p0 p1
    rw [if_neg (by simpa using h1),if_neg (by simpa using h2)] at hr
    by_cases h3 : 123863040 < IntKind.i64.wrap (a.len + b.len)
    · rw [if_pos h3] at hr; subst hr
      simp -implicitDefEqProofs (maxDischargeDepth:=12) only [WW,List.replicate,Option.some_or,s_conv,e_conv,s_slc3,e_cut3,e_cut3n,e_bns,e_bnn,e_splice,if_true,if_false,ite_true,ite_false,true_or,ne_eq,seval,h_putc,beq_self_eq_true,eq_self,exists_eq_left,exists_eq_left',p0,p1,p2,h3]
      exact frz_err
    rw [if_neg h3] at hr; subst hr
    have el : IntKind.i64.wrap ((a.notes.l.length : Int) + (b.notes.l.length : Int)) = ((a.notes.l.length + b.notes.l.length : Nat) : Int):=by rw [w64 (by omega) (by omega)]; omega
    have h4 : ¬ (4096 : Int) < ((a.notes.l.length + b.notes.l.length : Nat) : Int):=by omega
    simp -implicitDefEqProofs (maxDischargeDepth:=12) only [WW,List.replicate,Option.some_or,s_conv,e_conv,s_slc3,e_cut3,e_cut3n,e_bns,e_bnn,e_splice,if_true,if_false,ite_true,ite_false,true_or,ne_eq,seval,h_putc,beq_self_eq_true,eq_self,exists_eq_left,exists_eq_left',p0,p1,p2,h3,el,h4]
    generalize hs' : H.next = s at hN
    generalize hHb : AHeap.put _ s _ = Hb
    have nb : Hb.next = s + 1:=by subst hHb; simp only [AHeap.next_put,AHeap.next_alloc,hs']
    have kb : ∀ b,b < s→Hb.cells b = H.cells b:=fun b hb => by subst hHb; rw [c_put_ne (by omega),c_alloc_ne (by omega)]
    have cs:=congrArg (fun h => AHeap.cells h s) hHb
    simp -implicitDefEqProofs (maxDischargeDepth:=12) only [WW,List.replicate,Option.some_or,s_conv,e_conv,s_slc3,e_cut3,e_cut3n,e_bns,e_bnn,e_splice,if_true,if_false,ite_true,ite_false,true_or,ne_eq,seval,h_putc,beq_self_eq_true,eq_self,exists_eq_left,exists_eq_left',hs'] at cs
    replace cs:=cs.symm
    clear hHb
    have z0 : ¬ 0 = s:=by omega
    simp -implicitDefEqProofs (maxDischargeDepth:=12) only [WW,List.replicate,Option.some_or,s_conv,e_conv,s_slc3,e_cut3,e_cut3n,e_bns,e_bnn,e_splice,if_true,if_false,ite_true,ite_false,true_or,ne_eq,seval,h_putc,beq_self_eq_true,eq_self,exists_eq_left,exists_eq_left',z0]
    refine wp_loopY 2 (Inv:=fun k t H => ∃ (i : Nat) (v : AV) (fp : List Nat),i + k = a.notes.l.length∧H.cells 0 = some a.enc.cells∧H.cells 1 = some b.enc.cells∧H.cells 2 = some [.sc (.int .i64 0),.sc .nils]∧H.cells s = some [.sc (.int .i64 (IntKind.i64.wrap (a.len + b.len))),v] ∧
        AccQ NoteQ 8 H v (Sl.of (a.notes.l.take i)) fp∧(∀ b ∈ fp,s + 1 ≤ b)∧s + 1 ≤ H.next ∧
        ∃ y : Nat→AV,t = [a.enc,b.enc,.ptr 0 0,.ptr 1 0,.ptr 2 0,.sc (.int .i64 0),y 6,y 7,y 8,.ptr s 0,y 10,y 11,y 12,y 13,y 14,y 15,y 16,y 17,y 18,y 19,y 20,y 21,y 22,y 23,y 24,y 25,y 26,y 27,y 28,y 29,y 30,y 31,y 32,y 33,y 34,y 35,y 36,y 37,y 38,y 39,y 40,y 41,y 42,y 43,y 44,y 45,y 46,y 47,y 48,y 49,y 50,y 51,slm Note.enc a.notes,.sc (.int .i64 a.notes.l.length),.sc (.int .i64 i),y 55,y 56,y 57,y 58,y 59,y 60,y 61,y 62,y 63,y 64,y 65,y 66,y 67,y 68,y 69,y 70,y 71,y 72,y 73,y 74,y 75,y 76,y 77,y 78,y 79,y 80,y 81,y 82,y 83,y 84,y 85,y 86,y 87,y 88])
      (Ex:=fun t H => ∃ (v : AV) (fp : List Nat),H.cells 0 = some a.enc.cells∧H.cells 1 = some b.enc.cells∧H.cells 2 = some [.sc (.int .i64 0),.sc .nils]∧H.cells s = some [.sc (.int .i64 (IntKind.i64.wrap (a.len + b.len))),v] ∧
        AccQ NoteQ 8 H v (Sl.of a.notes.l) fp∧(∀ b ∈ fp,s + 1 ≤ b)∧s + 1 ≤ H.next ∧
        ∃ y : Nat→AV,t = [a.enc,b.enc,.ptr 0 0,.ptr 1 0,.ptr 2 0,.sc (.int .i64 0),y 6,y 7,y 8,.ptr s 0,y 10,y 11,y 12,y 13,y 14,y 15,y 16,y 17,y 18,y 19,y 20,y 21,y 22,y 23,y 24,y 25,y 26,y 27,y 28,y 29,y 30,y 31,y 32,y 33,y 34,y 35,y 36,y 37,y 38,y 39,y 40,y 41,y 42,y 43,y 44,y 45,y 46,y 47,y 48,y 49,y 50,y 51,y 52,y 53,y 54,y 55,y 56,y 57,y 58,y 59,y 60,y 61,y 62,y 63,y 64,y 65,y 66,y 67,y 68,y 69,y 70,y 71,y 72,y 73,y 74,y 75,y 76,y 77,y 78,y 79,y 80,y 81,y 82,y 83,y 84,y 85,y 86,y 87,y 88]) (k:=a.notes.l.length) ?_ ?_
      ⟨0,_,[],by omega,(kb 0 (by omega)).trans p0,(kb 1 (by omega)).trans p1,(kb 2 (by omega)).trans p2,cs,accQ_none,by simp,by omega,ex_x rfl⟩
    · clear z0 kb cs nb p0 p1 p2 y
      rintro k t H ⟨i,v,fp,hk,p0,p1,p2,ps,hA,hfp,hN2,y,rfl⟩
      by_cases c1 : (i : Int) < (a.notes.l.length : Int)
      rotate_left
      · rw [List.take_of_length_le (by omega)] at hA
        simp -implicitDefEqProofs (maxDischargeDepth:=12) only [WW,List.replicate,Option.some_or,s_conv,e_conv,s_slc3,e_cut3,e_cut3n,e_bns,e_bnn,e_splice,if_true,if_false,ite_true,ite_false,true_or,ne_eq,seval,h_putc,beq_self_eq_true,eq_self,exists_eq_left,exists_eq_left',c1]
        exact ⟨v,fp,p0,p1,p2,ps,hA,hfp,hN2,ex_x rfl⟩
      obtain ⟨x,hx⟩ : ∃ x,a.notes.l[i]? = some x:=⟨_,List.getElem?_eq_getElem (by omega)⟩
      have e2 : IntKind.i64.wrap ((i : Int) + 1) = ((i + 1 : Nat) : Int):=by rw [w64 (by omega) (by have:=ta.1; omega)]; omega
      have tx:=ta.2 x (List.mem_of_getElem? hx)
      have hlt:=hA.lt noteQ
      simp -implicitDefEqProofs (maxDischargeDepth:=12) only [WW,List.replicate,Option.some_or,s_conv,e_conv,s_slc3,e_cut3,e_cut3n,e_bns,e_bnn,if_true,if_false,ite_true,ite_false,true_or,ne_eq,seval,beq_self_eq_true,eq_self,exists_eq_left,exists_eq_left',c1,hx,x.enc_eq]
      generalize hH1 : AHeap.put _ H.next _ = H1
      have n1 : H1.next = H.next + 1:=by subst hH1; simp only [AHeap.next_put,AHeap.next_alloc]
      have k1 : ∀ b,b < H.next→H1.cells b = H.cells b:=fun b hb => by subst hH1; rw [c_put_ne (by omega),c_alloc_ne (by omega)]
      have cq1:=congrArg (fun h => AHeap.cells h H.next) hH1
      simp -implicitDefEqProofs (maxDischargeDepth:=12) only [WW,List.replicate,Option.some_or,s_conv,e_conv,s_slc3,e_cut3,e_cut3n,e_bns,e_bnn,e_splice,if_true,if_false,ite_true,ite_false,true_or,ne_eq,seval,h_putc,beq_self_eq_true,eq_self,exists_eq_left,exists_eq_left'] at cq1
      replace cq1:=cq1.symm
      clear hH1
      have ns : ¬ s = H.next:=by omega
      have zs:=(k1 s (by omega)).trans ps
      simp -implicitDefEqProofs (maxDischargeDepth:=12) only [WW,List.replicate,Option.some_or,s_conv,e_conv,s_slc3,e_cut3,e_cut3n,e_bns,e_bnn,e_splice,if_true,if_false,ite_true,ite_false,true_or,ne_eq,seval,h_putc,beq_self_eq_true,eq_self,exists_eq_left,exists_eq_left',cq1,zs]
      rw [← x.enc_eq]
      refine wA_call rfl ((clone_ok x tx _).mono ?_)
      rintro o H2 ⟨r,g,rfl,hr,hF⟩
      refine ⟨_,rfl,?_⟩
      have hrl : r.length = 8:=noteQ.len hr
      have hones:=hr.ones
      have glt:=noteQ.lt hr
      have hN3:=hF.2.1
      have zs2:=(hF.2.2 s (by omega)).trans zs
      have sp : splice [AV.sc (.int .i64 0),.sc (.int .i64 0),.sc .nils,.sc .nils,.sc (.int .i64 0),.sc (.int .i64 0),.sc (.int .i64 0),.sc .nils] 0 r = r:=splice_full (by rw [hrl]; rfl)
      simp -implicitDefEqProofs (maxDischargeDepth:=12) only [WW,List.replicate,Option.some_or,s_conv,e_conv,s_slc3,e_cut3,e_cut3n,e_bns,e_bnn,if_true,if_false,ite_true,ite_false,true_or,ne_eq,seval,beq_self_eq_true,eq_self,exists_eq_left,exists_eq_left',zs,zs2,hrl,hones,sp]
      have kk : ∀ z b,b < H.next→(H2.alloc z).cells b = H.cells b:=fun z b hb => by rw [c_alloc_ne (by omega),hF.2.2 b (by omega),k1 b hb]
      refine wA_appQ noteQ (H0:=H) hA (y:=x) (r:=r) (g:=g) (fun b hb => kk _ b (hlt b hb)) rfl (asrc_one (by simp -implicitDefEqProofs (maxDischargeDepth:=12) only [WW,List.replicate,Option.some_or,s_conv,e_conv,s_slc3,e_cut3,e_cut3n,e_bns,e_bnn,e_splice,if_true,if_false,ite_true,ite_false,true_or,ne_eq,seval,h_putc,beq_self_eq_true,eq_self,exists_eq_left,exists_eq_left']) hrl) (noteQ.fr hr fun b hb => c_alloc_ne (by have:=glt b hb; omega)) (fun c h1 h2 => by have:=hlt c h1; have:=hF.1 c h2; omega) (by rw [l_of,List.length_take]; have:=ta.1; omega) ?_
      intro v' H8 fp' q1 q2 q3 q4 q5 q6
      rw [AHeap.next_alloc] at q2
      have z8 : ∀ b,b < s + 1→H8.cells b = H.cells b:=fun b hb => by rw [q3 b (fun h => by have:=hfp b h; omega) (by rw [AHeap.next_alloc]; omega),kk _ b (by omega)]
      have y0:=(z8 0 (by omega)).trans p0
      have y1:=(z8 1 (by omega)).trans p1
      have y2:=(z8 2 (by omega)).trans p2
      have ys:=(z8 s (by omega)).trans ps
      have g6 : ∀ b ∈ fp',s + 1 ≤ b:=fun b hb => by
        rcases q4 b hb with h | h | h
        · exact hfp b h
        · have:=hF.1 b h; omega
        · rw [AHeap.next_alloc] at h; omega
      simp -implicitDefEqProofs (maxDischargeDepth:=12) only [WW,List.replicate,Option.some_or,s_conv,e_conv,s_slc3,e_cut3,e_cut3n,e_bns,e_bnn,if_true,if_false,ite_true,ite_false,true_or,ne_eq,seval,beq_self_eq_true,eq_self,exists_eq_left,exists_eq_left',ys,q5,q6,e2]
      refine ⟨k - 1,by omega,i + 1,v',fp',by omega,?_,?_,?_,?_,?_,g6,?_,ex_x rfl⟩
      · rw [c_put_ne (by omega)]; exact y0
      · rw [c_put_ne (by omega)]; exact y1
      · rw [c_put_ne (by omega)]; exact y2
      · rw [h_put_self ys]; rfl
      · rw [List.take_add_one,hx,of_cons (by simp)]
        rw [l_of] at q1
        exact q1.fr noteQ fun b hb => c_put_ne (by have:=g6 b hb; omega)
      · omega
    · clear z0 kb cs nb p0 p1 p2 y
      rintro t H ⟨v,fp,p0,p1,p2,ps,hA,hfp,hN2,y,rfl⟩
      simp only [a.enc_eq,b.enc_eq,c_agg] at p0 p1
      simp -implicitDefEqProofs (maxDischargeDepth:=12) only [WW,List.replicate,Option.some_or,s_conv,e_conv,s_slc3,e_cut3,e_cut3n,e_bns,e_bnn,e_splice,if_true,if_false,ite_true,ite_false,true_or,ne_eq,seval,h_putc,beq_self_eq_true,eq_self,exists_eq_left,exists_eq_left',p1]
      refine wp_loop (Inv:=fun k t H => ∃ (i : Nat) (v : AV) (fp : List Nat),i + k = b.notes.l.length∧H.cells 0 = some a.enc.cells∧H.cells 2 = some [.sc (.int .i64 0),.sc .nils]∧H.cells s = some [.sc (.int .i64 (IntKind.i64.wrap (a.len + b.len))),v] ∧
        AccQ NoteQ 8 H v (Sl.of (a.notes.l ++ (b.notes.l.take i).map (Note.shift a.len))) fp∧(∀ b ∈ fp,s + 1 ≤ b)∧s + 1 ≤ H.next ∧
        ∃ y : Nat→AV,t = [a.enc,b.enc,.ptr 0 0,y 3,.ptr 2 0,.sc (.int .i64 0),y 6,y 7,y 8,.ptr s 0,y 10,y 11,y 12,y 13,y 14,y 15,y 16,y 17,y 18,y 19,y 20,y 21,y 22,y 23,y 24,y 25,y 26,y 27,y 28,y 29,y 30,y 31,y 32,y 33,y 34,y 35,y 36,y 37,y 38,y 39,y 40,y 41,y 42,y 43,y 44,y 45,y 46,y 47,y 48,y 49,y 50,y 51,y 52,y 53,y 54,y 55,y 56,y 57,y 58,y 59,y 60,y 61,y 62,y 63,y 64,y 65,y 66,slm Note.enc b.notes,.sc (.int .i64 b.notes.l.length),.sc (.int .i64 i),y 70,y 71,y 72,y 73,y 74,y 75,y 76,y 77,y 78,y 79,y 80,y 81,y 82,y 83,y 84,y 85,y 86,y 87,y 88]) (k:=b.notes.l.length) ?_
        ⟨0,v,fp,by omega,by rw [p0]; rfl,p2,ps,by simpa using hA,hfp,hN2,ex_x rfl⟩
      clear p0 p1 p2 ps hA hfp hN2 y v fp
      rintro k t H ⟨i,v,fp,hk,p0,p2,ps,hA,hfp,hN2,y,rfl⟩
      simp only [a.enc_eq,c_agg] at p0
      by_cases c1 : (i : Int) < (b.notes.l.length : Int)
      rotate_left
      · rw [List.take_of_length_le (by omega)] at hA
        have hvo:=hA.one
        obtain ⟨f,o1,o2⟩:=hA.own noteQ
        simp -implicitDefEqProofs (maxDischargeDepth:=12) only [WW,List.replicate,Option.some_or,s_conv,e_conv,s_slc3,e_cut3,e_cut3n,e_bns,e_bnn,e_splice,if_true,if_false,ite_true,ite_false,true_or,ne_eq,seval,h_putc,beq_self_eq_true,eq_self,exists_eq_left,exists_eq_left',c1,p0,p2,ps,hvo.1,hvo.2]
        refine frz_clip (c:=⟨IntKind.i64.wrap (a.len + b.len),Sl.of (joinL a b)⟩) (f:=f) ?_
        refine o1.frame fun q hq => ?_
        have:=hfp q (o2 q hq)
        exact c_put_ne (by omega)
      obtain ⟨x,hx⟩ : ∃ x,b.notes.l[i]? = some x:=⟨_,List.getElem?_eq_getElem (by omega)⟩
      have e2 : IntKind.i64.wrap ((i : Int) + 1) = ((i + 1 : Nat) : Int):=by rw [w64 (by omega) (by have:=tb.1; omega)]; omega
      have tx:=tb.2 x (List.mem_of_getElem? hx)
      have hlt:=hA.lt noteQ
      simp -implicitDefEqProofs (maxDischargeDepth:=12) only [WW,List.replicate,Option.some_or,s_conv,e_conv,s_slc3,e_cut3,e_cut3n,e_bns,e_bnn,if_true,if_false,ite_true,ite_false,true_or,ne_eq,seval,beq_self_eq_true,eq_self,exists_eq_left,exists_eq_left',c1,hx,x.enc_eq]
      generalize hH1 : AHeap.put _ H.next _ = H1
      have n1 : H1.next = H.next + 1:=by subst hH1; simp only [AHeap.next_put,AHeap.next_alloc]
      have k1 : ∀ b,b < H.next→H1.cells b = H.cells b:=fun b hb => by subst hH1; rw [c_put_ne (by omega),c_alloc_ne (by omega)]
      have cq1:=congrArg (fun h => AHeap.cells h H.next) hH1
      simp -implicitDefEqProofs (maxDischargeDepth:=12) only [WW,List.replicate,Option.some_or,s_conv,e_conv,s_slc3,e_cut3,e_cut3n,e_bns,e_bnn,e_splice,if_true,if_false,ite_true,ite_false,true_or,ne_eq,seval,h_putc,beq_self_eq_true,eq_self,exists_eq_left,exists_eq_left'] at cq1
      replace cq1:=cq1.symm
      clear hH1
      simp -implicitDefEqProofs (maxDischargeDepth:=12) only [WW,List.replicate,Option.some_or,s_conv,e_conv,s_slc3,e_cut3,e_cut3n,e_bns,e_bnn,e_splice,if_true,if_false,ite_true,ite_false,true_or,ne_eq,seval,h_putc,beq_self_eq_true,eq_self,exists_eq_left,exists_eq_left',cq1]
      rw [← x.enc_eq]
      refine wA_call rfl ((clone_ok x tx _).mono ?_)
      rintro o H2 ⟨r,g,rfl,hr,hF⟩
      refine ⟨_,rfl,?_⟩
      have hrl : r.length = 8:=noteQ.len hr
      have hones:=hr.ones
      have glt:=noteQ.lt hr
      have hN3:=hF.2.1
      have cq2:=(hF.2.2 H.next (by omega)).trans cq1
      have zs2:=(hF.2.2 s (by omega)).trans ((k1 s (by omega)).trans ps)
      have z02:=(hF.2.2 0 (by omega)).trans ((k1 0 (by omega)).trans p0)
      obtain ⟨hv,gv,lv,fh,fg,fl,rfl,m1,m2,m3,m4,m5,m6,m7,m8,rfl⟩:=hr
      have m1o:=m1.one.1
      have n0q : ¬ 0 = H.next:=by omega
      have nsq : ¬ s = H.next:=by omega
      simp only [intE] at *
      simp -implicitDefEqProofs (maxDischargeDepth:=12) only [WW,List.replicate,Option.some_or,s_conv,e_conv,s_slc3,e_cut3,e_cut3n,e_bns,e_bnn,e_splice,if_true,if_false,ite_true,ite_false,true_or,ne_eq,seval,h_putc,beq_self_eq_true,eq_self,exists_eq_left,exists_eq_left',cq2,hones,zs2,z02,n0q,nsq,m1o,m4,m5]
      generalize hHc : AHeap.alloc (AHeap.put _ _ _) _ = Hc
      have nc : Hc.next = H2.next + 1:=by subst hHc; simp only [AHeap.next_put,AHeap.next_alloc]
      have kc : ∀ b,b < H2.next→b ≠ H.next→Hc.cells b = H2.cells b:=fun b hb h => by subst hHc; rw [c_alloc_ne (by simp only [AHeap.next_put]; omega),c_put_ne h,c_put_ne h]
      have cc:=congrArg (fun h => AHeap.cells h H2.next) hHc
      simp -implicitDefEqProofs (maxDischargeDepth:=12) only [WW,List.replicate,Option.some_or,s_conv,e_conv,s_slc3,e_cut3,e_cut3n,e_bns,e_bnn,e_splice,if_true,if_false,ite_true,ite_false,true_or,ne_eq,seval,h_putc,beq_self_eq_true,eq_self,exists_eq_left,exists_eq_left'] at cc
      replace cc:=cc.symm
      clear hHc
      have hg : ∀ c ∈ fh ++ (fg ++ fl),Hc.cells c = H2.cells c:=fun c hc => kc c (glt c hc) (by have:=hF.1 c hc; omega)
      have kk : ∀ b,b < H.next→Hc.cells b = H.cells b:=fun b hb => by rw [kc b (by omega) (by omega),hF.2.2 b (by omega),k1 b hb]
      refine wA_appQ noteQ (H0:=H) hA (y:=x.shift a.len) (g:=fh ++ (fg ++ fl)) (fun b hb => kk b (hlt b hb)) rfl (asrc_one cc rfl) ⟨hv,gv,lv,fh,fg,fl,rfl,m1.fr headQ fun b hb => hg b (mem3.2 (.inl hb)),m2.frame fun b hb => hg b (mem3.2 (.inr (.inl hb))),m3.frame fun b hb => hg b (mem3.2 (.inr (.inr hb))),m4,m5,m6,m7,m8,rfl⟩
        (fun c h1 h2 => by have:=hlt c h1; have:=hF.1 c h2; omega) (by rw [l_of,List.length_append,List.length_map,List.length_take]; omega) ?_
      intro v' H8 fp' q1 q2 q3 q4 q5 q6
      have z8 : ∀ b,b < s + 1→H8.cells b = H.cells b:=fun b hb => by rw [q3 b (fun h => by have:=hfp b h; omega) (by omega),kk b (by omega)]
      have y0:=(z8 0 (by omega)).trans p0
      have y2:=(z8 2 (by omega)).trans p2
      have ys:=(z8 s (by omega)).trans ps
      have g6 : ∀ b ∈ fp',s + 1 ≤ b:=fun b hb => by
        rcases q4 b hb with h | h | h
        · exact hfp b h
        · have:=hF.1 b h; omega
        · omega
      simp -implicitDefEqProofs (maxDischargeDepth:=12) only [WW,List.replicate,Option.some_or,s_conv,e_conv,s_slc3,e_cut3,e_cut3n,e_bns,e_bnn,if_true,if_false,ite_true,ite_false,true_or,ne_eq,seval,beq_self_eq_true,eq_self,exists_eq_left,exists_eq_left',ys,q5,q6,e2]
      refine ⟨k - 1,by omega,i + 1,v',fp',by omega,?_,?_,?_,?_,g6,?_,ex_x rfl⟩
      · rw [c_put_ne (by omega)]; exact y0
      · rw [c_put_ne (by omega)]; exact y2
      · rw [h_put_self ys]; rfl
      · rw [List.take_add_one,hx,List.map_append,← List.append_assoc,of_cons (by simp)]
        rw [l_of] at q1
        exact q1.fr noteQ fun b hb => c_put_ne (by have:=g6 b hb; omega)
      · omega
  · simp -implicitDefEqProofs (maxDischargeDepth:=12) only [WW,List.replicate,Option.some_or,s_conv,e_conv,s_slc3,e_cut3,e_cut3n,e_bns,e_bnn,e_splice,if_true,if_false,ite_true,ite_false,true_or,ne_eq,seval,h_putc,beq_self_eq_true,eq_self,exists_eq_left,exists_eq_left',a.enc_eq]
  · simp -implicitDefEqProofs (maxDischargeDepth:=12) only [WW,List.replicate,Option.some_or,s_conv,e_conv,s_slc3,e_cut3,e_cut3n,e_bns,e_bnn,e_splice,if_true,if_false,ite_true,ite_false,true_or,ne_eq,seval,h_putc,beq_self_eq_true,eq_self,exists_eq_left,exists_eq_left',b.enc_eq]
  · simp -implicitDefEqProofs (maxDischargeDepth:=12) only [WW,List.replicate,Option.some_or,s_conv,e_conv,s_slc3,e_cut3,e_cut3n,e_bns,e_bnn,e_splice,if_true,if_false,ite_true,ite_false,true_or,ne_eq,seval,h_putc,beq_self_eq_true,eq_self,exists_eq_left,exists_eq_left']
  · simp -implicitDefEqProofs (maxDischargeDepth:=12) only [WW,List.replicate,Option.some_or,s_conv,e_conv,s_slc3,e_cut3,e_cut3n,e_bns,e_bnn,e_splice,if_true,if_false,ite_true,ite_false,true_or,ne_eq,seval,h_putc,beq_self_eq_true,eq_self,exists_eq_left,exists_eq_left',a.enc_eq,b.enc_eq]; rfl
  · simp only [AHeap.next_put,AHeap.next_alloc]; decide
end
end Go.Hem
namespace Go.Hem
noncomputable section
theorem shift_at {d L : Int} {n : Note} (f : NFit L n) (h0 : 0 ≤ d) (hd : d + L ≤ 123863040) : (n.shift d).at_ = n.at_ + d:=by
  have:=f.lo; have:=f.one; have:=f.hi
  show IntKind.i64.wrap _ = _; exact w64 (by omega) (by omega)
theorem shift_fit {d L : Int} {n : Note} (f : NFit L n) (h0 : 0 ≤ d) (hd : d + L ≤ 123863040) : NFit (d + L) (n.shift d):=by
  have e:=shift_at f h0 hd
  have:=f.lo; have:=f.one; have:=f.hi
  refine ⟨by omega,f.one,?_,?_⟩
  · show (n.shift d).at_ + n.len ≤ _; omega
  · rw [← f.ok]; exact chordE_of rfl rfl rfl rfl rfl rfl rfl
theorem shift_fin {d L : Int} {n : Note} (f : NFit L n) (h0 : 0 ≤ d) (hd : d + L ≤ 123863040) : (n.shift d).fin = n.fin + d:=by
  have e:=shift_at f h0 hd
  have:=f.lo; have:=f.one; have:=f.hi
  rw [(shift_fit f h0 hd).fin_eq hd,f.fin_eq (by omega),e]
  show _ + n.len = _; omega
theorem oneB_shift {d L : Int} {m n : Note} (f : NFit L m) (g : NFit L n) (h0 : 0 ≤ d) (hd : d + L ≤ 123863040) : oneB (m.shift d) (n.shift d) = oneB m n:=by
  unfold oneB
  rw [shift_fin f h0 hd,shift_at g h0 hd]
  have e : (m.fin + d = n.at_ + d) = (m.fin = n.at_):=propext (by omega)
  simp only [e]; rfl
theorem keepTie_shift {d L : Int} {m : Note} {nx : Option Note} {h : Head} (f : NFit L m) (g : ∀ n,nx = some n→NFit L n) (h0 : 0 ≤ d) (hd : d + L ≤ 123863040) : keepTie (m.shift d) (nx.map (Note.shift d)) h = keepTie m nx h:=by
  unfold keepTie
  cases nx with
  | none => rfl
  | some n =>
    simp only [Option.map_some]
    rw [shift_fin f h0 hd,shift_at (g n rfl) h0 hd]
    have e : (n.at_ + d = m.fin + d) = (n.at_ = m.fin):=propext (by omega)
    simp only [e]; rfl
theorem heads_ne {n : Note} (h : chordE n = 0) : n.heads.l ≠ []:=fun e => by
  have:=(chordE_parts h).1
  rw [e] at this
  unfold headsE at this
  simp at this
theorem last_untied {A : List Note} (h : Ties A) {n : Note} {i : Nat} (hi : A[i]? = some n) (hl : A[i + 1]? = none) : ∀ k ∈ n.heads.l,k.tied = false:=fun k hk => by
  cases q : k.tied with
  | false => rfl
  | true =>
    have:=h i n hi k hk q
    rw [hl] at this
    unfold keepTie at this
    simp at this
theorem untied_one {m n : Note} (h : ∀ k ∈ m.heads.l,k.tied = false) (hm : m.heads.l ≠ []) : oneB m n = false:=by
  unfold oneB headsOne
  have : m.heads.l.all (·.tied) = false:=by
    cases q : m.heads.l with
    | nil => exact absurd q hm
    | cons x t => rw [List.all_cons,h x (by rw [q]; simp),Bool.false_and]
  rw [this]; simp
theorem join_row {A B : List Note} {La Lb : Int} (ra : Row La A) (rb : Row Lb B) (h0 : 0 ≤ La) (hb0 : 0 ≤ Lb) (hd : La + Lb ≤ 123863040) : Row (La + Lb) (A ++ B.map (Note.shift La)):=by
  refine ⟨fun n hn => ?_,?_⟩
  · rcases List.mem_append.1 hn with h | h
    · have f:=ra.fit n h
      exact ⟨f.lo,f.one,by have:=f.hi; omega,f.ok⟩
    · obtain ⟨m,hm,rfl⟩:=List.mem_map.1 h
      exact shift_fit (rb.fit m hm) h0 hd
  · rw [List.pairwise_append]
    refine ⟨ra.ord,List.pairwise_map.2 (List.Pairwise.imp_of_mem ?_ rb.ord),fun x hx y hy => ?_⟩
    · intro m n hm hn k
      have e1:=shift_at (rb.fit m hm) h0 hd
      have e2:=shift_at (rb.fit n hn) h0 hd
      unfold Before at k ⊢
      rw [e1,e2]
      show n.at_ + La ≥ m.at_ + La + m.len
      omega
    · obtain ⟨m,hm,rfl⟩:=List.mem_map.1 hy
      have e1:=shift_at (rb.fit m hm) h0 hd
      have f:=(ra.fit x hx).hi
      have g:=(rb.fit m hm).lo
      unfold Before
      rw [e1]; omega
theorem join_at {A B : List Note} {La : Int} {i : Nat} {n : Note} (h : (A ++ B.map (Note.shift La))[i]? = some n) : (i < A.length∧A[i]? = some n) ∨ (A.length ≤ i∧∃ m,B[i - A.length]? = some m∧n = m.shift La):=by
  by_cases c : i < A.length
  · rw [List.getElem?_append_left c] at h; exact .inl ⟨c,h⟩
  · rw [List.getElem?_append_right (by omega),List.getElem?_map] at h
    refine .inr ⟨by omega,?_⟩
    cases q : B[i - A.length]? with
    | none => rw [q] at h; simp at h
    | some m => rw [q] at h; exact ⟨m,rfl,(Option.some.inj h).symm⟩
theorem join_neat {A B : List Note} {La Lb : Int} (ra : Row La A) (rb : Row Lb B) (na : Neat A) (nb : Neat B) (h0 : 0 ≤ La) (hd : La + Lb ≤ 123863040) : Neat (A ++ B.map (Note.shift La)):=by
  refine ⟨fun i m n h1 h2 => ?_,fun i n h1 k hk ht => ?_⟩
  · rcases join_at h1 with ⟨c1,g1⟩ | ⟨c1,m',g1,rfl⟩
    · rcases join_at h2 with ⟨c2,g2⟩ | ⟨c2,n',g2,rfl⟩
      · exact na.1 i m n g1 g2
      · exact untied_one (last_untied na.2 g1 (List.getElem?_eq_none (by omega))) (heads_ne (ra.fit m (List.mem_of_getElem? g1)).ok)
    · rcases join_at h2 with ⟨c2,g2⟩ | ⟨c2,n',g2,rfl⟩
      · omega
      · rw [oneB_shift (rb.fit m' (List.mem_of_getElem? g1)) (rb.fit n' (List.mem_of_getElem? g2)) h0 hd]
        exact nb.1 _ m' n' g1 (by rw [← g2]; congr 1; omega)
  · rcases join_at h1 with ⟨c1,g1⟩ | ⟨c1,m',g1,rfl⟩
    · by_cases c2 : i + 1 < A.length
      · rw [List.getElem?_append_left c2]
        exact na.2 i n g1 k hk ht
      · have:=last_untied na.2 g1 (List.getElem?_eq_none (by omega)) k hk
        rw [this] at ht; cases ht
    · have e : (A ++ B.map (Note.shift La))[i + 1]? = (B[i - A.length + 1]?).map (Note.shift La):=by
        rw [List.getElem?_append_right (by omega),List.getElem?_map]; congr 2; omega
      rw [e,keepTie_shift (rb.fit m' (List.mem_of_getElem? g1)) (fun n hn => rb.fit n (List.mem_of_getElem? hn)) h0 hd]
      exact nb.2 _ m' g1 k hk ht
theorem limit_id {L : Int} {n : Note} (f : NFit L n) (hL : L ≤ 123863040) : limitP n 0 L = n:=by
  have q1:=f.lo; have q2:=f.one; have q3:=f.hi; have q4:=f.fin_eq hL
  have e1 : IntKind.i64.wrap (max n.at_ 0 - 0) = n.at_:=by rw [w64 (by omega) (by omega)]; omega
  have e2 : IntKind.i64.wrap (min n.fin L - max n.at_ 0) = n.len:=by rw [q4,w64 (by omega) (by omega)]; omega
  unfold limitP Note.cutTie Note.part
  rw [e1,e2,if_neg (by omega),if_neg (by omega)]
theorem limit_shift {d L : Int} {n : Note} (f : NFit L n) (h0 : 0 ≤ d) (hd : d + L ≤ 123863040) : limitP (n.shift d) d (d + L) = n:=by
  have q1:=f.lo; have q2:=f.one; have q3:=f.hi; have q4:=f.fin_eq (by omega)
  have e1:=shift_at f h0 hd
  have e2:=shift_fin f h0 hd
  have e3 : IntKind.i64.wrap (max (n.shift d).at_ d - d) = n.at_:=by rw [w64 (by omega) (by omega)]; omega
  have e4 : IntKind.i64.wrap (min (n.shift d).fin (d + L) - max (n.shift d).at_ d) = n.len:=by rw [e2,q4,w64 (by omega) (by omega)]; omega
  unfold limitP Note.cutTie Note.part
  rw [e3,e4,if_neg (by omega),if_neg (by omega)]
  rfl
theorem sub_first {A B : List Note} {La Lb : Int} (ra : Row La A) (rb : Row Lb B) (h0 : 0 ≤ La) (hb0 : 0 ≤ Lb) (hd : La + Lb ≤ 123863040) : subL (A ++ B.map (Note.shift La)) 0 La = A:=by
  unfold subL
  rw [List.filter_append,List.filter_eq_self.2,List.filter_eq_nil_iff.2,List.append_nil]
  · conv => rhs; rw [← List.map_id A]
    exact List.map_congr_left fun n hn => limit_id (ra.fit n hn) (by omega)
  · intro n hn
    obtain ⟨m,hm,rfl⟩:=List.mem_map.1 hn
    have e:=shift_at (rb.fit m hm) h0 hd
    have:=(rb.fit m hm).lo
    rw [cutB_iff]; omega
  · intro n hn
    have f:=ra.fit n hn
    have:=f.lo; have:=f.one; have:=f.hi; have:=f.fin_eq (by omega)
    rw [cutB_iff]; omega
theorem sub_second {A B : List Note} {La Lb : Int} (ra : Row La A) (rb : Row Lb B) (h0 : 0 ≤ La) (hb0 : 0 ≤ Lb) (hd : La + Lb ≤ 123863040) : subL (A ++ B.map (Note.shift La)) La (La + Lb) = B:=by
  unfold subL
  rw [List.filter_append,List.filter_eq_nil_iff.2,List.filter_eq_self.2,List.nil_append,List.map_map]
  · conv => rhs; rw [← List.map_id B]
    exact List.map_congr_left fun n hn => limit_shift (rb.fit n hn) h0 hd
  · intro n hn
    obtain ⟨m,hm,rfl⟩:=List.mem_map.1 hn
    have f:=rb.fit m hm
    have e:=shift_at f h0 hd
    have e2:=shift_fin f h0 hd
    have:=f.lo; have:=f.one; have:=f.hi; have:=f.fin_eq (by omega)
    rw [cutB_iff]; omega
  · intro n hn
    have f:=ra.fit n hn
    have:=f.lo; have:=f.one; have:=f.hi; have:=f.fin_eq (by omega)
    rw [cutB_iff]; omega
theorem joinC_good {a b : Clip} (h : joinE a b = 0) (hs : a.notes.l.length + b.notes.l.length ≤ 4096) :
    joinC a b = ⟨IntKind.i64.wrap (a.len + b.len),Sl.of (joinL a b)⟩∧checkE (joinC a b) = 0∧subE (joinC a b) 0 a.len = 0∧subE (joinC a b) a.len (IntKind.i64.wrap (a.len + b.len)) = 0 ∧
      (subC (joinC a b) 0 a.len).cn = a.cn∧(subC (joinC a b) a.len (IntKind.i64.wrap (a.len + b.len))).cn = b.cn:=by
  have hx : joinC a b = ⟨IntKind.i64.wrap (a.len + b.len),Sl.of (joinL a b)⟩:=by unfold joinC; rw [if_pos h]
  unfold joinE at h
  by_cases c1 : checkE a = 0
  rotate_left
  · rw [if_pos c1] at h; exact absurd h c1
  rw [if_neg (by simpa using c1)] at h
  by_cases c2 : checkE b = 0
  rotate_left
  · rw [if_pos c2] at h; exact absurd h c2
  rw [if_neg (by simpa using c2)] at h
  by_cases c3 : 123863040 < IntKind.i64.wrap (a.len + b.len)
  · rw [if_pos c3] at h; simp at h
  have ga:=good_of c1
  have gb:=good_of c2
  have a1:=ga.lo; have a2:=ga.hi; have b1:=gb.lo; have b2:=gb.hi
  have ew : IntKind.i64.wrap (a.len + b.len) = a.len + b.len:=w64 (by omega) (by omega)
  rw [ew] at c3 hx ⊢
  have hd : a.len + b.len ≤ 123863040:=by omega
  have hg : Good (joinC a b):=by
    rw [hx]
    refine ⟨?_,hd,?_,?_⟩
    · show 0 ≤ a.len + b.len; omega
    · show Row (a.len + b.len) _
      rw [l_of]; exact join_row ga.row gb.row a1 b1 hd
    · show Neat _
      rw [l_of]; exact join_neat ga.row gb.row ga.neat gb.neat a1 hd
  have hl : (joinC a b).notes.l = joinL a b:=by rw [hx,l_of]
  have hc : checkE (joinC a b) = 0:=check_of hg (by rw [hl]; unfold joinL; rw [List.length_append,List.length_map]; exact hs)
  have hlen : (joinC a b).len = a.len + b.len:=by rw [hx]
  have s1 : subE (joinC a b) 0 a.len = 0:=by
    unfold subE
    rw [if_neg (by simpa using hc),if_neg (by rw [hlen]; omega)]
  have s2 : subE (joinC a b) a.len (a.len + b.len) = 0:=by
    unfold subE
    rw [if_neg (by simpa using hc),if_neg (by rw [hlen]; omega)]
  refine ⟨hx,hc,s1,s2,?_,?_⟩
  · unfold subC
    rw [if_pos s1,hl]
    unfold joinL
    rw [sub_first ga.row gb.row a1 b1 hd,tidy_id ga.neat,w64 (by omega) (by omega)]
    exact Clip.cn_iff.2 ⟨by show a.len - 0 = _; omega,by rw [l_of]⟩
  · unfold subC
    rw [if_pos s2,hl]
    unfold joinL
    rw [sub_second ga.row gb.row a1 b1 hd,tidy_id gb.neat,w64 (by omega) (by omega)]
    exact Clip.cn_iff.2 ⟨by show a.len + b.len - a.len = _; omega,by rw [l_of]⟩
end
end Go.Hem
namespace Go.Hem
noncomputable section
theorem Note.shift_tame {d : Int} {x : Note} (h : x.tame) : (x.shift d).tame:=⟨h.heads,h.graces,h.lyrics,h.text⟩
theorem joinL_tame {a b : Clip} (ta : a.tame) (tb : b.tame) : ∀ x ∈ joinL a b,x.tame:=fun x hx => by
  rcases List.mem_append.1 hx with h | h
  · exact ta.2 x h
  · obtain ⟨m,hm,rfl⟩:=List.mem_map.1 h
    exact Note.shift_tame (tb.2 m hm)
theorem joinC_tame {a b : Clip} (ta : a.tame) (tb : b.tame) (hs : a.notes.l.length + b.notes.l.length ≤ 4096) : (joinC a b).tame:=by
  unfold joinC
  split
  · refine ⟨?_,?_⟩
    · rw [l_of]; unfold joinL; rw [List.length_append,List.length_map]; omega
    · rw [l_of]; exact joinL_tame ta tb
  · exact noClip_tame
theorem law7_pv (a b : Clip) : Pv prog polS 7 [a.enc,b.enc] (.sc (.bool true)):=by
  refine Pv_of' ok7 (by simp only [AV.closedBs,Clip.enc_closed,AV.closedB,Bool.and_self]) ?_
  simp -implicitDefEqProofs (maxDischargeDepth:=12) only [wpF,cf7,WW,List.replicate,Option.some_or,s_conv,e_conv,s_slc3,e_cut3,e_cut3n,e_bns,e_bnn,e_splice,if_true,if_false,ite_true,ite_false,true_or,ne_eq,seval,h_putc,beq_self_eq_true,eq_self,exists_eq_left,exists_eq_left',a.enc_eq,b.enc_eq]
  refine wA_pure rfl known_pv ?_
  simp -implicitDefEqProofs (maxDischargeDepth:=12) only [WW,List.replicate,Option.some_or,s_conv,e_conv,s_slc3,e_cut3,e_cut3n,e_bns,e_bnn,e_splice,if_true,if_false,ite_true,ite_false,true_or,ne_eq,seval,h_putc,beq_self_eq_true,eq_self,exists_eq_left,exists_eq_left',a.enc_eq,b.enc_eq]
  rw [← a.enc_eq,← b.enc_eq]
  refine wA_pure rfl (small_pv a) ?_
  cases ha : a.smallB with
  | false =>
    simp -implicitDefEqProofs (maxDischargeDepth:=12) only [WW,List.replicate,Option.some_or,s_conv,e_conv,s_slc3,e_cut3,e_cut3n,e_bns,e_bnn,e_splice,if_true,if_false,ite_true,ite_false,true_or,ne_eq,seval,h_putc,beq_self_eq_true,eq_self,exists_eq_left,exists_eq_left']
    refine wA_pure rfl known_pv ?_
    simp -implicitDefEqProofs (maxDischargeDepth:=12) only [WW,List.replicate,Option.some_or,s_conv,e_conv,s_slc3,e_cut3,e_cut3n,e_bns,e_bnn,e_splice,if_true,if_false,ite_true,ite_false,true_or,ne_eq,seval,h_putc,beq_self_eq_true,eq_self,exists_eq_left,exists_eq_left']
    exact frz_sc
  | true =>
  simp -implicitDefEqProofs (maxDischargeDepth:=12) only [WW,List.replicate,Option.some_or,s_conv,e_conv,s_slc3,e_cut3,e_cut3n,e_bns,e_bnn,e_splice,if_true,if_false,ite_true,ite_false,true_or,ne_eq,seval,h_putc,beq_self_eq_true,eq_self,exists_eq_left,exists_eq_left',a.enc_eq,b.enc_eq]
  rw [← a.enc_eq,← b.enc_eq]
  refine wA_pure rfl (small_pv b) ?_
  cases hb : b.smallB with
  | false =>
    simp -implicitDefEqProofs (maxDischargeDepth:=12) only [WW,List.replicate,Option.some_or,s_conv,e_conv,s_slc3,e_cut3,e_cut3n,e_bns,e_bnn,e_splice,if_true,if_false,ite_true,ite_false,true_or,ne_eq,seval,h_putc,beq_self_eq_true,eq_self,exists_eq_left,exists_eq_left']
    refine wA_pure rfl known_pv ?_
    simp -implicitDefEqProofs (maxDischargeDepth:=12) only [WW,List.replicate,Option.some_or,s_conv,e_conv,s_slc3,e_cut3,e_cut3n,e_bns,e_bnn,e_splice,if_true,if_false,ite_true,ite_false,true_or,ne_eq,seval,h_putc,beq_self_eq_true,eq_self,exists_eq_left,exists_eq_left']
    exact frz_sc
  | true =>
  have ta:=smallB_tame ha
  have tb:=smallB_tame hb
  have hs : a.notes.l.length + b.notes.l.length ≤ 4096:=by
    unfold Clip.smallB at ha hb
    simp only [Bool.and_eq_true,decide_eq_true_eq] at ha hb; omega
  simp -implicitDefEqProofs (maxDischargeDepth:=12) only [WW,List.replicate,Option.some_or,s_conv,e_conv,s_slc3,e_cut3,e_cut3n,e_bns,e_bnn,e_splice,if_true,if_false,ite_true,ite_false,true_or,ne_eq,seval,h_putc,beq_self_eq_true,eq_self,exists_eq_left,exists_eq_left',a.enc_eq,b.enc_eq]
  rw [← a.enc_eq,← b.enc_eq]
  refine wA_pure rfl (join_pv a b ta tb hs) ?_
  have hX:=joinC_tame ta tb hs
  have hG:=joinC_good (a:=a) (b:=b)
  have hXd : joinC a b = if joinE a b = 0 then ⟨IntKind.i64.wrap (a.len + b.len),Sl.of (joinL a b)⟩ else noClip:=rfl
  generalize joinC a b = X at hX hXd hG
  generalize hE : joinE a b = E at hXd hG
  unfold joinE at hE
  simp -implicitDefEqProofs (maxDischargeDepth:=12) only [WW,List.replicate,Option.some_or,s_conv,e_conv,s_slc3,e_cut3,e_cut3n,e_bns,e_bnn,e_splice,if_true,if_false,ite_true,ite_false,true_or,ne_eq,seval,h_putc,beq_self_eq_true,eq_self,exists_eq_left,exists_eq_left',a.enc_eq,b.enc_eq,X.enc_eq]
  rw [← a.enc_eq,← b.enc_eq]
  refine wA_pure rfl (rcheck_pv a ta) ?_
  rw [← X.enc_eq]
  by_cases h1 : checkE a = 0
  rotate_left
  · rw [if_pos h1] at hE; subst hE
    have hXv : X = noClip:=by rw [hXd,if_neg h1]
    rw [hXv]
    simp -implicitDefEqProofs (maxDischargeDepth:=12) only [WW,List.replicate,Option.some_or,s_conv,e_conv,s_slc3,e_cut3,e_cut3n,e_bns,e_bnn,e_splice,if_true,if_false,ite_true,ite_false,true_or,ne_eq,seval,h_putc,beq_self_eq_true,eq_self,exists_eq_left,exists_eq_left',h1,noClip_enc,a.enc_eq,b.enc_eq]
    rw [← noClip_enc]
    refine wA_pure rfl (same_pv noClip noClip noClip_tame.1 (chord_tames noClip_tame)) ?_
    simp -implicitDefEqProofs (maxDischargeDepth:=12) only [WW,List.replicate,Option.some_or,s_conv,e_conv,s_slc3,e_cut3,e_cut3n,e_bns,e_bnn,e_splice,if_true,if_false,ite_true,ite_false,true_or,ne_eq,seval,h_putc,beq_self_eq_true,eq_self,exists_eq_left,exists_eq_left']
    exact frz_sc
  rw [if_neg (by simpa using h1)] at hE
  simp -implicitDefEqProofs (maxDischargeDepth:=12) only [WW,List.replicate,Option.some_or,s_conv,e_conv,s_slc3,e_cut3,e_cut3n,e_bns,e_bnn,e_splice,if_true,if_false,ite_true,ite_false,true_or,ne_eq,seval,h_putc,beq_self_eq_true,eq_self,exists_eq_left,exists_eq_left',eq_true h1,a.enc_eq,b.enc_eq]
  rw [← a.enc_eq,← b.enc_eq]
  refine wA_pure rfl (rcheck_pv b tb) ?_
  by_cases h2 : checkE b = 0
  rotate_left
  · rw [if_pos h2] at hE; subst hE
    have hXv : X = noClip:=by rw [hXd,if_neg h2]
    rw [hXv]
    simp -implicitDefEqProofs (maxDischargeDepth:=12) only [WW,List.replicate,Option.some_or,s_conv,e_conv,s_slc3,e_cut3,e_cut3n,e_bns,e_bnn,e_splice,if_true,if_false,ite_true,ite_false,true_or,ne_eq,seval,h_putc,beq_self_eq_true,eq_self,exists_eq_left,exists_eq_left',h1,h2,noClip_enc,a.enc_eq,b.enc_eq]
    rw [← noClip_enc]
    refine wA_pure rfl (same_pv noClip noClip noClip_tame.1 (chord_tames noClip_tame)) ?_
    simp -implicitDefEqProofs (maxDischargeDepth:=12) only [WW,List.replicate,Option.some_or,s_conv,e_conv,s_slc3,e_cut3,e_cut3n,e_bns,e_bnn,e_splice,if_true,if_false,ite_true,ite_false,true_or,ne_eq,seval,h_putc,beq_self_eq_true,eq_self,exists_eq_left,exists_eq_left']
    exact frz_sc
  rw [if_neg (by simpa using h2)] at hE
  by_cases h3 : 123863040 < IntKind.i64.wrap (a.len + b.len)
  · rw [if_pos h3] at hE; subst hE
    have hXv : X = noClip:=by rw [hXd,if_neg (by decide)]
    rw [hXv]
    simp -implicitDefEqProofs (maxDischargeDepth:=12) only [WW,List.replicate,Option.some_or,s_conv,e_conv,s_slc3,e_cut3,e_cut3n,e_bns,e_bnn,e_splice,if_true,if_false,ite_true,ite_false,true_or,ne_eq,seval,h_putc,beq_self_eq_true,eq_self,exists_eq_left,exists_eq_left',eq_true h1,eq_true h2,h3,noClip_enc,a.enc_eq,b.enc_eq]
    rw [← noClip_enc]
    refine wA_pure rfl (same_pv noClip noClip noClip_tame.1 (chord_tames noClip_tame)) ?_
    simp -implicitDefEqProofs (maxDischargeDepth:=12) only [WW,List.replicate,Option.some_or,s_conv,e_conv,s_slc3,e_cut3,e_cut3n,e_bns,e_bnn,e_splice,if_true,if_false,ite_true,ite_false,true_or,ne_eq,seval,h_putc,beq_self_eq_true,eq_self,exists_eq_left,exists_eq_left']
    exact frz_sc
  rw [if_neg h3] at hE; subst hE
  rw [if_pos rfl] at hXd
  obtain ⟨_,gX,s1,s2,e1,e2⟩:=hG rfl hs
  simp -implicitDefEqProofs (maxDischargeDepth:=12) only [WW,List.replicate,Option.some_or,s_conv,e_conv,s_slc3,e_cut3,e_cut3n,e_bns,e_bnn,e_splice,if_true,if_false,ite_true,ite_false,true_or,ne_eq,seval,h_putc,beq_self_eq_true,eq_self,exists_eq_left,exists_eq_left',eq_true h1,eq_true h2,h3,a.enc_eq,b.enc_eq,X.enc_eq]
  generalize hHa : AHeap.alloc _ _ = Ha
  have a0:=congrArg (fun H => AHeap.cells H 0) hHa
  have a1:=congrArg (fun H => AHeap.cells H 1) hHa
  have a2:=congrArg (fun H => AHeap.cells H 2) hHa
  have a3:=congrArg (fun H => AHeap.cells H 3) hHa
  have a4:=congrArg (fun H => AHeap.cells H 4) hHa
  have na : Ha.next = 5:=by subst hHa; simp only [AHeap.next_alloc,AHeap.next_put]
  simp -implicitDefEqProofs (maxDischargeDepth:=12) only [WW,List.replicate,Option.some_or,s_conv,e_conv,s_slc3,e_cut3,e_cut3n,e_bns,e_bnn,e_splice,if_true,if_false,ite_true,ite_false,true_or,ne_eq,seval,h_putc,beq_self_eq_true,eq_self,exists_eq_left,exists_eq_left'] at a0 a1 a2 a3 a4
  replace a0:=a0.symm
  replace a1:=a1.symm
  replace a2:=a2.symm
  replace a3:=a3.symm
  replace a4:=a4.symm
  clear hHa
  refine wA_appC row_Note (fun _ => rfl) a3 ta.1 (by decide) ?_
  intro v' H1 fp' q1 q2 q3 q4 q5 q6
  have z0:=(q3 0 (by decide) (by omega)).trans a0
  have z1:=(q3 1 (by decide) (by omega)).trans a1
  have z2:=(q3 2 (by decide) (by omega)).trans a2
  have z4:=(q3 4 (by decide) (by omega)).trans a4
  simp -implicitDefEqProofs (maxDischargeDepth:=12) only [WW,List.replicate,Option.some_or,s_conv,e_conv,s_slc3,e_cut3,e_cut3n,e_bns,e_bnn,e_splice,if_true,if_false,ite_true,ite_false,true_or,ne_eq,seval,h_putc,beq_self_eq_true,eq_self,exists_eq_left,exists_eq_left',a0,a1,z0,z1,z4,q5,q6]
  refine wp_loop (Inv:=fun k t H => ∃ (i : Nat) (v : AV) (fp : List Nat),i + k = b.notes.l.length∧H.cells 0 = some a.enc.cells∧H.cells 1 = some b.enc.cells∧H.cells 2 = some X.enc.cells∧H.cells 4 = some [.sc (.int .i64 (IntKind.i64.wrap (a.len + b.len))),v] ∧
    AccQ NoteC 8 H v (some (a.notes.l ++ (b.notes.l.take i).map (Note.shift a.len))) fp∧(∀ b ∈ fp,b = 3 ∨ 5 ≤ b)∧5 ≤ H.next ∧
    ∃ y : Nat→AV,t = [y 0,y 1,.ptr 0 0,.ptr 1 0,.sc (.bool false),.ptr 2 0,.sc (.int .i64 0),y 7,.ptr 4 0,.sc (.int .i64 i),y 10,y 11,y 12,y 13,y 14,y 15,y 16,y 17,y 18,y 19,y 20,y 21,y 22,y 23,y 24,y 25,y 26,y 27,y 28,y 29,y 30,y 31,y 32,y 33,y 34,y 35,y 36,y 37,y 38,y 39,y 40,y 41,y 42,y 43,y 44,y 45,y 46,y 47,y 48,y 49,y 50,y 51,y 52,y 53,y 54,y 55,y 56,y 57,y 58,y 59,y 60,y 61,y 62,y 63,y 64,y 65,y 66,y 67,y 68,y 69,y 70,y 71,y 72,y 73,y 74,y 75,y 76,y 77,y 78,y 79,y 80,y 81,y 82,y 83,y 84,y 85,y 86,y 87,y 88,y 89,y 90,y 91,y 92,y 93,y 94,y 95,y 96,y 97,y 98,y 99,y 100,y 101,y 102,y 103,y 104,y 105,y 106,y 107,y 108,y 109,y 110,y 111,y 112,y 113,y 114,y 115,y 116,y 117,y 118,y 119,y 120,y 121,y 122,y 123,y 124,y 125,y 126,y 127,y 128,y 129,y 130,y 131,y 132,y 133,y 134,y 135,y 136,y 137,y 138,y 139,y 140,y 141,y 142]) (k:=b.notes.l.length) ?_
    ⟨0,v',fp',by omega,?_,?_,?_,?_,?_,fun b hb => by rcases q4 b hb with h | h <;> omega,?_,ex_x rfl⟩
  rotate_left
  · rw [c_put_ne (by decide)]; exact z0
  · rw [c_put_ne (by decide)]; exact z1
  · rw [c_put_ne (by decide)]; exact z2
  · rw [h_put_self z4]
  · simp only [List.take_zero,List.map_nil,List.append_nil]
    exact q1.fr noteC fun b hb => c_put_ne (by rcases q4 b hb with h | h <;> omega)
  · rw [AHeap.next_put]; omega
  clear q1 q2 q3 q4 q5 q6 z0 z1 z2 z4 a0 a1 a2 a3 a4 na
  rintro k t H ⟨i,v,fp,hk,p0,p1,p2,p4,hA,hfp,hN,y,rfl⟩
  simp only [a.enc_eq,b.enc_eq,X.enc_eq,c_agg] at p0 p1 p2
  by_cases c1 : (i : Int) < (b.notes.l.length : Int)
  rotate_left
  · rw [List.take_of_length_le (by omega)] at hA
    have ho:=hA.one
    obtain ⟨f,o1,o2⟩:=hA.own noteC
    simp -implicitDefEqProofs (maxDischargeDepth:=12) only [WW,List.replicate,Option.some_or,s_conv,e_conv,s_slc3,e_cut3,e_cut3n,e_bns,e_bnn,e_splice,if_true,if_false,ite_true,ite_false,true_or,ne_eq,seval,h_putc,beq_self_eq_true,eq_self,exists_eq_left,exists_eq_left',c1,p0,p1,p2,p4,ho.1,ho.2]
    rw [← X.enc_eq]
    refine wA_pure rfl (sub_pv X hX 0 a.len) ?_
    rw [s1]
    have hP:=subC_tame hX (b:=0) (e:=a.len)
    generalize subC X 0 a.len = P at e1 hP
    simp -implicitDefEqProofs (maxDischargeDepth:=12) only [WW,List.replicate,Option.some_or,s_conv,e_conv,s_slc3,e_cut3,e_cut3n,e_bns,e_bnn,if_true,if_false,ite_true,ite_false,true_or,ne_eq,seval,beq_self_eq_true,eq_self,exists_eq_left,exists_eq_left',P.enc_eq]
    generalize hNN : H.next = N at hN
    have fN : ∀ q ∈ f,q < N:=fun q hq => by rw [← hNN]; exact hA.lt noteC q (o2 q hq)
    have n0 : ¬ 0 = N:=by omega
    have n1 : ¬ 1 = N:=by omega
    have n2 : ¬ 2 = N:=by omega
    have n4 : ¬ 4 = N:=by omega
    simp -implicitDefEqProofs (maxDischargeDepth:=12) only [WW,List.replicate,Option.some_or,s_conv,e_conv,s_slc3,e_cut3,e_cut3n,e_bns,e_bnn,e_splice,if_true,if_false,ite_true,ite_false,true_or,ne_eq,seval,h_putc,beq_self_eq_true,eq_self,exists_eq_left,exists_eq_left',hNN,p0,p1,p2,n0,n1,n2,n4]
    rw [← X.enc_eq]
    refine wA_pure rfl (sub_pv X hX a.len (IntKind.i64.wrap (a.len + b.len))) ?_
    rw [s2]
    have hQ:=subC_tame hX (b:=a.len) (e:=IntKind.i64.wrap (a.len + b.len))
    generalize subC X a.len (IntKind.i64.wrap (a.len + b.len)) = Q at e2 hQ
    simp -implicitDefEqProofs (maxDischargeDepth:=12) only [WW,List.replicate,Option.some_or,s_conv,e_conv,s_slc3,e_cut3,e_cut3n,e_bns,e_bnn,if_true,if_false,ite_true,ite_false,true_or,ne_eq,seval,beq_self_eq_true,eq_self,exists_eq_left,exists_eq_left',Q.enc_eq]
    generalize hHb : AHeap.put (AHeap.alloc (AHeap.put _ _ _) _) _ _ = Hb
    have b0 : Hb.cells 0 = H.cells 0:=by subst hHb; simp -implicitDefEqProofs (maxDischargeDepth:=12) only [WW,List.replicate,Option.some_or,s_conv,e_conv,s_slc3,e_cut3,e_cut3n,e_bns,e_bnn,e_splice,if_true,if_false,ite_true,ite_false,true_or,ne_eq,seval,h_putc,beq_self_eq_true,eq_self,exists_eq_left,exists_eq_left',hNN,n0,show ¬ 0 = N + 1 by omega]
    have b1 : Hb.cells 1 = H.cells 1:=by subst hHb; simp -implicitDefEqProofs (maxDischargeDepth:=12) only [WW,List.replicate,Option.some_or,s_conv,e_conv,s_slc3,e_cut3,e_cut3n,e_bns,e_bnn,e_splice,if_true,if_false,ite_true,ite_false,true_or,ne_eq,seval,h_putc,beq_self_eq_true,eq_self,exists_eq_left,exists_eq_left',hNN,n1,show ¬ 1 = N + 1 by omega]
    have b2 : Hb.cells 2 = H.cells 2:=by subst hHb; simp -implicitDefEqProofs (maxDischargeDepth:=12) only [WW,List.replicate,Option.some_or,s_conv,e_conv,s_slc3,e_cut3,e_cut3n,e_bns,e_bnn,e_splice,if_true,if_false,ite_true,ite_false,true_or,ne_eq,seval,h_putc,beq_self_eq_true,eq_self,exists_eq_left,exists_eq_left',hNN,n2,show ¬ 2 = N + 1 by omega]
    have b4 : Hb.cells 4 = H.cells 4:=by subst hHb; simp -implicitDefEqProofs (maxDischargeDepth:=12) only [WW,List.replicate,Option.some_or,s_conv,e_conv,s_slc3,e_cut3,e_cut3n,e_bns,e_bnn,e_splice,if_true,if_false,ite_true,ite_false,true_or,ne_eq,seval,h_putc,beq_self_eq_true,eq_self,exists_eq_left,exists_eq_left',hNN,n4,show ¬ 4 = N + 1 by omega]
    have bN : Hb.cells N = some P.enc.cells:=by subst hHb; simp -implicitDefEqProofs (maxDischargeDepth:=12) only [WW,List.replicate,Option.some_or,s_conv,e_conv,s_slc3,e_cut3,e_cut3n,e_bns,e_bnn,e_splice,if_true,if_false,ite_true,ite_false,true_or,ne_eq,seval,h_putc,beq_self_eq_true,eq_self,exists_eq_left,exists_eq_left',hNN,nq1,P.enc_eq]
    have bM : Hb.cells (N + 1) = some Q.enc.cells:=by subst hHb; simp -implicitDefEqProofs (maxDischargeDepth:=12) only [WW,List.replicate,Option.some_or,s_conv,e_conv,s_slc3,e_cut3,e_cut3n,e_bns,e_bnn,e_splice,if_true,if_false,ite_true,ite_false,true_or,ne_eq,seval,h_putc,beq_self_eq_true,eq_self,exists_eq_left,exists_eq_left',hNN,Q.enc_eq]
    have oh : ∀ q,q < N→Hb.cells q = H.cells q:=fun q hq => by subst hHb; simp -implicitDefEqProofs (maxDischargeDepth:=12) only [WW,List.replicate,Option.some_or,s_conv,e_conv,s_slc3,e_cut3,e_cut3n,e_bns,e_bnn,e_splice,if_true,if_false,ite_true,ite_false,true_or,ne_eq,seval,h_putc,beq_self_eq_true,eq_self,exists_eq_left,exists_eq_left',hNN,show ¬ q = N by omega,show ¬ q = N + 1 by omega]
    clear hHb
    simp only [p0,p1,p2,p4] at b0 b1 b2 b4
    simp only [P.enc_eq,Q.enc_eq,c_agg] at bN bM
    simp -implicitDefEqProofs (maxDischargeDepth:=12) only [WW,List.replicate,Option.some_or,s_conv,e_conv,s_slc3,e_cut3,e_cut3n,e_bns,e_bnn,e_splice,if_true,if_false,ite_true,ite_false,true_or,ne_eq,seval,h_putc,beq_self_eq_true,eq_self,exists_eq_left,exists_eq_left',b2,b4,ho.1,ho.2,hNN]
    have oY : Own 20 Hb (.agg [.sc (.int .i64 (IntKind.i64.wrap (a.len + b.len))),v]) (Clip.enc ⟨IntKind.i64.wrap (a.len + b.len),some (joinL a b)⟩) ([] ++ (f ++ [])):=⟨_,rfl,.cons .scal (.cons ((o1.mono (by decide)).frame fun q hq => oh q (fN q hq)) .nil Apart.nil_right) Apart.nil_left⟩
    refine wA_own rfl (.cons (own_closed (d:=18) (cs:=X.enc.cells) (Clip.enc_plain X)) (.cons oY .nil Apart.nil_right) Apart.nil_left) (same_pv X ⟨IntKind.i64.wrap (a.len + b.len),some (joinL a b)⟩ hX.1 (chord_tames hX)) ?_
    rw [decide_eq_true (Clip.cn_iff.2 (by rw [hXd]; exact ⟨rfl,by rw [l_of]; rfl⟩))]
    simp -implicitDefEqProofs (maxDischargeDepth:=12) only [WW,List.replicate,Option.some_or,s_conv,e_conv,s_slc3,e_cut3,e_cut3n,e_bns,e_bnn,e_splice,if_true,if_false,ite_true,ite_false,true_or,ne_eq,seval,h_putc,beq_self_eq_true,eq_self,exists_eq_left,exists_eq_left',b2]
    rw [← X.enc_eq]
    refine wA_pure rfl (check_pv X hX) ?_
    rw [gX]
    simp -implicitDefEqProofs (maxDischargeDepth:=12) only [WW,List.replicate,Option.some_or,s_conv,e_conv,s_slc3,e_cut3,e_cut3n,e_bns,e_bnn,e_splice,if_true,if_false,ite_true,ite_false,true_or,ne_eq,seval,h_putc,beq_self_eq_true,eq_self,exists_eq_left,exists_eq_left',bN,b0]
    rw [← P.enc_eq,← a.enc_eq]
    refine wA_pure rfl (same_pv P a hP.1 (chord_tames hP)) ?_
    rw [decide_eq_true e1]
    simp -implicitDefEqProofs (maxDischargeDepth:=12) only [WW,List.replicate,Option.some_or,s_conv,e_conv,s_slc3,e_cut3,e_cut3n,e_bns,e_bnn,e_splice,if_true,if_false,ite_true,ite_false,true_or,ne_eq,seval,h_putc,beq_self_eq_true,eq_self,exists_eq_left,exists_eq_left',bM,b1]
    rw [← Q.enc_eq,← b.enc_eq]
    refine wA_pure rfl (same_pv Q b hQ.1 (chord_tames hQ)) ?_
    rw [decide_eq_true e2]
    simp -implicitDefEqProofs (maxDischargeDepth:=12) only [WW,List.replicate,Option.some_or,s_conv,e_conv,s_slc3,e_cut3,e_cut3n,e_bns,e_bnn,e_splice,if_true,if_false,ite_true,ite_false,true_or,ne_eq,seval,h_putc,beq_self_eq_true,eq_self,exists_eq_left,exists_eq_left']
    exact frz_sc
  obtain ⟨x,hx⟩ : ∃ x,b.notes.l[i]? = some x:=⟨_,List.getElem?_eq_getElem (by omega)⟩
  have e2 : IntKind.i64.wrap ((i : Int) + 1) = ((i + 1 : Nat) : Int):=by rw [w64 (by omega) (by have:=tb.1; omega)]; omega
  have hlt:=hA.lt noteC
  have n0 : ¬ 0 = H.next:=by omega
  have n4 : ¬ 4 = H.next:=by omega
  simp -implicitDefEqProofs (maxDischargeDepth:=12) only [WW,List.replicate,Option.some_or,s_conv,e_conv,s_slc3,e_cut3,e_cut3n,e_bns,e_bnn,e_splice,if_true,if_false,ite_true,ite_false,true_or,ne_eq,seval,h_putc,beq_self_eq_true,eq_self,exists_eq_left,exists_eq_left',c1,hx,x.enc_eq,p0,p1,p4,n0,n4]
  generalize hHc : AHeap.alloc (AHeap.put _ _ _) _ = Hc
  have nc : Hc.next = H.next + 2:=by subst hHc; simp only [AHeap.next_put,AHeap.next_alloc]
  have kc : ∀ b,b < H.next→Hc.cells b = H.cells b:=fun b hb => by subst hHc; rw [c_alloc_ne (by simp only [AHeap.next_put,AHeap.next_alloc]; omega),c_put_ne (by omega),c_put_ne (by omega),c_alloc_ne (by omega)]
  have cc:=congrArg (fun h => AHeap.cells h (H.next + 1)) hHc
  simp -implicitDefEqProofs (maxDischargeDepth:=12) only [WW,List.replicate,Option.some_or,s_conv,e_conv,s_slc3,e_cut3,e_cut3n,e_bns,e_bnn,e_splice,if_true,if_false,ite_true,ite_false,true_or,ne_eq,seval,h_putc,beq_self_eq_true,eq_self,exists_eq_left,exists_eq_left'] at cc
  replace cc:=cc.symm
  clear hHc
  refine wA_appQ noteC (H0:=H) hA (y:=x.shift a.len) (r:=(x.shift a.len).enc.cells) (g:=[]) (fun b hb => kc b (hlt b hb)) rfl (asrc_one cc rfl) ⟨rfl,rfl⟩ Apart.nil_right (by rw [l_some,List.length_append,List.length_map,List.length_take]; omega) ?_
  intro v' H8 fp' q1 q2 q3 q4 q5 q6
  have z8 : ∀ b,b < 5→b ≠ 3→H8.cells b = H.cells b:=fun b hb h3 => by rw [q3 b (fun h => by have:=hfp b h; omega) (by omega),kc b (by omega)]
  have y0:=(z8 0 (by omega) (by decide)).trans p0
  have y1:=(z8 1 (by omega) (by decide)).trans p1
  have y2:=(z8 2 (by omega) (by decide)).trans p2
  have y4:=(z8 4 (by omega) (by decide)).trans p4
  have g6 : ∀ b ∈ fp',b = 3 ∨ 5 ≤ b:=fun b hb => by
    rcases q4 b hb with h | h | h
    · exact hfp b h
    · simp at h
    · omega
  simp -implicitDefEqProofs (maxDischargeDepth:=12) only [WW,List.replicate,Option.some_or,s_conv,e_conv,s_slc3,e_cut3,e_cut3n,e_bns,e_bnn,if_true,if_false,ite_true,ite_false,true_or,ne_eq,seval,beq_self_eq_true,eq_self,exists_eq_left,exists_eq_left',y4,q5,q6,e2]
  refine ⟨k - 1,by omega,i + 1,v',fp',by omega,?_,?_,?_,?_,?_,g6,?_,ex_x rfl⟩
  · rw [c_put_ne (by decide)]; exact y0
  · rw [c_put_ne (by decide)]; exact y1
  · rw [c_put_ne (by decide)]; exact y2
  · rw [h_put_self y4]; rfl
  · rw [List.take_add_one,hx,List.map_append,← List.append_assoc]
    rw [l_some] at q1
    exact q1.fr noteC fun b hb => c_put_ne (by have:=g6 b hb; omega)
  · omega
end
end Go.Hem
