/- Walks. -/
import Derived.Test.YtipbkcegnkpcmaaWalks0
set_option maxRecDepth 10000
set_option maxHeartbeats 4000000
set_option linter.unusedSimpArgs false
set_option linter.unusedVariables false
namespace Go.Hem
noncomputable section
open Classical in
def sylE (s : Syllable) : Int:=if h : ∃ e : Int,Pv prog polS 84 [s.enc] (.sc (.int .i64 e)) then h.choose else 0
theorem sylE_pv {s : Syllable} (hs : s.text.size < 1000000) : Pv prog polS 84 [s.enc] (.sc (.int .i64 (sylE s))):=by
  have h:=syl_pv s hs
  unfold sylE
  rw [dif_pos h]
  exact h.choose_spec
def Syllable.absentB (s : Syllable) : Bool:=decide (s = ⟨⟨#[]⟩,0⟩)
theorem absent_pv (s : Syllable) : Pv prog polS 85 [s.enc] (.sc (.bool s.absentB)):=by
  refine Pv_of' ok85 (by simp only [AV.closedBs,Syllable.enc_closed,Bool.and_self]) ?_
  have e:=syl_eq (a:=s) (b:=⟨⟨#[]⟩,0⟩)
  simp -implicitDefEqProofs (maxDischargeDepth:=12) only [wpF,cf85,WW,List.replicate,Option.some_or,s_conv,e_conv,s_slc3,e_cut3,e_cut3n,e_bns,e_bnn,e_splice,if_true,if_false,ite_true,ite_false,true_or,ne_eq,seval,h_putc,beq_self_eq_true,eq_self,exists_eq_left,exists_eq_left',s.enc_eq,e]
  exact frz_sc
def lastE (l : List Syllable) : Int:=match l.getLast? with
  | some x => if x.absentB = true then 3 else 0
  | none => 0
def lyricsE (l : List Syllable) : Int:=if 4 < l.length then 9 else if firstE (l.map sylE) ≠ 0 then firstE (l.map sylE) else lastE l
theorem getLast_at' {α : Type} {l : List α} (h : 0 < l.length) : ∃ a,l.getLast? = some a∧l[l.length - 1]? = some a:=by
  obtain ⟨a,ha⟩ : ∃ a,l.getLast? = some a:=by
    cases e : l.getLast? with
    | none => rw [List.getLast?_eq_none_iff] at e; subst e; simp at h
    | some a => exact ⟨a,rfl⟩
  exact ⟨a,ha,getLast_at ha⟩
theorem lyrics_pv (s : Sl Syllable) (hs : s.l.length < 1000000) (ht : ∀ x ∈ s.l,x.text.size < 1000000) : Pv prog polS 64 [slm Syllable.enc s] (.sc (.int .i64 (lyricsE s.l))):=by
  refine Pv_of' ok64 (by simp only [AV.closedBs,closedB_slm Syllable.enc_closed,Bool.and_self]) ?_
  generalize hr : lyricsE s.l = r
  unfold lyricsE at hr
  by_cases h2 : 4 < s.l.length
  · rw [if_pos h2] at hr; subst hr
    have h2' : (4 : Int) < (s.l.length : Int):=by omega
    simp -implicitDefEqProofs (maxDischargeDepth:=12) only [wpF,cf64,WW,List.replicate,Option.some_or,s_conv,e_conv,s_slc3,e_cut3,e_cut3n,e_bns,e_bnn,e_splice,if_true,if_false,ite_true,ite_false,true_or,ne_eq,seval,h_putc,beq_self_eq_true,eq_self,exists_eq_left,exists_eq_left',h2']
    exact frz_sc
  rw [if_neg h2] at hr
  have h2' : ¬ (4 : Int) < (s.l.length : Int):=by omega
  simp -implicitDefEqProofs (maxDischargeDepth:=12) only [wpF,cf64,WW,List.replicate,Option.some_or,s_conv,e_conv,s_slc3,e_cut3,e_cut3n,e_bns,e_bnn,e_splice,if_true,if_false,ite_true,ite_false,true_or,ne_eq,seval,h_putc,beq_self_eq_true,eq_self,exists_eq_left,exists_eq_left',h2']
  refine wp_loop (Inv:=fun k t H => ∃ (i : Nat),i + k = s.l.length∧firstE ((s.l.drop i).map sylE) = firstE (s.l.map sylE) ∧
    ∃ x : Nat→AV,t = [slm Syllable.enc s,x 1,x 2,x 3,x 4,x 5,x 6,x 7,x 8,x 9,slm Syllable.enc s,.sc (.int .i64 s.l.length),.sc (.int .i64 i),x 13,x 14,x 15,x 16,x 17,x 18,x 19,x 20,x 21,x 22,x 23,x 24,x 25,x 26,x 27,x 28,x 29,x 30,x 31,x 32,x 33]) (k:=s.l.length) ?_
    ⟨0,by omega,rfl,ex_x rfl⟩
  rintro k t H ⟨i,hk,hf,x,rfl⟩
  by_cases c1 : (i : Int) < (s.l.length : Int)
  · obtain ⟨y,hy⟩ : ∃ y,s.l[i]? = some y:=⟨_,List.getElem?_eq_getElem (by omega)⟩
    have e2 : IntKind.i64.wrap ((i : Int) + 1) = ((i + 1 : Nat) : Int):=by rw [w64 (by omega) (by omega)]; omega
    rw [drop_cons hy,List.map_cons] at hf
    simp only [firstE] at hf
    simp -implicitDefEqProofs (maxDischargeDepth:=12) only [WW,List.replicate,Option.some_or,s_conv,e_conv,s_slc3,e_cut3,e_cut3n,e_bns,e_bnn,e_splice,if_true,if_false,ite_true,ite_false,true_or,ne_eq,seval,h_putc,beq_self_eq_true,eq_self,exists_eq_left,exists_eq_left',c1,hy,y.enc_eq]
    rw [← y.enc_eq]
    refine wA_pure rfl (sylE_pv (ht y (List.mem_of_getElem? hy))) ?_
    by_cases c2 : sylE y = 0
    · rw [if_pos c2] at hf
      simp -implicitDefEqProofs (maxDischargeDepth:=12) only [WW,List.replicate,Option.some_or,s_conv,e_conv,s_slc3,e_cut3,e_cut3n,e_bns,e_bnn,e_splice,if_true,if_false,ite_true,ite_false,true_or,ne_eq,seval,h_putc,beq_self_eq_true,eq_self,exists_eq_left,exists_eq_left',c2,e2]
      exact ⟨k - 1,by omega,i + 1,by omega,hf,ex_x rfl⟩
    · rw [if_neg c2] at hf
      rw [← hf,if_pos c2] at hr; subst hr
      simp -implicitDefEqProofs (maxDischargeDepth:=12) only [WW,List.replicate,Option.some_or,s_conv,e_conv,s_slc3,e_cut3,e_cut3n,e_bns,e_bnn,e_splice,if_true,if_false,ite_true,ite_false,true_or,ne_eq,seval,h_putc,beq_self_eq_true,eq_self,exists_eq_left,exists_eq_left',c2]
      exact frz_sc
  · rw [drop_end c1] at hf
    have hf0 : firstE (s.l.map sylE) = 0:=hf.symm
    rw [hf0,if_neg (by simp)] at hr
    by_cases h0 : 0 < s.l.length
    · obtain ⟨a,ha,hat⟩:=getLast_at' h0
      have hr' : (if a.absentB = true then (3 : Int) else 0) = r:=by rw [← hr]; unfold lastE; rw [ha]
      have ei : IntKind.i64.wrap ((s.l.length : Int) - 1) = ((s.l.length - 1 : Nat) : Int):=by rw [w64 (by omega) (by omega)]; omega
      have h0' : (0 : Int) < (s.l.length : Int):=by omega
      simp -implicitDefEqProofs (maxDischargeDepth:=12) only [WW,List.replicate,Option.some_or,s_conv,e_conv,s_slc3,e_cut3,e_cut3n,e_bns,e_bnn,e_splice,if_true,if_false,ite_true,ite_false,true_or,ne_eq,seval,h_putc,beq_self_eq_true,eq_self,exists_eq_left,exists_eq_left',c1,h0',ei,hat,a.enc_eq]
      rw [← a.enc_eq]
      refine wA_pure rfl (absent_pv a) ?_
      cases hab : a.absentB with
      | true =>
        rw [hab,if_pos rfl] at hr'; subst hr'
        simp -implicitDefEqProofs (maxDischargeDepth:=12) only [WW,List.replicate,Option.some_or,s_conv,e_conv,s_slc3,e_cut3,e_cut3n,e_bns,e_bnn,e_splice,if_true,if_false,ite_true,ite_false,true_or,ne_eq,seval,h_putc,beq_self_eq_true,eq_self,exists_eq_left,exists_eq_left']
        exact frz_sc
      | false =>
        rw [hab,if_neg (by simp)] at hr'; subst hr'
        simp -implicitDefEqProofs (maxDischargeDepth:=12) only [WW,List.replicate,Option.some_or,s_conv,e_conv,s_slc3,e_cut3,e_cut3n,e_bns,e_bnn,e_splice,if_true,if_false,ite_true,ite_false,true_or,ne_eq,seval,h_putc,beq_self_eq_true,eq_self,exists_eq_left,exists_eq_left']
        exact frz_sc
    · have hl : s.l = []:=List.length_eq_zero_iff.1 (by omega)
      have h0' : ¬ (0 : Int) < (s.l.length : Int):=by omega
      rw [hl] at hr
      have hr' : (0 : Int) = r:=hr
      subst hr'
      simp -implicitDefEqProofs (maxDischargeDepth:=12) only [WW,List.replicate,Option.some_or,s_conv,e_conv,s_slc3,e_cut3,e_cut3n,e_bns,e_bnn,e_splice,if_true,if_false,ite_true,ite_false,true_or,ne_eq,seval,h_putc,beq_self_eq_true,eq_self,exists_eq_left,exists_eq_left',c1,h0']
      exact frz_sc
def chordE (x : Note) : Int :=
  if firstE [headsE x.heads.l,gracesE x.graces.l,lyricsE x.lyrics.l] ≠ 0 then firstE [headsE x.heads.l,gracesE x.graces.l,lyricsE x.lyrics.l]
  else firstE [within x.articulations 31,within x.ornament 4,within x.dynamic 9,within 0 2,within 0 2]
theorem exists_pv : Pv prog polS 58 [.sc (.int .i64 1)] (.sc (.bool true)):=by
  refine Pv_of' ok58 rfl ?_
  simp -implicitDefEqProofs (maxDischargeDepth:=12) only [wpF,cf58,WW,List.replicate,Option.some_or,s_conv,e_conv,s_slc3,e_cut3,e_cut3n,e_bns,e_bnn,e_splice,if_true,if_false,ite_true,ite_false,true_or,ne_eq,seval,h_putc,beq_self_eq_true,eq_self,exists_eq_left,exists_eq_left']
  exact frz_sc
theorem dur_pv : Pv prog polS 61 [.agg [.sc (.int .i64 0),.sc (.int .i64 0)]] (.sc (.int .i64 0)):=by
  refine Pv_of' ok61 rfl ?_
  simp -implicitDefEqProofs (maxDischargeDepth:=12) only [wpF,cf61,WW,List.replicate,Option.some_or,s_conv,e_conv,s_slc3,e_cut3,e_cut3n,e_bns,e_bnn,e_splice,if_true,if_false,ite_true,ite_false,true_or,ne_eq,seval,h_putc,beq_self_eq_true,eq_self,exists_eq_left,exists_eq_left']
  exact frz_sc
theorem strip_pv (x : Note) : Pv prog polS 60 [x.chord.enc] x.chord.enc:=by
  refine Pv_of' ok60 (by simp only [AV.closedBs,Event.enc_closed,Bool.and_self]) ?_
  have ec : x.chord.enc = .agg [.sc (.int .i64 0),.sc (.int .i64 0),.sc (.int .i64 1),.sc (.int .i64 0),.sc (.int .i64 0),slm Head.enc x.heads,slm Grace.enc x.graces,.sc (.int .i64 x.articulations),.sc (.int .i64 x.ornament),.sc (.int .i64 x.dynamic),slm Syllable.enc x.lyrics,.sc (.int .i64 0),.sc (.int .i64 0)]:=rfl
  have hp : AV.plain x.chord.enc = true:=Event.enc_plain x.chord
  rw [ec] at hp
  simp -implicitDefEqProofs (maxDischargeDepth:=12) only [wpF,cf60,WW,List.replicate,Option.some_or,s_conv,e_conv,s_slc3,e_cut3,e_cut3n,e_bns,e_bnn,e_splice,if_true,if_false,ite_true,ite_false,true_or,ne_eq,seval,h_putc,beq_self_eq_true,eq_self,exists_eq_left,exists_eq_left',ec]
  exact frz_plain rfl hp
theorem echeck_pv (x : Note) (tx : x.tame) : Pv prog polS 31 [x.chord.enc] (.sc (.int .i64 (chordE x))):=by
  refine Pv_of' ok31 (by simp only [AV.closedBs,Event.enc_closed,Bool.and_self]) ?_
  generalize hr : chordE x = r
  unfold chordE at hr
  have ec : x.chord.enc = .agg [.sc (.int .i64 0),.sc (.int .i64 0),.sc (.int .i64 1),.sc (.int .i64 0),.sc (.int .i64 0),slm Head.enc x.heads,slm Grace.enc x.graces,.sc (.int .i64 x.articulations),.sc (.int .i64 x.ornament),.sc (.int .i64 x.dynamic),slm Syllable.enc x.lyrics,.sc (.int .i64 0),.sc (.int .i64 0)]:=rfl
  have w0 : within 0 99 = 0:=rfl
  have w1 : within 0 1073741824 = 0:=rfl
  have f0 : firstE [0,0] = 0:=rfl
  simp -implicitDefEqProofs (maxDischargeDepth:=12) only [wpF,cf31,WW,List.replicate,Option.some_or,s_conv,e_conv,s_slc3,e_cut3,e_cut3n,e_bns,e_bnn,e_splice,if_true,if_false,ite_true,ite_false,true_or,ne_eq,seval,h_putc,beq_self_eq_true,eq_self,exists_eq_left,exists_eq_left',ec]
  refine wA_pure rfl (within_pv _ _) ?_
  simp -implicitDefEqProofs (maxDischargeDepth:=12) only [WW,List.replicate,Option.some_or,s_conv,e_conv,s_slc3,e_cut3,e_cut3n,e_bns,e_bnn,e_splice,if_true,if_false,ite_true,ite_false,true_or,ne_eq,seval,h_putc,beq_self_eq_true,eq_self,exists_eq_left,exists_eq_left',ec]
  refine wA_pure rfl (within_pv _ _) ?_
  simp -implicitDefEqProofs (maxDischargeDepth:=12) only [WW,List.replicate,Option.some_or,s_conv,e_conv,s_slc3,e_cut3,e_cut3n,e_bns,e_bnn,e_splice,if_true,if_false,ite_true,ite_false,true_or,ne_eq,seval,h_putc,beq_self_eq_true,eq_self,exists_eq_left,exists_eq_left',ec,w0,w1]
  refine wA_first (l:=[0,0]) rfl ?_ (by simp) ?_
  · simp -implicitDefEqProofs (maxDischargeDepth:=12) only [WW,List.replicate,Option.some_or,s_conv,e_conv,s_slc3,e_cut3,e_cut3n,e_bns,e_bnn,e_splice,if_true,if_false,ite_true,ite_false,true_or,ne_eq,seval,h_putc,beq_self_eq_true,eq_self,exists_eq_left,exists_eq_left']; rfl
  simp -implicitDefEqProofs (maxDischargeDepth:=12) only [WW,List.replicate,Option.some_or,s_conv,e_conv,s_slc3,e_cut3,e_cut3n,e_bns,e_bnn,e_splice,if_true,if_false,ite_true,ite_false,true_or,ne_eq,seval,h_putc,beq_self_eq_true,eq_self,exists_eq_left,exists_eq_left',ec,f0]
  refine wA_pure rfl exists_pv ?_
  simp -implicitDefEqProofs (maxDischargeDepth:=12) only [WW,List.replicate,Option.some_or,s_conv,e_conv,s_slc3,e_cut3,e_cut3n,e_bns,e_bnn,e_splice,if_true,if_false,ite_true,ite_false,true_or,ne_eq,seval,h_putc,beq_self_eq_true,eq_self,exists_eq_left,exists_eq_left',ec]
  rw [← ec]
  refine wA_pure rfl (strip_pv x) ?_
  simp -implicitDefEqProofs (maxDischargeDepth:=12) only [WW,List.replicate,Option.some_or,s_conv,e_conv,s_slc3,e_cut3,e_cut3n,e_bns,e_bnn,e_splice,if_true,if_false,ite_true,ite_false,true_or,ne_eq,seval,h_putc,beq_self_eq_true,eq_self,exists_eq_left,exists_eq_left',ec]
  rw [← ec]
  refine wA_pure rfl (eSame_pv x.chord x.chord (Note.chord_tame tx)) ?_
  have es : decide (x.chord.noid = x.chord.noid) = true:=decide_eq_true rfl
  simp -implicitDefEqProofs (maxDischargeDepth:=12) only [WW,List.replicate,Option.some_or,s_conv,e_conv,s_slc3,e_cut3,e_cut3n,e_bns,e_bnn,e_splice,if_true,if_false,ite_true,ite_false,true_or,ne_eq,seval,h_putc,beq_self_eq_true,eq_self,exists_eq_left,exists_eq_left',ec,es]
  refine wA_pure rfl dur_pv ?_
  simp -implicitDefEqProofs (maxDischargeDepth:=12) only [WW,List.replicate,Option.some_or,s_conv,e_conv,s_slc3,e_cut3,e_cut3n,e_bns,e_bnn,e_splice,if_true,if_false,ite_true,ite_false,true_or,ne_eq,seval,h_putc,beq_self_eq_true,eq_self,exists_eq_left,exists_eq_left',ec]
  refine wA_pure rfl (heads_pv x.heads tx.heads) ?_
  simp -implicitDefEqProofs (maxDischargeDepth:=12) only [WW,List.replicate,Option.some_or,s_conv,e_conv,s_slc3,e_cut3,e_cut3n,e_bns,e_bnn,e_splice,if_true,if_false,ite_true,ite_false,true_or,ne_eq,seval,h_putc,beq_self_eq_true,eq_self,exists_eq_left,exists_eq_left',ec]
  refine wA_pure rfl (graces_pv x.graces tx.graces) ?_
  simp -implicitDefEqProofs (maxDischargeDepth:=12) only [WW,List.replicate,Option.some_or,s_conv,e_conv,s_slc3,e_cut3,e_cut3n,e_bns,e_bnn,e_splice,if_true,if_false,ite_true,ite_false,true_or,ne_eq,seval,h_putc,beq_self_eq_true,eq_self,exists_eq_left,exists_eq_left',ec]
  refine wA_pure rfl (lyrics_pv x.lyrics tx.lyrics tx.text) ?_
  simp -implicitDefEqProofs (maxDischargeDepth:=12) only [WW,List.replicate,Option.some_or,s_conv,e_conv,s_slc3,e_cut3,e_cut3n,e_bns,e_bnn,e_splice,if_true,if_false,ite_true,ite_false,true_or,ne_eq,seval,h_putc,beq_self_eq_true,eq_self,exists_eq_left,exists_eq_left',ec]
  refine wA_first (l:=[headsE x.heads.l,gracesE x.graces.l,lyricsE x.lyrics.l]) rfl ?_ (by simp) ?_
  · simp -implicitDefEqProofs (maxDischargeDepth:=12) only [WW,List.replicate,Option.some_or,s_conv,e_conv,s_slc3,e_cut3,e_cut3n,e_bns,e_bnn,e_splice,if_true,if_false,ite_true,ite_false,true_or,ne_eq,seval,h_putc,beq_self_eq_true,eq_self,exists_eq_left,exists_eq_left']; rfl
  generalize firstE [headsE x.heads.l,gracesE x.graces.l,lyricsE x.lyrics.l] = e at hr ⊢
  by_cases he : e = 0
  rotate_left
  · rw [if_pos he] at hr; subst hr
    simp -implicitDefEqProofs (maxDischargeDepth:=12) only [WW,List.replicate,Option.some_or,s_conv,e_conv,s_slc3,e_cut3,e_cut3n,e_bns,e_bnn,e_splice,if_true,if_false,ite_true,ite_false,true_or,ne_eq,seval,h_putc,beq_self_eq_true,eq_self,exists_eq_left,exists_eq_left',he]
    exact frz_sc
  rw [if_neg (by simpa using he)] at hr
  simp -implicitDefEqProofs (maxDischargeDepth:=12) only [WW,List.replicate,Option.some_or,s_conv,e_conv,s_slc3,e_cut3,e_cut3n,e_bns,e_bnn,e_splice,if_true,if_false,ite_true,ite_false,true_or,ne_eq,seval,h_putc,beq_self_eq_true,eq_self,exists_eq_left,exists_eq_left',ec,eq_true he]
  refine wA_pure rfl (within_pv _ _) ?_
  simp -implicitDefEqProofs (maxDischargeDepth:=12) only [WW,List.replicate,Option.some_or,s_conv,e_conv,s_slc3,e_cut3,e_cut3n,e_bns,e_bnn,e_splice,if_true,if_false,ite_true,ite_false,true_or,ne_eq,seval,h_putc,beq_self_eq_true,eq_self,exists_eq_left,exists_eq_left',ec]
  refine wA_pure rfl (within_pv _ _) ?_
  simp -implicitDefEqProofs (maxDischargeDepth:=12) only [WW,List.replicate,Option.some_or,s_conv,e_conv,s_slc3,e_cut3,e_cut3n,e_bns,e_bnn,e_splice,if_true,if_false,ite_true,ite_false,true_or,ne_eq,seval,h_putc,beq_self_eq_true,eq_self,exists_eq_left,exists_eq_left',ec]
  refine wA_pure rfl (within_pv _ _) ?_
  simp -implicitDefEqProofs (maxDischargeDepth:=12) only [WW,List.replicate,Option.some_or,s_conv,e_conv,s_slc3,e_cut3,e_cut3n,e_bns,e_bnn,e_splice,if_true,if_false,ite_true,ite_false,true_or,ne_eq,seval,h_putc,beq_self_eq_true,eq_self,exists_eq_left,exists_eq_left',ec]
  refine wA_pure rfl (within_pv _ _) ?_
  simp -implicitDefEqProofs (maxDischargeDepth:=12) only [WW,List.replicate,Option.some_or,s_conv,e_conv,s_slc3,e_cut3,e_cut3n,e_bns,e_bnn,e_splice,if_true,if_false,ite_true,ite_false,true_or,ne_eq,seval,h_putc,beq_self_eq_true,eq_self,exists_eq_left,exists_eq_left',ec]
  refine wA_pure rfl (within_pv _ _) ?_
  simp -implicitDefEqProofs (maxDischargeDepth:=12) only [WW,List.replicate,Option.some_or,s_conv,e_conv,s_slc3,e_cut3,e_cut3n,e_bns,e_bnn,e_splice,if_true,if_false,ite_true,ite_false,true_or,ne_eq,seval,h_putc,beq_self_eq_true,eq_self,exists_eq_left,exists_eq_left',ec]
  refine wA_first (l:=[within x.articulations 31,within x.ornament 4,within x.dynamic 9,within 0 2,within 0 2]) rfl ?_ (by simp) ?_
  · simp -implicitDefEqProofs (maxDischargeDepth:=12) only [WW,List.replicate,Option.some_or,s_conv,e_conv,s_slc3,e_cut3,e_cut3n,e_bns,e_bnn,e_splice,if_true,if_false,ite_true,ite_false,true_or,ne_eq,seval,h_putc,beq_self_eq_true,eq_self,exists_eq_left,exists_eq_left']; rfl
  rw [hr]
  simp -implicitDefEqProofs (maxDischargeDepth:=12) only [WW,List.replicate,Option.some_or,s_conv,e_conv,s_slc3,e_cut3,e_cut3n,e_bns,e_bnn,e_splice,if_true,if_false,ite_true,ite_false,true_or,ne_eq,seval,h_putc,beq_self_eq_true,eq_self,exists_eq_left,exists_eq_left',ec]
  exact frz_sc
end
end Go.Hem
namespace Go.Hem
noncomputable section
def outR (len : Int) (n : Note) : Prop:=n.at_ < 0 ∨ n.len < 1 ∨ len < n.at_ ∨ IntKind.i64.wrap (len - n.at_) < n.len
instance (len : Int) (n : Note) : Decidable (outR len n):=by unfold outR; exact inferInstance
def early (p : Option Note) (n : Note) : Prop:=match p with
  | some m => n.at_ < m.fin
  | none => False
instance (p : Option Note) (n : Note) : Decidable (early p n):=by unfold early; split <;> exact inferInstance
def checkL (len : Int) : Option Note→List Note→Int
  | _,[] => 0
  | p,n :: t => if outR len n then 2 else if early p n then 25 else if chordE n ≠ 0 then chordE n else checkL len (some n) t
def prevAt (l : List Note) (i : Nat) : Option Note:=if i = 0 then none else l[i - 1]?
theorem prev_succ {l : List Note} {i : Nat} {n : Note} (h : l[i]? = some n) : prevAt l (i + 1) = some n:=by
  unfold prevAt; rw [if_neg (by omega),Nat.add_sub_cancel,h]
def checkE (c : Clip) : Int :=
  if c.len < 0 ∨ 123863040 < c.len then 5 else if 4096 < c.notes.l.length then 9 else if checkL c.len none c.notes.l ≠ 0 then checkL c.len none c.notes.l
  else if (tidyP c.notes.l).map Note.cn = c.notes.l.map Note.cn then 0 else 22
theorem untieN_tame {n : Note} {nx : Option Note} (h : n.tame) : (untieN n nx).tame:=by
  rw [← untieTo_all (j:=n.heads.l.length) (by omega)]; exact untieTo_tame h
theorem untie_tame : ∀ {l : List Note},(∀ y ∈ l,y.tame)→∀ y ∈ untie l,y.tame
  | [],_,y,hy => by simp [untie] at hy
  | n :: t,h,y,hy => by
    simp only [untie,List.mem_cons] at hy
    rcases hy with rfl | hy
    · exact untieN_tame (h n (by simp))
    · exact untie_tame (fun y hy => h y (by simp [hy])) y hy
theorem tidyP_tame {l : List Note} (h : ∀ y ∈ l,y.tame) : (∀ y ∈ tidyP l,y.tame)∧(tidyP l).length ≤ l.length:=by
  obtain ⟨a,b⟩:=fold_tame h [] (by simp)
  refine ⟨untie_tame a,?_⟩
  unfold tidyP
  rw [untie_len]; simpa using b
theorem check_pv (c : Clip) (tc : c.tame) : Pv prog polS 16 [c.enc] (.sc (.int .i64 (checkE c))):=by
  refine Pv_of' ok16 (by simp only [AV.closedBs,Clip.enc_closed,Bool.and_self]) ?_
  obtain ⟨t1,t2⟩:=tc
  generalize hr : checkE c = r
  unfold checkE at hr
  by_cases b1 : c.len < 0
  · rw [if_pos (.inl b1)] at hr; subst hr
    simp -implicitDefEqProofs (maxDischargeDepth:=12) only [wpF,cf16,WW,List.replicate,Option.some_or,s_conv,e_conv,s_slc3,e_cut3,e_cut3n,e_bns,e_bnn,e_splice,if_true,if_false,ite_true,ite_false,true_or,ne_eq,seval,h_putc,beq_self_eq_true,eq_self,exists_eq_left,exists_eq_left',c.enc_eq,b1]
    exact frz_sc
  by_cases b2 : 123863040 < c.len
  · rw [if_pos (.inr b2)] at hr; subst hr
    simp -implicitDefEqProofs (maxDischargeDepth:=12) only [wpF,cf16,WW,List.replicate,Option.some_or,s_conv,e_conv,s_slc3,e_cut3,e_cut3n,e_bns,e_bnn,e_splice,if_true,if_false,ite_true,ite_false,true_or,ne_eq,seval,h_putc,beq_self_eq_true,eq_self,exists_eq_left,exists_eq_left',c.enc_eq,b1,b2]
    exact frz_sc
  rw [if_neg (by rintro (h | h) <;> contradiction)] at hr
  by_cases b3 : 4096 < c.notes.l.length
  · rw [if_pos b3] at hr; subst hr
    have b3' : (4096 : Int) < (c.notes.l.length : Int):=by omega
    simp -implicitDefEqProofs (maxDischargeDepth:=12) only [wpF,cf16,WW,List.replicate,Option.some_or,s_conv,e_conv,s_slc3,e_cut3,e_cut3n,e_bns,e_bnn,e_splice,if_true,if_false,ite_true,ite_false,true_or,ne_eq,seval,h_putc,beq_self_eq_true,eq_self,exists_eq_left,exists_eq_left',c.enc_eq,b1,b2,b3']
    exact frz_sc
  rw [if_neg b3] at hr
  have b3' : ¬ (4096 : Int) < (c.notes.l.length : Int):=by omega
  simp -implicitDefEqProofs (maxDischargeDepth:=12) only [wpF,cf16,WW,List.replicate,Option.some_or,s_conv,e_conv,s_slc3,e_cut3,e_cut3n,e_bns,e_bnn,e_splice,if_true,if_false,ite_true,ite_false,true_or,ne_eq,seval,h_putc,beq_self_eq_true,eq_self,exists_eq_left,exists_eq_left',c.enc_eq,b1,b2,b3']
  refine wp_loop (Inv:=fun k t H => ∃ (i : Nat),i + k = c.notes.l.length∧checkL c.len (prevAt c.notes.l i) (c.notes.l.drop i) = checkL c.len none c.notes.l∧H.cells 0 = some c.enc.cells∧1 ≤ H.next ∧
    ∃ x : Nat→AV,t = [c.enc,.ptr 0 0,x 2,x 3,x 4,x 5,x 6,x 7,x 8,x 9,x 10,x 11,x 12,x 13,x 14,x 15,x 16,x 17,x 18,slm Note.enc c.notes,.sc (.int .i64 c.notes.l.length),.sc (.int .i64 i),x 22,x 23,x 24,x 25,x 26,x 27,x 28,x 29,x 30,x 31,x 32,x 33,x 34,x 35,x 36,x 37,x 38,x 39,x 40,x 41,x 42,x 43,x 44,x 45,x 46,x 47,x 48,x 49,x 50,x 51,x 52,x 53,x 54,x 55,x 56,x 57,x 58,x 59,x 60,x 61,x 62,x 63,x 64,x 65,x 66,x 67,x 68,x 69,x 70,x 71,x 72,x 73,x 74,x 75,x 76,x 77,x 78]) (k:=c.notes.l.length) ?_
    ⟨0,by omega,rfl,?_,by simp,ex_x rfl⟩
  rotate_left
  · simp -implicitDefEqProofs (maxDischargeDepth:=12) only [WW,List.replicate,Option.some_or,s_conv,e_conv,s_slc3,e_cut3,e_cut3n,e_bns,e_bnn,e_splice,if_true,if_false,ite_true,ite_false,true_or,ne_eq,seval,h_putc,beq_self_eq_true,eq_self,exists_eq_left,exists_eq_left']; rfl
  rintro k t H ⟨i,hk,hf,hA,hN,x,rfl⟩
  simp only [c.enc_eq,c_agg] at hA
  by_cases c1 : (i : Int) < (c.notes.l.length : Int)
  · obtain ⟨y,hy⟩ : ∃ y,c.notes.l[i]? = some y:=⟨_,List.getElem?_eq_getElem (by omega)⟩
    have ty:=t2 y (List.mem_of_getElem? hy)
    have e2 : IntKind.i64.wrap ((i : Int) + 1) = ((i + 1 : Nat) : Int):=by rw [w64 (by omega) (by omega)]; omega
    have q0 : ¬ 0 = H.next:=by omega
    have q1 : ¬ H.next = 0:=by omega
    rw [drop_cons hy] at hf
    simp only [checkL] at hf
    generalize hrr : checkL c.len none c.notes.l = rr at hf hr
    have hrr2 : rr ≠ 0→r = rr:=fun h => by rw [if_pos h] at hr; exact hr.symm
    by_cases c3 : y.at_ < 0
    · rw [if_pos (.inl c3)] at hf; rw [hrr2 (by rw [← hf]; decide),← hf]
      simp -implicitDefEqProofs (maxDischargeDepth:=12) only [WW,List.replicate,Option.some_or,s_conv,e_conv,s_slc3,e_cut3,e_cut3n,e_bns,e_bnn,e_splice,if_true,if_false,ite_true,ite_false,true_or,ne_eq,seval,h_putc,beq_self_eq_true,eq_self,exists_eq_left,exists_eq_left',hA,c1,hy,y.enc_eq,q0,q1,c3]
      exact frz_sc
    by_cases c4 : y.len < 1
    · rw [if_pos (.inr (.inl c4))] at hf; rw [hrr2 (by rw [← hf]; decide),← hf]
      simp -implicitDefEqProofs (maxDischargeDepth:=12) only [WW,List.replicate,Option.some_or,s_conv,e_conv,s_slc3,e_cut3,e_cut3n,e_bns,e_bnn,e_splice,if_true,if_false,ite_true,ite_false,true_or,ne_eq,seval,h_putc,beq_self_eq_true,eq_self,exists_eq_left,exists_eq_left',hA,c1,hy,y.enc_eq,q0,q1,c3,c4]
      exact frz_sc
    by_cases c5 : c.len < y.at_
    · rw [if_pos (.inr (.inr (.inl c5)))] at hf; rw [hrr2 (by rw [← hf]; decide),← hf]
      simp -implicitDefEqProofs (maxDischargeDepth:=12) only [WW,List.replicate,Option.some_or,s_conv,e_conv,s_slc3,e_cut3,e_cut3n,e_bns,e_bnn,e_splice,if_true,if_false,ite_true,ite_false,true_or,ne_eq,seval,h_putc,beq_self_eq_true,eq_self,exists_eq_left,exists_eq_left',hA,c1,hy,y.enc_eq,q0,q1,c3,c4,c5]
      exact frz_sc
    by_cases c6 : IntKind.i64.wrap (c.len - y.at_) < y.len
    · rw [if_pos (.inr (.inr (.inr c6)))] at hf; rw [hrr2 (by rw [← hf]; decide),← hf]
      simp -implicitDefEqProofs (maxDischargeDepth:=12) only [WW,List.replicate,Option.some_or,s_conv,e_conv,s_slc3,e_cut3,e_cut3n,e_bns,e_bnn,e_splice,if_true,if_false,ite_true,ite_false,true_or,ne_eq,seval,h_putc,beq_self_eq_true,eq_self,exists_eq_left,exists_eq_left',hA,c1,hy,y.enc_eq,q0,q1,c3,c4,c5,c6]
      exact frz_sc
    rw [if_neg (by unfold outR; rintro (h | h | h | h) <;> contradiction)] at hf
    by_cases i0 : (0 : Int) < (i : Int)
    · obtain ⟨m,hm⟩ : ∃ y,c.notes.l[i - 1]? = some y:=⟨_,List.getElem?_eq_getElem (by omega)⟩
      have hp : prevAt c.notes.l i = some m:=by unfold prevAt; rw [if_neg (by omega),hm]
      have em : IntKind.i64.wrap ((i : Int) - 1) = ((i - 1 : Nat) : Int):=by rw [w64 (by omega) (by omega)]; omega
      rw [hp] at hf
      simp -implicitDefEqProofs (maxDischargeDepth:=12) only [WW,List.replicate,Option.some_or,s_conv,e_conv,s_slc3,e_cut3,e_cut3n,e_bns,e_bnn,e_splice,if_true,if_false,ite_true,ite_false,true_or,ne_eq,seval,h_putc,beq_self_eq_true,eq_self,exists_eq_left,exists_eq_left',hA,c1,hy,y.enc_eq,q0,q1,c3,c4,c5,c6,i0,em,hm,m.enc_eq]
      rw [← m.enc_eq]
      refine wA_pure rfl (end_pv m) ?_
      by_cases c7 : y.at_ < m.fin
      · rw [if_pos (show early (some m) y from c7)] at hf
        rw [hrr2 (by rw [← hf]; decide),← hf]
        simp -implicitDefEqProofs (maxDischargeDepth:=12) only [WW,List.replicate,Option.some_or,s_conv,e_conv,s_slc3,e_cut3,e_cut3n,e_bns,e_bnn,e_splice,if_true,if_false,ite_true,ite_false,true_or,ne_eq,seval,h_putc,beq_self_eq_true,eq_self,exists_eq_left,exists_eq_left',hA,q0,q1,c7]
        exact frz_sc
      rw [if_neg (show ¬ early (some m) y from c7)] at hf
      simp -implicitDefEqProofs (maxDischargeDepth:=12) only [WW,List.replicate,Option.some_or,s_conv,e_conv,s_slc3,e_cut3,e_cut3n,e_bns,e_bnn,e_splice,if_true,if_false,ite_true,ite_false,true_or,ne_eq,seval,h_putc,beq_self_eq_true,eq_self,exists_eq_left,exists_eq_left',hA,q0,q1,c7]
      rw [← y.enc_eq]
      refine wA_pure rfl (chord_pv y ty) ?_
      simp -implicitDefEqProofs (maxDischargeDepth:=12) only [WW,List.replicate,Option.some_or,s_conv,e_conv,s_slc3,e_cut3,e_cut3n,e_bns,e_bnn,e_splice,if_true,if_false,ite_true,ite_false,true_or,ne_eq,seval,h_putc,beq_self_eq_true,eq_self,exists_eq_left,exists_eq_left']
      refine wA_pure rfl (echeck_pv y ty) ?_
      by_cases c8 : chordE y = 0
      · rw [if_neg (by simpa using c8)] at hf
        simp -implicitDefEqProofs (maxDischargeDepth:=12) only [WW,List.replicate,Option.some_or,s_conv,e_conv,s_slc3,e_cut3,e_cut3n,e_bns,e_bnn,e_splice,if_true,if_false,ite_true,ite_false,true_or,ne_eq,seval,h_putc,beq_self_eq_true,eq_self,exists_eq_left,exists_eq_left',c8,e2]
        exact ⟨k - 1,by omega,i + 1,by omega,by rw [prev_succ hy]; exact hf,by rw [if_neg q0,if_neg q0,hA]; rfl,ex_x rfl⟩
      · rw [if_pos c8] at hf
        rw [hrr2 (by rw [← hf]; exact c8),← hf]
        simp -implicitDefEqProofs (maxDischargeDepth:=12) only [WW,List.replicate,Option.some_or,s_conv,e_conv,s_slc3,e_cut3,e_cut3n,e_bns,e_bnn,e_splice,if_true,if_false,ite_true,ite_false,true_or,ne_eq,seval,h_putc,beq_self_eq_true,eq_self,exists_eq_left,exists_eq_left',c8]
        exact frz_sc
    · have hp : prevAt c.notes.l i = none:=by unfold prevAt; rw [if_pos (by omega)]
      rw [hp,if_neg (show ¬ early none y from fun h => h)] at hf
      simp -implicitDefEqProofs (maxDischargeDepth:=12) only [WW,List.replicate,Option.some_or,s_conv,e_conv,s_slc3,e_cut3,e_cut3n,e_bns,e_bnn,e_splice,if_true,if_false,ite_true,ite_false,true_or,ne_eq,seval,h_putc,beq_self_eq_true,eq_self,exists_eq_left,exists_eq_left',hA,c1,hy,y.enc_eq,q0,q1,c3,c4,c5,c6,i0]
      rw [← y.enc_eq]
      refine wA_pure rfl (chord_pv y ty) ?_
      simp -implicitDefEqProofs (maxDischargeDepth:=12) only [WW,List.replicate,Option.some_or,s_conv,e_conv,s_slc3,e_cut3,e_cut3n,e_bns,e_bnn,e_splice,if_true,if_false,ite_true,ite_false,true_or,ne_eq,seval,h_putc,beq_self_eq_true,eq_self,exists_eq_left,exists_eq_left']
      refine wA_pure rfl (echeck_pv y ty) ?_
      by_cases c8 : chordE y = 0
      · rw [if_neg (by simpa using c8)] at hf
        simp -implicitDefEqProofs (maxDischargeDepth:=12) only [WW,List.replicate,Option.some_or,s_conv,e_conv,s_slc3,e_cut3,e_cut3n,e_bns,e_bnn,e_splice,if_true,if_false,ite_true,ite_false,true_or,ne_eq,seval,h_putc,beq_self_eq_true,eq_self,exists_eq_left,exists_eq_left',c8,e2]
        exact ⟨k - 1,by omega,i + 1,by omega,by rw [prev_succ hy]; exact hf,by rw [if_neg q0,if_neg q0,hA]; rfl,ex_x rfl⟩
      · rw [if_pos c8] at hf
        rw [hrr2 (by rw [← hf]; exact c8),← hf]
        simp -implicitDefEqProofs (maxDischargeDepth:=12) only [WW,List.replicate,Option.some_or,s_conv,e_conv,s_slc3,e_cut3,e_cut3n,e_bns,e_bnn,e_splice,if_true,if_false,ite_true,ite_false,true_or,ne_eq,seval,h_putc,beq_self_eq_true,eq_self,exists_eq_left,exists_eq_left',c8]
        exact frz_sc
  · rw [drop_end c1] at hf
    have hf0 : checkL c.len none c.notes.l = 0:=hf.symm
    rw [hf0,if_neg (by simp)] at hr
    simp -implicitDefEqProofs (maxDischargeDepth:=12) only [WW,List.replicate,Option.some_or,s_conv,e_conv,s_slc3,e_cut3,e_cut3n,e_bns,e_bnn,e_splice,if_true,if_false,ite_true,ite_false,true_or,ne_eq,seval,h_putc,beq_self_eq_true,eq_self,exists_eq_left,exists_eq_left',hA,c1]
    refine wA_pure rfl (tidy_pv c.notes t1 t2) ?_
    have tt:=tidyP_tame t2
    simp -implicitDefEqProofs (maxDischargeDepth:=12) only [WW,List.replicate,Option.some_or,s_conv,e_conv,s_slc3,e_cut3,e_cut3n,e_bns,e_bnn,e_splice,if_true,if_false,ite_true,ite_false,true_or,ne_eq,seval,h_putc,beq_self_eq_true,eq_self,exists_eq_left,exists_eq_left',hA]
    have eg : ∀ (x : AV) t,aev (x :: t) (.func 37) = .func (.func 37) [] []:=fun _ _ => rfl
    simp only [eg]
    refine wA_pure rfl (eqNotes_pv (Sl.of (tidyP c.notes.l)) c.notes (by rw [l_of]; omega) (by rw [l_of]; exact tt.1) t2) ?_
    rw [l_of]
    by_cases d1 : (tidyP c.notes.l).map Note.cn = c.notes.l.map Note.cn
    · rw [if_pos d1] at hr; subst hr
      simp -implicitDefEqProofs (maxDischargeDepth:=12) only [WW,List.replicate,Option.some_or,s_conv,e_conv,s_slc3,e_cut3,e_cut3n,e_bns,e_bnn,e_splice,if_true,if_false,ite_true,ite_false,true_or,ne_eq,seval,h_putc,beq_self_eq_true,eq_self,exists_eq_left,exists_eq_left',eq_true d1]
      exact frz_sc
    · rw [if_neg d1] at hr; subst hr
      simp -implicitDefEqProofs (maxDischargeDepth:=12) only [WW,List.replicate,Option.some_or,s_conv,e_conv,s_slc3,e_cut3,e_cut3n,e_bns,e_bnn,e_splice,if_true,if_false,ite_true,ite_false,true_or,ne_eq,seval,h_putc,beq_self_eq_true,eq_self,exists_eq_left,exists_eq_left',d1]
      exact frz_sc
end
end Go.Hem
namespace Go.Hem
theorem rheads_ok (a : Sl Head) (ha : a.l.length < 1000000) (H0 : AHeap) : Ev prog polS (.call 14 [slm Head.enc a]) H0 fun o H' => ∃ v fp,o = .val v∧AccX false 1 5 Head.enc H' v (some a.l) fp∧Fresh H0 H' fp:=by
  refine (wpF_ok ok14 (Q:=fun v H' => ∃ fp,AccX false 1 5 Head.enc H' v (some a.l) fp∧Fresh H0 H' fp) ?_).mono ?_
  rotate_left
  · rintro o H' ⟨v,rfl,fp,h⟩; exact ⟨v,fp,rfl,h⟩
  simp -implicitDefEqProofs (maxDischargeDepth:=12) only [wpF,cf14,WW,List.replicate,Option.some_or,s_conv,e_conv,s_slc3,e_cut3,e_cut3n,e_bns,e_bnn,e_splice,if_true,if_false,ite_true,ite_false,true_or,ne_eq,seval,h_putc,beq_self_eq_true,eq_self,exists_eq_left,exists_eq_left']
  refine wA_app3 (f:=Head.enc) (bytes:=40) row_Head (I:=false) (d:=1) (l:=[]) (fp:=[H0.next]) (ys:=a.l) (.inr ⟨H0.next,0,[],[],[],[],rfl,rfl,Nat.le_refl _,?_,rfl,by simp,.nil,by simp,rfl⟩) Keep.refl (Nat.le_refl _) e_alenm (by rw [e_srcm Head.enc_len (Nat.le_refl _),List.take_length]) (OwnL.scal (by
    simp only [List.all_eq_true]
    intro v hv
    obtain ⟨x,_,hx⟩:=List.mem_flatMap.1 hv
    have : (Head.enc x).cells.all AV.isSc = true:=rfl
    exact List.all_eq_true.1 this v hx)) Apart.nil_right (by simp only [List.length_nil]; omega) ?_
  · simp -implicitDefEqProofs (maxDischargeDepth:=12) only [WW,List.replicate,Option.some_or,s_conv,e_conv,s_slc3,e_cut3,e_cut3n,e_bns,e_bnn,e_splice,if_true,if_false,ite_true,ite_false,true_or,ne_eq,seval,h_putc,beq_self_eq_true,eq_self,exists_eq_left,exists_eq_left']
  intro v' H' fp' h1 h2 h3 h4 h5 h6
  simp only [AHeap.next_alloc] at h2 h3
  simp -implicitDefEqProofs (maxDischargeDepth:=12) only [WW,List.replicate,Option.some_or,s_conv,e_conv,s_slc3,e_cut3,e_cut3n,e_bns,e_bnn,e_splice,if_true,if_false,ite_true,ite_false,true_or,ne_eq,seval,h_putc,beq_self_eq_true,eq_self,exists_eq_left,exists_eq_left']
  refine ⟨fp',h1,fun b hb => ?_,by omega,fun b hb => ?_⟩
  · rcases h4 b hb with h | h | h
    · simp at h; omega
    · simp at h
    · simp only [AHeap.next_alloc] at h; omega
  · rw [h3 b (by simp; omega) (by omega),c_alloc_ne (by omega)]
def Note.own (x : Note) : Note:={ x with heads:=some x.heads.l }
theorem Note.own_tame {x : Note} (h : x.tame) : x.own.tame:=⟨h.heads,h.graces,h.lyrics,h.text⟩
theorem noteQ_heads {H : AHeap} {x : Note} {hv : AV} {fh : List Nat} (h : AccQ HeadQ 5 H hv x.heads fh) : NoteQ H [intE x.at_,intE x.len,hv,slm Grace.enc x.graces,intE x.articulations,intE x.ornament,intE x.dynamic,slm Syllable.enc x.lyrics] x fh :=
  ⟨hv,_,_,fh,[],[],rfl,h,own_imm Grace.enc_closed,own_imm Syllable.enc_closed,o_slm,o_slm,Apart.nil_right,Apart.nil_right,Apart.nil_left,by simp⟩
def foldR (l : List Note) : List Note:=(l.map Note.own).foldl stepT []
theorem foldR_take {l : List Note} {i : Nat} {x : Note} (h : l[i]? = some x) : foldR (l.take (i + 1)) = stepT (foldR (l.take i)) x.own:=by
  unfold foldR
  rw [List.take_add_one,h,List.map_append,List.foldl_append]; rfl
theorem foldR_tame {l : List Note} (h : ∀ y ∈ l,y.tame) : (∀ y ∈ foldR l,y.tame)∧(foldR l).length ≤ l.length:=by
  have:=fold_tame (l:=l.map Note.own) (fun y hy => by
    obtain ⟨z,hz,rfl⟩:=List.mem_map.1 hy
    exact Note.own_tame (h z hz)) [] (by simp)
  simpa [foldR] using this
def Note.mergeTo (a x : Note) (j : Nat) : Note:={ a with len:=IntKind.i64.wrap (a.len + x.len),heads:=a.heads.map fun l => tieUpTo j l x.heads.l }
theorem mergeTo_zero {a x : Note} : a.mergeTo x 0 = { a with len:=IntKind.i64.wrap (a.len + x.len) }:=by
  unfold Note.mergeTo
  have : a.heads.map (fun l => tieUpTo 0 l x.heads.l) = a.heads:=by cases a.heads <;> simp [tieUp_zero]
  rw [this]
theorem mergeTo_all {a x : Note} {j : Nat} (hlen : a.heads.l.length = x.heads.l.length) (h : ¬ j < a.heads.l.length) : a.mergeTo x j = merge a x:=by
  unfold Note.mergeTo merge
  have : a.heads.map (fun l => tieUpTo j l x.heads.l) = a.heads.map fun l => tieTo l x.heads.l:=by
    cases e : a.heads with
    | none => rfl
    | some l =>
      rw [e] at hlen h
      simp only [Option.map_some,Option.some.injEq]
      exact tieUp_all hlen (by rw [l_some] at h; exact h)
  rw [this]
theorem mergeTo_heads {a x : Note} {j : Nat} (hlen : a.heads.l.length = x.heads.l.length) : (a.mergeTo x j).heads.l = tieUpTo j a.heads.l x.heads.l:=by
  show Sl.l (a.heads.map _) = _
  cases e : a.heads with
  | none => rw [e] at hlen; simp [Sl.l,tieUpTo,tieTo]
  | some l => rfl
theorem mergeTo_succ {a x : Note} {j : Nat} {u w : Head} (hlen : a.heads.l.length = x.heads.l.length) (hu : a.heads.l[j]? = some u) (hw : x.heads.l[j]? = some w) : { a.mergeTo x j with heads:=some ((a.mergeTo x j).heads.l.set j (u.tie w.tied)) } = a.mergeTo x (j + 1):=by
  rw [mergeTo_heads hlen,tieUp_set hlen hu hw]
  unfold Note.mergeTo
  have : a.heads.map (fun l => tieUpTo (j + 1) l x.heads.l) = some (tieUpTo (j + 1) a.heads.l x.heads.l):=by
    cases e : a.heads with
    | none => rw [e] at hu; simp [Sl.l] at hu
    | some l => rfl
  rw [this]
end Go.Hem
namespace Go.Hem
def tidyR (l : List Note) : List Note:=untie (foldR l)
theorem rtidy_pv (s : Sl Note) (hs : s.l.length < 1000000) (ts : ∀ y ∈ s.l,y.tame) : Pv prog polS 15 [slm Note.enc s] (slm Note.enc (Sl.of (tidyR s.l))):=by
  refine Pv_of' ok15 (by simp only [AV.closedBs,closedB_slm Note.enc_closed,Bool.and_self]) ?_
  simp -implicitDefEqProofs (maxDischargeDepth:=12) only [wpF,cf15,WW,List.replicate,Option.some_or,s_conv,e_conv,s_slc3,e_cut3,e_cut3n,e_bns,e_bnn,e_splice,if_true,if_false,ite_true,ite_false,true_or,ne_eq,seval,h_putc,beq_self_eq_true,eq_self,exists_eq_left,exists_eq_left']
  refine wp_loop (Inv:=fun k t H => ∃ (i : Nat) (v : AV) (fp : List Nat),i + k = s.l.length∧AccQ NoteQ 8 H v (Sl.of (foldR (s.l.take i))) fp ∧
    ∃ y : Nat→AV,t = [slm Note.enc s,y 1,y 2,v,.sc (.int .i64 i),y 5,y 6,y 7,y 8,y 9,y 10,y 11,y 12,y 13,y 14,y 15,y 16,y 17,y 18,y 19,y 20,y 21,y 22,y 23,y 24,y 25,y 26,y 27,y 28,y 29,y 30,y 31,y 32,y 33,y 34,y 35,y 36,y 37,y 38,y 39,y 40,y 41,y 42,y 43,y 44,y 45,y 46,y 47,y 48,y 49,y 50,y 51,y 52,y 53,y 54,y 55,y 56,y 57,y 58,y 59,y 60,y 61,y 62,y 63,y 64,y 65,y 66,y 67,y 68,y 69,y 70,y 71,y 72,y 73,y 74,y 75,y 76,y 77,y 78,y 79,y 80,y 81,y 82,y 83,y 84,y 85,y 86,y 87,y 88,y 89,y 90,y 91,y 92,y 93,y 94,y 95,y 96,y 97,y 98,y 99,y 100,y 101,y 102,y 103,y 104,y 105,y 106,y 107,y 108,y 109,y 110,y 111,y 112,y 113,y 114,y 115,y 116,y 117,y 118,y 119,y 120,y 121,y 122,y 123,y 124,y 125,y 126,y 127,y 128,y 129,y 130,y 131,y 132,y 133,y 134,y 135,y 136,y 137,y 138,y 139,y 140,y 141,y 142,y 143,y 144,y 145,y 146,y 147,y 148,y 149,y 150,y 151,y 152,y 153,y 154,y 155,y 156,y 157,y 158,y 159,y 160,y 161,y 162,y 163,y 164,y 165,y 166,y 167,y 168,y 169,y 170]) (k:=s.l.length) ?_
    ⟨0,_,[],by omega,accQ_none,ex_x rfl⟩
  rintro k t H0 ⟨i,v,fp,hk,hA,y,rfl⟩
  by_cases c1 : (i : Int) < (s.l.length : Int)
  rotate_left
  · rw [List.take_of_length_le (by omega)] at hA
    simp -implicitDefEqProofs (maxDischargeDepth:=12) only [WW,List.replicate,Option.some_or,s_conv,e_conv,s_slc3,e_cut3,e_cut3n,e_bns,e_bnn,e_splice,if_true,if_false,ite_true,ite_false,true_or,ne_eq,seval,h_putc,beq_self_eq_true,eq_self,exists_eq_left,exists_eq_left',c1]
    have tF:=foldR_tame ts
    unfold tidyR
    generalize foldR s.l = F at hA tF
    obtain ⟨tF,lF⟩:=tF
    clear hk c1
    refine wp_loop (Inv:=fun k t H => ∃ (i : Nat) (f2 : List Nat),i + k = F.length∧AccQ NoteQ 8 H v (Sl.of (untieUpTo i F)) f2 ∧
      ∃ y : Nat→AV,t = [slm Note.enc s,y 1,y 2,v,y 4,y 5,y 6,y 7,.sc (.int .i64 i),y 9,y 10,y 11,y 12,y 13,y 14,y 15,y 16,y 17,y 18,y 19,y 20,y 21,y 22,y 23,y 24,y 25,y 26,y 27,y 28,y 29,y 30,y 31,y 32,y 33,y 34,y 35,y 36,y 37,y 38,y 39,y 40,y 41,y 42,y 43,y 44,y 45,y 46,y 47,y 48,y 49,y 50,y 51,y 52,y 53,y 54,y 55,y 56,y 57,y 58,y 59,y 60,y 61,y 62,y 63,y 64,y 65,y 66,y 67,y 68,y 69,y 70,y 71,y 72,y 73,y 74,y 75,y 76,y 77,y 78,y 79,y 80,y 81,y 82,y 83,y 84,y 85,y 86,y 87,y 88,y 89,y 90,y 91,y 92,y 93,y 94,y 95,y 96,y 97,y 98,y 99,y 100,y 101,y 102,y 103,y 104,y 105,y 106,y 107,y 108,y 109,y 110,y 111,y 112,y 113,y 114,y 115,y 116,y 117,y 118,y 119,y 120,y 121,y 122,y 123,y 124,y 125,y 126,y 127,y 128,y 129,y 130,y 131,y 132,y 133,y 134,y 135,y 136,y 137,y 138,y 139,y 140,y 141,y 142,y 143,y 144,y 145,y 146,y 147,y 148,y 149,y 150,y 151,y 152,y 153,y 154,y 155,y 156,y 157,y 158,y 159,y 160,y 161,y 162,y 163,y 164,y 165,y 166,y 167,y 168,y 169,y 170]) (k:=F.length) ?_
      ⟨0,fp,by omega,by rw [untieUp_zero]; exact hA,ex_x rfl⟩
    clear hA fp H0 y i
    rintro k t H ⟨i,fp,hk,hA,y,rfl⟩
    have hl:=hA.length.1
    rw [l_of,untieUp_len] at hl
    by_cases c1 : (i : Int) < (F.length : Int)
    rotate_left
    · rw [untieUp_all (by omega)] at hA
      simp -implicitDefEqProofs (maxDischargeDepth:=12) only [WW,List.replicate,Option.some_or,s_conv,e_conv,s_slc3,e_cut3,e_cut3n,e_bns,e_bnn,e_splice,if_true,if_false,ite_true,ite_false,true_or,ne_eq,seval,h_putc,beq_self_eq_true,eq_self,exists_eq_left,exists_eq_left',c1,hl]
      exact hA.frz noteQ (by decide)
    have hil : i < F.length:=by omega
    obtain ⟨n,hn⟩ : ∃ y,F[i]? = some y:=⟨_,List.getElem?_eq_getElem hil⟩
    have e2 : IntKind.i64.wrap ((i : Int) + 1) = ((i + 1 : Nat) : Int):=by rw [w64 (by omega) (by omega)]; omega
    have tn:=tF n (List.mem_of_getElem? hn)
    rw [of_isSome (by rw [untieUp_len]; omega)] at hA
    obtain ⟨b,cap,cs,r,g,hv,a1,a2,a3,a4,a5,a6,a7,a8,a9,a10,a11,a12,a13⟩:=note_cells hA (i:=i) (x:=n) (by rw [l_some,untieUp_ge (Nat.le_refl _) hil]; exact hn)
    simp only [l_some,untieUp_len] at a1
    subst a1
    simp -implicitDefEqProofs (maxDischargeDepth:=12) only [WW,List.replicate,Option.some_or,s_conv,e_conv,s_slc3,e_cut3,e_cut3n,e_bns,e_bnn,e_splice,if_true,if_false,ite_true,ite_false,true_or,ne_eq,seval,h_putc,beq_self_eq_true,eq_self,exists_eq_left,exists_eq_left',c1,hil]
    refine wp_loop (Inv:=fun k' t H => ∃ (j : Nat) (f2 : List Nat),j + k' = n.heads.l.length∧AccQ NoteQ 8 H (.slice b 0 F.length cap 8) (some ((untieUpTo i F).set i (n.untieTo F[i + 1]? j))) f2 ∧
      ∃ y : Nat→AV,t = [slm Note.enc s,y 1,y 2,.slice b 0 F.length cap 8,y 4,y 5,y 6,y 7,.sc (.int .i64 i),.sc (.int .i64 j),y 10,y 11,y 12,y 13,y 14,y 15,y 16,y 17,y 18,y 19,y 20,y 21,y 22,y 23,y 24,y 25,y 26,y 27,y 28,y 29,y 30,y 31,y 32,y 33,y 34,y 35,y 36,y 37,y 38,y 39,y 40,y 41,y 42,y 43,y 44,y 45,y 46,y 47,y 48,y 49,y 50,y 51,y 52,y 53,y 54,y 55,y 56,y 57,y 58,y 59,y 60,y 61,y 62,y 63,y 64,y 65,y 66,y 67,y 68,y 69,y 70,y 71,y 72,y 73,y 74,y 75,y 76,y 77,y 78,y 79,y 80,y 81,y 82,y 83,y 84,y 85,y 86,y 87,y 88,y 89,y 90,y 91,y 92,y 93,y 94,y 95,y 96,y 97,y 98,y 99,y 100,y 101,y 102,y 103,y 104,y 105,y 106,y 107,y 108,y 109,y 110,y 111,y 112,y 113,y 114,y 115,y 116,y 117,y 118,y 119,y 120,y 121,y 122,y 123,y 124,y 125,y 126,y 127,y 128,y 129,y 130,y 131,y 132,y 133,y 134,y 135,y 136,y 137,y 138,y 139,y 140,y 141,y 142,y 143,y 144,y 145,y 146,y 147,y 148,y 149,y 150,y 151,y 152,y 153,y 154,y 155,y 156,y 157,y 158,y 159,y 160,y 161,y 162,y 163,y 164,y 165,y 166,y 167,y 168,y 169,y 170]) (k:=n.heads.l.length) ?_
      ⟨0,fp,by omega,?_,ex_x rfl⟩
    rotate_left
    · rw [untieTo_zero]
      have : (untieUpTo i F).set i n = untieUpTo i F:=by
        apply List.ext_getElem?
        intro q
        rw [List.getElem?_set]
        split
        · rename_i e; subst e
          rw [untieUp_len,if_pos hil,untieUp_ge (Nat.le_refl _) hil,hn]
        · rfl
      rw [this]; exact hA
    clear hA hl a2 a3 a4 a5 a6 a7 a8 a9 a10 a11 a12 a13 y H fp
    rintro k' t H ⟨j,fp,hk',hA,y,rfl⟩
    obtain ⟨b',cap',cs,r,g,hv',a1,a2,a3,a4,a5,a6,a7,a8,a9,a10,a11,a12,a13⟩:=note_cells hA (i:=i) (x:=n.untieTo F[i + 1]? j) (by rw [l_some,List.getElem?_set_self (by rw [untieUp_len]; exact hil)])
    simp only [l_some,AV.slice.injEq,true_and,and_true] at a1
    obtain ⟨rfl,_,rfl⟩:=a1
    rw [untieTo_heads,mapTo_len] at a11
    by_cases d1 : (j : Int) < (n.heads.l.length : Int)
    rotate_left
    · rw [untieTo_all (by omega),untieUp_set hn] at hA
      simp -implicitDefEqProofs (maxDischargeDepth:=12) only [WW,List.replicate,Option.some_or,s_conv,e_conv,s_slc3,e_cut3,e_cut3n,e_bns,e_bnn,e_splice,if_true,if_false,ite_true,ite_false,true_or,ne_eq,seval,h_putc,beq_self_eq_true,eq_self,exists_eq_left,exists_eq_left',d1,e2,hil,a2,a6,a11]
      exact ⟨k - 1,by omega,i + 1,fp,by omega,by rw [of_isSome (by rw [untieUp_len]; omega)]; exact hA,ex_x rfl⟩
    have hjl : j < n.heads.l.length:=by omega
    obtain ⟨h,hh⟩ : ∃ y,n.heads.l[j]? = some y:=⟨_,List.getElem?_eq_getElem hjl⟩
    have e3 : IntKind.i64.wrap ((j : Int) + 1) = ((j + 1 : Nat) : Int):=by rw [w64 (by omega) (by have:=tn.heads; omega)]; omega
    obtain ⟨bh,caph,ch,c2,c3,c4,c5,c6,c7,c8,c9⟩:=a13 j h (by rw [untieTo_heads]; exact mapTo_get hh)
    rw [untieTo_heads,mapTo_len] at c2
    subst c2
    have hle : j * 5 + 3 + 1 ≤ ch.length:=by omega
    have hle2 : j * 5 + 3 ≤ ch.length:=by omega
    have fin : ∀ H',H' = H.put bh (some (.cells (splice ch (j * 5 + 3) [.sc (.bool (keepTie n F[i + 1]? h))])))→∃ f3,AccQ NoteQ 8 H' (.slice b 0 F.length cap 8) (some ((untieUpTo i F).set i (n.untieTo F[i + 1]? (j + 1)))) f3:=by
      rintro H' rfl
      obtain ⟨f3,p1,p2⟩:=c9 (keepTie n F[i + 1]? h)
      rw [untieTo_succ hh,l_some,List.set_set] at p1
      exact ⟨f3,p1⟩
    cases ht : h.tied with
    | false =>
      have hkt : h.tie (keepTie n F[i + 1]? h) = h:=by unfold keepTie; rw [ht]; cases h; simp only at ht; subst ht; rfl
      have hsame : n.untieTo F[i + 1]? (j + 1) = n.untieTo F[i + 1]? j:=by
        have e:=untieTo_succ (nx:=F[i + 1]?) hh
        rw [hkt] at e
        rw [← e]
        have e4 : (n.untieTo F[i + 1]? j).heads.l.set j h = (n.untieTo F[i + 1]? j).heads.l:=by
          apply List.ext_getElem?
          intro q
          rw [List.getElem?_set]
          split
          · rename_i e; subst e
            rw [untieTo_heads,mapTo_len,if_pos hjl,mapTo_get hh]
          · rfl
        rw [e4]
        have e5 : (n.untieTo F[i + 1]? j).heads = some (n.untieTo F[i + 1]? j).heads.l:=by
          have : (n.untieTo F[i + 1]? j).heads = n.heads.map (mapTo (fun h => h.tie (keepTie n F[i + 1]? h)) j):=rfl
          rw [this]
          cases e6 : n.heads with
          | none => rw [e6] at hjl; simp [Sl.l] at hjl
          | some l => rfl
        generalize n.untieTo F[i + 1]? j = z at e5
        cases z; simp only at e5; rw [e5]; rfl
      simp -implicitDefEqProofs (maxDischargeDepth:=12) only [WW,List.replicate,Option.some_or,s_conv,e_conv,s_slc3,e_cut3,e_cut3n,e_bns,e_bnn,if_true,if_false,ite_true,ite_false,true_or,ne_eq,seval,beq_self_eq_true,eq_self,exists_eq_left,exists_eq_left',d1,hil,hjl,a2,a6,a11,c3,c5,ht,e3]
      exact ⟨k' - 1,by omega,j + 1,fp,by omega,by rw [hsame]; exact hA,ex_x rfl⟩
    | true =>
      by_cases n1 : i + 1 < F.length
      rotate_left
      · have hkt : keepTie n F[i + 1]? h = false:=by unfold keepTie; rw [ht,List.getElem?_eq_none (by omega)]; rfl
        rw [hkt] at fin
        have n1' : ¬ ((i + 1 : Nat) : Int) < (F.length : Int):=by omega
        simp -implicitDefEqProofs (maxDischargeDepth:=12) only [WW,List.replicate,Option.some_or,s_conv,e_conv,s_slc3,e_cut3,e_cut3n,e_bns,e_bnn,if_true,if_false,ite_true,ite_false,true_or,ne_eq,seval,beq_self_eq_true,eq_self,exists_eq_left,exists_eq_left',d1,hil,hjl,a2,a6,a11,c3,c5,ht,hle,e2,e3,n1']
        obtain ⟨f3,p1⟩:=fin _ rfl
        exact ⟨k' - 1,by omega,j + 1,f3,by omega,p1,ex_x rfl⟩
      have n1' : ((i + 1 : Nat) : Int) < (F.length : Int):=by omega
      obtain ⟨m,hm⟩ : ∃ y,F[i + 1]? = some y:=⟨_,List.getElem?_eq_getElem n1⟩
      have tm:=tF m (List.mem_of_getElem? hm)
      obtain ⟨b',cap',cs',r2,g2,hv2,q1,q2,q3,q4,q5,q6,q7,q8,q9,q10,q11,_,q13⟩:=note_cells hA (i:=i + 1) (x:=m) (by rw [l_some,List.getElem?_set_ne (by omega),untieUp_ge (by omega) n1]; exact hm)
      simp only [l_some,AV.slice.injEq,true_and,and_true] at q1
      obtain ⟨rfl,_,rfl⟩:=q1
      rw [a2,Option.some.injEq] at q2
      subst q2
      have hkt : keepTie n F[i + 1]? h = (decide (m.at_ = n.fin) && m.hasB h.pitch):=by unfold keepTie; rw [ht,hm]; rfl
      rw [hkt] at fin
      simp only [intE] at a4 a5 q4
      have a4' : cs[i * 8]? = some (.sc (.int .i64 n.at_)):=a4
      have a5' : cs[i * 8 + 1]? = some (.sc (.int .i64 n.len)):=a5
      have hfin : IntKind.i64.wrap (n.at_ + n.len) = n.fin:=rfl
      by_cases h1 : n.fin = m.at_
      rotate_left
      · rw [decide_eq_false (fun e => h1 e.symm),Bool.false_and] at fin
        simp -implicitDefEqProofs (maxDischargeDepth:=12) only [WW,List.replicate,Option.some_or,s_conv,e_conv,s_slc3,e_cut3,e_cut3n,e_bns,e_bnn,if_true,if_false,ite_true,ite_false,true_or,ne_eq,seval,beq_self_eq_true,eq_self,exists_eq_left,exists_eq_left',d1,hil,hjl,a2,a4',a5',hfin,a6,a11,c3,c5,ht,hle,e2,e3,n1,n1',q4,h1]
        obtain ⟨f3,p1⟩:=fin _ rfl
        exact ⟨k' - 1,by omega,j + 1,f3,by omega,p1,ex_x rfl⟩
      rw [decide_eq_true h1.symm,Bool.true_and] at fin
      simp -implicitDefEqProofs (maxDischargeDepth:=12) only [WW,List.replicate,Option.some_or,s_conv,e_conv,s_slc3,e_cut3,e_cut3n,e_bns,e_bnn,if_true,if_false,ite_true,ite_false,true_or,ne_eq,seval,beq_self_eq_true,eq_self,exists_eq_left,exists_eq_left',d1,hil,hjl,a2,a4',a5',hfin,a6,a11,c3,c5,ht,hle,e2,e3,n1,n1',q4,eq_true h1]
      refine wp_loop (Inv:=fun k2 t H2 => H2 = H∧∃ (p : Nat),p + k2 = m.heads.l.length ∧
        ∃ y : Nat→AV,t = [slm Note.enc s,y 1,y 2,.slice b 0 F.length cap 8,y 4,y 5,y 6,y 7,.sc (.int .i64 i),.sc (.int .i64 j),.sc (.bool ((m.heads.l.take p).any fun x => decide (x.pitch = h.pitch))),.sc (.int .i64 p),y 12,y 13,y 14,y 15,y 16,y 17,y 18,y 19,y 20,y 21,y 22,y 23,y 24,y 25,y 26,y 27,y 28,y 29,y 30,y 31,y 32,y 33,y 34,y 35,y 36,y 37,y 38,y 39,y 40,y 41,y 42,y 43,y 44,y 45,y 46,y 47,y 48,y 49,y 50,y 51,y 52,y 53,y 54,y 55,y 56,y 57,y 58,y 59,y 60,y 61,y 62,y 63,y 64,y 65,y 66,y 67,y 68,y 69,y 70,y 71,y 72,y 73,y 74,y 75,y 76,y 77,y 78,y 79,y 80,y 81,y 82,y 83,y 84,y 85,y 86,y 87,y 88,y 89,y 90,y 91,y 92,y 93,y 94,y 95,y 96,y 97,y 98,y 99,y 100,y 101,y 102,y 103,y 104,y 105,y 106,y 107,y 108,y 109,y 110,y 111,y 112,y 113,y 114,y 115,y 116,y 117,y 118,y 119,y 120,y 121,y 122,y 123,y 124,y 125,y 126,y 127,y 128,y 129,y 130,y 131,y 132,y 133,y 134,y 135,y 136,y 137,y 138,y 139,y 140,y 141,y 142,y 143,y 144,y 145,y 146,y 147,y 148,y 149,y 150,y 151,y 152,y 153,y 154,y 155,y 156,y 157,y 158,y 159,y 160,y 161,y 162,y 163,y 164,y 165,y 166,y 167,y 168,y 169,y 170]) (k:=m.heads.l.length) ?_
        ⟨rfl,0,by omega,ex_x rfl⟩
      clear y
      rintro k2 t H2 ⟨rfl,p,hp,y,rfl⟩
      by_cases g1 : (p : Int) < (m.heads.l.length : Int)
      rotate_left
      · rw [List.take_of_length_le (by omega)]
        have hb : (m.heads.l.any fun x => decide (x.pitch = h.pitch)) = m.hasB h.pitch:=rfl
        rw [hb]
        simp -implicitDefEqProofs (maxDischargeDepth:=12) only [WW,List.replicate,Option.some_or,s_conv,e_conv,s_slc3,e_cut3,e_cut3n,e_bns,e_bnn,if_true,if_false,ite_true,ite_false,true_or,ne_eq,seval,beq_self_eq_true,eq_self,exists_eq_left,exists_eq_left',g1,hil,hjl,a2,a6,c3,hle,e2,e3,n1,n1',q6,q11]
        obtain ⟨f3,p1⟩:=fin _ rfl
        exact ⟨k' - 1,by omega,j + 1,f3,by omega,p1,ex_x rfl⟩
      have hpl : p < m.heads.l.length:=by omega
      obtain ⟨u,hu⟩ : ∃ y,m.heads.l[p]? = some y:=⟨_,List.getElem?_eq_getElem hpl⟩
      have e4 : IntKind.i64.wrap ((p : Int) + 1) = ((p + 1 : Nat) : Int):=by rw [w64 (by omega) (by have:=tm.heads; omega)]; omega
      have hany : (m.heads.l.take (p + 1)).any (fun x => decide (x.pitch = h.pitch)) = ((m.heads.l.take p).any (fun x => decide (x.pitch = h.pitch)) || decide (u.pitch = h.pitch)):=by
        rw [List.take_add_one,hu,List.any_append]; simp
      obtain ⟨bx,capx,cx,x2,x3,x4,x5,x6,x7,x8,x9⟩:=q13 p u hu
      subst x2
      have hle3 : p * 5 + 3 ≤ cx.length:=by omega
      cases hf : (m.heads.l.take p).any (fun x => decide (x.pitch = h.pitch)) with
      | true =>
        simp -implicitDefEqProofs (maxDischargeDepth:=12) only [WW,List.replicate,Option.some_or,s_conv,e_conv,s_slc3,e_cut3,e_cut3n,e_bns,e_bnn,if_true,if_false,ite_true,ite_false,true_or,ne_eq,seval,beq_self_eq_true,eq_self,exists_eq_left,exists_eq_left',g1,hil,hjl,a2,a6,c3,hle,e2,e3,e4,n1,n1',q6,q11,hpl]
        exact ⟨k2 - 1,by omega,p + 1,by omega,by rw [hany,hf,Bool.true_or]; exact ex_x rfl⟩
      | false =>
        simp -implicitDefEqProofs (maxDischargeDepth:=12) only [WW,List.replicate,Option.some_or,s_conv,e_conv,s_slc3,e_cut3,e_cut3n,e_bns,e_bnn,if_true,if_false,ite_true,ite_false,true_or,ne_eq,seval,beq_self_eq_true,eq_self,exists_eq_left,exists_eq_left',g1,hil,hjl,a2,a6,c3,hle,hle2,e2,e3,e4,n1,n1',q6,q11,hpl,x3,x6,hle3,c6,u.pitch.enc_eq,h.pitch.enc_eq,pitch_cmp]
        exact ⟨k2 - 1,by omega,p + 1,by omega,by rw [hany,hf,Bool.false_or]; exact ex_x rfl⟩
  obtain ⟨x,hx⟩ : ∃ y,s.l[i]? = some y:=⟨_,List.getElem?_eq_getElem (by omega)⟩
  have tx:=ts x (List.mem_of_getElem? hx)
  have e2 : IntKind.i64.wrap ((i : Int) + 1) = ((i + 1 : Nat) : Int):=by rw [w64 (by omega) (by omega)]; omega
  have tL:=foldR_tame (l:=s.l.take i) (fun y hy => ts y (List.mem_of_mem_take hy))
  have hL : (foldR (s.l.take i)).length < 1000000:=by have:=tL.2; simp only [List.length_take] at this; omega
  have ef:=foldR_take hx
  generalize foldR (s.l.take i) = L at hA tL hL ef
  have hlt:=hA.lt noteQ
  generalize hq : H0.next = q at hlt
  have nqq : ∀ {z : List AV},(H0.alloc (.cells z)).cells q = some z:=by intro z; rw [h_alloc,if_pos hq.symm]
  simp -implicitDefEqProofs (maxDischargeDepth:=12) only [WW,List.replicate,Option.some_or,s_conv,e_conv,s_slc3,e_cut3,e_cut3n,e_bns,e_bnn,e_splice,if_true,if_false,ite_true,ite_false,true_or,ne_eq,seval,h_putc,beq_self_eq_true,eq_self,exists_eq_left,exists_eq_left',c1,hx,x.enc_eq,hq]
  generalize hH1 : AHeap.put _ q _ = H1
  have n1 : H1.next = q + 1:=by subst hH1; simp only [AHeap.next_put,AHeap.next_alloc,hq]
  have kp : Keep q H0 H1:=by subst hH1; exact fun b hb => by rw [c_put_ne (by omega),c_alloc_ne (by omega)]
  have cq:=congrArg (fun H => AHeap.cells H q) hH1
  simp -implicitDefEqProofs (maxDischargeDepth:=12) only [WW,List.replicate,Option.some_or,s_conv,e_conv,s_slc3,e_cut3,e_cut3n,e_bns,e_bnn,e_splice,if_true,if_false,ite_true,ite_false,true_or,ne_eq,seval,h_putc,beq_self_eq_true,eq_self,exists_eq_left,exists_eq_left',hq] at cq
  replace cq:=cq.symm
  clear hH1
  refine wA_call rfl ((rheads_ok x.heads tx.heads _).mono ?_)
  rintro o H2 ⟨hv,fh,rfl,hh0,hF⟩
  refine ⟨_,rfl,?_⟩
  have hN:=hF.2.1
  have cq2:=(hF.2.2 q (by omega)).trans cq
  have hh:=acc_heads hh0
  simp -implicitDefEqProofs (maxDischargeDepth:=12) only [WW,List.replicate,Option.some_or,s_conv,e_conv,s_slc3,e_cut3,e_cut3n,e_bns,e_bnn,e_splice,if_true,if_false,ite_true,ite_false,true_or,ne_eq,seval,h_putc,beq_self_eq_true,eq_self,exists_eq_left,exists_eq_left',cq,cq2,hh0.one,hh0.cells]
  generalize hH3 : AHeap.put H2 q _ = H3
  have n3 : H3.next = H2.next:=by subst hH3; simp only [AHeap.next_put]
  have k3 : ∀ b,b ≠ q→H3.cells b = H2.cells b:=fun b hb => by subst hH3; rw [c_put_ne hb]
  have cq3:=congrArg (fun H => AHeap.cells H q) hH3
  simp -implicitDefEqProofs (maxDischargeDepth:=12) only [WW,List.replicate,Option.some_or,s_conv,e_conv,s_slc3,e_cut3,e_cut3n,e_bns,e_bnn,e_splice,if_true,if_false,ite_true,ite_false,true_or,ne_eq,seval,h_putc,beq_self_eq_true,eq_self,exists_eq_left,exists_eq_left',cq2] at cq3
  replace cq3:=cq3.symm
  clear hH3
  have hh3 : AccQ HeadQ 5 H3 hv x.own.heads fh:=hh.fr headQ fun b hb => k3 b (by have:=hF.1 b hb; omega)
  have hrow:=noteQ_heads (x:=x.own) hh3
  have hA3 : AccQ NoteQ 8 H3 v (Sl.of L) fp:=hA.fr noteQ fun b hb => by have:=hlt b hb; rw [k3 b (by omega),hF.2.2 b (by omega),kp b (by omega)]
  have hfh : ∀ b ∈ fh,q < b:=fun b hb => by have:=hF.1 b hb; omega
  have hl:=hA3.length.1
  rw [l_of] at hl
  have hlt3:=hA3.lt noteQ
  have hap : Apart fp fh:=fun b h1 h2 => by have:=hlt b h1; have:=hfh b h2; omega
  clear hh hh0 hA cq cq2 hF kp n1 k3
  cases hlast : L.getLast? with
  | none =>
    have hL0 : L = []:=List.getLast?_eq_none_iff.1 hlast
    subst hL0
    have es : stepT [] x.own = [x.own]:=rfl
    have e5 : IntKind.i64.wrap (-1) = -1:=by decide
    simp -implicitDefEqProofs (maxDischargeDepth:=12) only [WW,List.replicate,Option.some_or,s_conv,e_conv,s_slc3,e_cut3,e_cut3n,e_bns,e_bnn,e_splice,if_true,if_false,ite_true,ite_false,true_or,ne_eq,seval,h_putc,beq_self_eq_true,eq_self,exists_eq_left,exists_eq_left',hl,e5]
    simp -implicitDefEqProofs (maxDischargeDepth:=12) only [WW,List.replicate,Option.some_or,s_conv,e_conv,s_slc3,e_cut3,e_cut3n,e_bns,e_bnn,e_splice,if_true,if_false,ite_true,ite_false,true_or,ne_eq,seval,h_putc,beq_self_eq_true,eq_self,exists_eq_left,exists_eq_left',cq3,hh3.one.1,hh3.one.2]
    refine wA_appQ noteQ (H0:=H3) hA3 (y:=x.own) (g:=fh) (fun c hc => c_alloc_ne (by have:=hlt3 c hc; omega)) rfl (asrc_one (by simp -implicitDefEqProofs (maxDischargeDepth:=12) only [WW,List.replicate,Option.some_or,s_conv,e_conv,s_slc3,e_cut3,e_cut3n,e_bns,e_bnn,e_splice,if_true,if_false,ite_true,ite_false,true_or,ne_eq,seval,h_putc,beq_self_eq_true,eq_self,exists_eq_left,exists_eq_left']; rfl) rfl) (noteQ.fr hrow fun b hb => c_alloc_ne (by have:=hh3.lt headQ b hb; omega)) hap (by rw [l_of]; omega) ?_
    intro v' H4 fp' h1 h2 h3 h4 h5 h6
    simp -implicitDefEqProofs (maxDischargeDepth:=12) only [WW,List.replicate,Option.some_or,s_conv,e_conv,s_slc3,e_cut3,e_cut3n,e_bns,e_bnn,e_splice,if_true,if_false,ite_true,ite_false,true_or,ne_eq,seval,h_putc,beq_self_eq_true,eq_self,exists_eq_left,exists_eq_left',e2]
    rw [l_of] at h1
    exact ⟨k - 1,by omega,i + 1,v',fp',by omega,by rw [ef,es,of_cons (by simp)]; exact h1,ex_x rfl⟩
  | some a =>
    have hne : L ≠ []:=fun e => by subst e; cases hlast
    have hat:=getLast_at hlast
    have hpos : 0 < L.length:=by rcases Nat.eq_zero_or_pos L.length with h | h; exact absurd (List.length_eq_zero_iff.1 h) hne; exact h
    have ta:=tL.1 a (List.mem_of_getElem? hat)
    rw [of_cons hne] at hA3
    have es : stepT L x.own = if oneB a x.own then L.set (L.length - 1) (merge a x.own) else L ++ [x.own]:=by unfold stepT; rw [hlast]
    rw [es] at ef
    have ei : IntKind.i64.wrap ((L.length : Int) - 1) = ((L.length - 1 : Nat) : Int):=by rw [w64 (by omega) (by omega)]; omega
    generalize hi : L.length - 1 = m at hat ef ei
    have hil : m < L.length:=by omega
    have hm0 : (0 : Int) ≤ (m : Int):=by omega
    obtain ⟨b,cap,cs,r,g,hv',a1,a2,a3,a4,a5,a6,a7,a8,a9,a10,a11,a12,a13⟩:=note_cells hA3 hat
    simp only [l_some] at a1 a12 a13
    subst a1
    obtain ⟨g',o1,o2⟩:=noteQ_own a8
    obtain ⟨g3,o3,o4⟩:=noteQ_own hrow
    simp -implicitDefEqProofs (maxDischargeDepth:=12) only [WW,List.replicate,Option.some_or,s_conv,e_conv,s_slc3,e_cut3,e_cut3n,e_bns,e_bnn,e_splice,if_true,if_false,ite_true,ite_false,true_or,ne_eq,seval,h_putc,beq_self_eq_true,eq_self,exists_eq_left,exists_eq_left',ei,hm0,hil,a2,a3,a7,cq3]
    refine wA_own rfl (OwnL.cons o1 (.cons o3 .nil Apart.nil_right) (by rw [List.append_nil]; exact fun c h1 h2 => hap c (a10 c (o2 c h1)) (o4 c h2))) (rone_pv a x.own ta.heads tx.heads) ?_
    cases h1 : oneB a x.own with
    | false =>
      rw [h1,if_neg (by simp)] at ef
      rw [← of_cons hne] at hA3
      simp -implicitDefEqProofs (maxDischargeDepth:=12) only [WW,List.replicate,Option.some_or,s_conv,e_conv,s_slc3,e_cut3,e_cut3n,e_bns,e_bnn,e_splice,if_true,if_false,ite_true,ite_false,true_or,ne_eq,seval,h_putc,beq_self_eq_true,eq_self,exists_eq_left,exists_eq_left',cq3,hh3.one.1,hh3.one.2]
      refine wA_appQ noteQ (H0:=H3) hA3 (y:=x.own) (g:=fh) (fun c hc => c_alloc_ne (by have:=hlt3 c hc; omega)) rfl (asrc_one (by simp -implicitDefEqProofs (maxDischargeDepth:=12) only [WW,List.replicate,Option.some_or,s_conv,e_conv,s_slc3,e_cut3,e_cut3n,e_bns,e_bnn,e_splice,if_true,if_false,ite_true,ite_false,true_or,ne_eq,seval,h_putc,beq_self_eq_true,eq_self,exists_eq_left,exists_eq_left']; rfl) rfl) (noteQ.fr hrow fun b hb => c_alloc_ne (by have:=hh3.lt headQ b hb; omega)) hap (by rw [l_of]; omega) ?_
      intro v' H4 fp' h1 h2 h3 h4 h5 h6
      simp -implicitDefEqProofs (maxDischargeDepth:=12) only [WW,List.replicate,Option.some_or,s_conv,e_conv,s_slc3,e_cut3,e_cut3n,e_bns,e_bnn,e_splice,if_true,if_false,ite_true,ite_false,true_or,ne_eq,seval,h_putc,beq_self_eq_true,eq_self,exists_eq_left,exists_eq_left',e2]
      rw [l_of] at h1
      exact ⟨k - 1,by omega,i + 1,v',fp',by omega,by rw [ef,of_cons (by simp)]; exact h1,ex_x rfl⟩
    | true =>
      rw [h1,if_pos rfl] at ef
      have hlen:=oneB_len h1
      have nb : ¬ b = q:=by have:=hlt b a9; omega
      have nb' : ¬ q = b:=fun e => nb e.symm
      have hle : m * 8 + 1 + 1 ≤ cs.length:=by omega
      obtain ⟨fp',p1,p2⟩:=a12 (IntKind.i64.wrap (a.len + x.len))
      simp only [intE] at a4 a5 p1
      simp -implicitDefEqProofs (maxDischargeDepth:=12) only [WW,List.replicate,Option.some_or,s_conv,e_conv,s_slc3,e_cut3,e_cut3n,e_bns,e_bnn,if_true,if_false,ite_true,ite_false,true_or,ne_eq,seval,beq_self_eq_true,eq_self,exists_eq_left,exists_eq_left',cq3,ei,hil,a2,a5,hle]
      generalize hH4 : AHeap.put H3 b _ = H4 at p1 ⊢
      have k4 : ∀ c,c ≠ b→H4.cells c = H3.cells c:=fun c hc => by subst hH4; rw [c_put_ne hc]
      have cq4:=(k4 q nb').trans cq3
      have hh4 : AccQ HeadQ 5 H4 hv x.own.heads fh:=hh3.fr headQ fun c hc => k4 c fun e => hap b a9 (e ▸ hc)
      refine wp_loop (Inv:=fun k' t H => ∃ (j : Nat) (f2 : List Nat),j + k' = x.heads.l.length∧H.cells q = some [intE x.at_,intE x.len,hv,slm Grace.enc x.graces,intE x.articulations,intE x.ornament,intE x.dynamic,slm Syllable.enc x.lyrics]∧AccQ HeadQ 5 H hv x.own.heads fh ∧
        AccQ NoteQ 8 H (.slice b 0 L.length cap 8) (some (L.set m (a.mergeTo x.own j))) f2∧(∀ c ∈ f2,c ∈ fp) ∧
        ∃ y : Nat→AV,t = [slm Note.enc s,y 1,y 2,.slice b 0 L.length cap 8,.sc (.int .i64 i),.ptr q 0,.sc (.int .i64 m),.sc (.int .i64 j),y 8,y 9,y 10,y 11,y 12,y 13,y 14,y 15,y 16,y 17,y 18,y 19,y 20,y 21,y 22,y 23,y 24,y 25,y 26,y 27,y 28,y 29,y 30,y 31,y 32,y 33,y 34,y 35,y 36,y 37,y 38,y 39,y 40,y 41,y 42,y 43,y 44,y 45,y 46,y 47,y 48,y 49,y 50,y 51,y 52,y 53,y 54,y 55,y 56,y 57,y 58,y 59,y 60,y 61,y 62,y 63,y 64,y 65,y 66,y 67,y 68,y 69,y 70,y 71,y 72,y 73,y 74,y 75,y 76,y 77,y 78,y 79,y 80,y 81,y 82,y 83,y 84,y 85,y 86,y 87,y 88,y 89,y 90,y 91,y 92,y 93,y 94,y 95,y 96,y 97,y 98,y 99,y 100,y 101,y 102,y 103,y 104,y 105,y 106,y 107,y 108,y 109,y 110,y 111,y 112,y 113,y 114,y 115,y 116,y 117,y 118,y 119,y 120,y 121,y 122,y 123,y 124,y 125,y 126,y 127,y 128,y 129,y 130,y 131,y 132,y 133,y 134,y 135,y 136,y 137,y 138,y 139,y 140,y 141,y 142,y 143,y 144,y 145,y 146,y 147,y 148,y 149,y 150,y 151,y 152,y 153,y 154,y 155,y 156,y 157,y 158,y 159,y 160,y 161,y 162,y 163,y 164,y 165,y 166,y 167,y 168,y 169,y 170]) (k:=x.heads.l.length) ?_
        ⟨0,fp',by omega,cq4,hh4,by rw [mergeTo_zero]; exact p1,p2,ex_x rfl⟩
      clear hH4 k4 cq4 hh4 p1 p2 fp' hA3 a2 a3 a4 a5 a6 a7 a8 a10 a11 a12 a13 hh3 hrow cq3 o1 o2 o3 o4 g' g3 hlt3 n3 H4 hv' hle y
      rintro k' t H ⟨j,f2,hk',hB,hh,p1,p2,y,rfl⟩
      have hhl:=hh.length.1
      have exl : x.own.heads.l = x.heads.l:=rfl
      rw [exl] at hhl
      simp only [intE] at hB
      by_cases d1 : (j : Int) < (x.heads.l.length : Int)
      rotate_left
      · rw [mergeTo_all hlen (by rw [hlen,exl]; omega)] at p1
        simp -implicitDefEqProofs (maxDischargeDepth:=12) only [WW,List.replicate,Option.some_or,s_conv,e_conv,s_slc3,e_cut3,e_cut3n,e_bns,e_bnn,if_true,if_false,ite_true,ite_false,true_or,ne_eq,seval,beq_self_eq_true,eq_self,exists_eq_left,exists_eq_left',hB,d1,hhl,e2]
        exact ⟨k - 1,by omega,i + 1,_,f2,by omega,by rw [ef,of_cons (by simpa using hne)]; exact p1,ex_x rfl⟩
      have hjx : j < x.heads.l.length:=by omega
      have hja : j < a.heads.l.length:=by rw [hlen,exl]; exact hjx
      obtain ⟨u,hu⟩ : ∃ y,a.heads.l[j]? = some y:=⟨_,List.getElem?_eq_getElem hja⟩
      obtain ⟨w,hw⟩ : ∃ y,x.heads.l[j]? = some y:=⟨_,List.getElem?_eq_getElem hjx⟩
      have e3 : IntKind.i64.wrap ((j : Int) + 1) = ((j + 1 : Nat) : Int):=by rw [w64 (by omega) (by have:=tx.heads; omega)]; omega
      obtain ⟨b',cap',cs3,r',g2,hv',b1,b2,b3,b4,b5,b6,b7,b8,b9,b10,b11,b12,b13⟩:=note_cells p1 (i:=m) (x:=a.mergeTo x.own j) (by rw [l_some,List.getElem?_set_self hil])
      simp only [l_some,AV.slice.injEq,true_and,and_true,List.length_set] at b1
      obtain ⟨rfl,rfl⟩:=b1
      obtain ⟨bh,caph,ch,c2,c3,c4,c5,c6,c7,c8,c9⟩:=b13 j u (by rw [mergeTo_heads hlen]; exact tieUp_get hlen hu)
      rw [mergeTo_heads hlen,tieUp_len hlen] at c2
      subst c2
      obtain ⟨bx,capx,cx,x1,x2,x3,x4,x5,x6,x7,_,x9,_⟩:=head_cells hh (k:=j) (x:=w) hw
      rw [exl] at x1
      subst x1
      obtain ⟨f3,q1,q2⟩:=c9 w.tied
      have hbh : bh < q:=hlt _ (p2 _ c7)
      have hle : j * 5 + 3 + 1 ≤ ch.length:=by omega
      simp -implicitDefEqProofs (maxDischargeDepth:=12) only [WW,List.replicate,Option.some_or,s_conv,e_conv,s_slc3,e_cut3,e_cut3n,e_bns,e_bnn,if_true,if_false,ite_true,ite_false,true_or,ne_eq,seval,beq_self_eq_true,eq_self,exists_eq_left,exists_eq_left',hB,d1,hhl,hil,hjx,hja,b2,b6,c3,hle,x2,x7,e3]
      refine ⟨k' - 1,by omega,j + 1,f3,by omega,?_,?_,?_,fun c hc => p2 c (q2 c hc),ex_x rfl⟩
      · rw [c_put_ne (by omega)]; exact hB
      · exact hh.fr headQ fun c hc => c_put_ne fun e => hap bh (p2 _ c7) (e ▸ hc)
      · rw [mergeTo_succ hlen hu (show x.own.heads.l[j]? = some w from hw),l_some,List.set_set] at q1
        exact q1
end Go.Hem
namespace Go.Hem
theorem Note.cn_cn {x : Note} : x.cn.cn = x.cn:=by
  unfold Note.cn; simp only [l_of]
theorem tailB_cn {x : Note} : x.cn.tailB = x.tailB:=by
  unfold Note.tailB Note.cn; simp only [l_of]
theorem oneB_cn {a x : Note} : oneB a.cn x.cn = oneB a x:=by
  unfold oneB Note.plainB headsOne
  rw [tailB_cn]
  unfold Note.fin Note.cn; simp only [l_of]
theorem tieTo_nil {m : List Head} : tieTo [] m = []:=rfl
theorem merge_cn {a x : Note} : (merge a.cn x.cn).cn = (merge a x).cn:=by
  unfold merge Note.cn
  simp only [l_of,l_map (g:=fun l => tieTo l x.heads.l) tieTo_nil]
theorem stepT_cn {L : List Note} {x : Note} : (stepT (L.map Note.cn) x.cn).map Note.cn = (stepT L x).map Note.cn:=by
  unfold stepT
  rw [List.getLast?_map]
  cases L.getLast? with
  | none => simp [Note.cn_cn]
  | some a =>
    simp only [Option.map_some,oneB_cn]
    have e : Note.cn ∘ Note.cn = Note.cn:=by funext y; exact Note.cn_cn
    split
    · rw [List.map_set,List.map_set,merge_cn,List.map_map,e,List.length_map]
    · rw [List.map_append,List.map_append,List.map_map,e]; simp [Note.cn_cn]
theorem fold_cn : ∀ {l : List Note} {L L' : List Note},L.map Note.cn = L'.map Note.cn→((l.map Note.cn).foldl stepT L').map Note.cn = (l.foldl stepT L).map Note.cn
  | [],L,L',h => h.symm
  | x :: l,L,L',h => by
    simp only [List.map_cons,List.foldl_cons]
    refine fold_cn ?_
    rw [← stepT_cn,h,← stepT_cn (L:=L') (x:=x.cn),Note.cn_cn]
theorem hasB_cn {m : Note} {p : Pitch} : m.cn.hasB p = m.hasB p:=by
  unfold Note.hasB Note.cn; simp only [l_of]
theorem keepTie_cn {n : Note} {nx : Option Note} {h : Head} : keepTie n.cn (nx.map Note.cn) h = keepTie n nx h:=by
  unfold keepTie
  cases nx with
  | none => rfl
  | some m => simp only [Option.map_some,hasB_cn]; rfl
theorem untieN_cn {n : Note} {nx : Option Note} : (untieN n.cn (nx.map Note.cn)).cn = (untieN n nx).cn:=by
  unfold untieN
  simp only [keepTie_cn]
  unfold Note.cn
  simp only [l_of,l_map (g:=List.map fun h : Head => h.tie (keepTie n nx h)) List.map_nil]
theorem untie_cn : ∀ {l : List Note},(untie (l.map Note.cn)).map Note.cn = (untie l).map Note.cn
  | [] => rfl
  | n :: t => by
    simp only [List.map_cons,untie]
    rw [List.head?_map,untieN_cn,untie_cn]
theorem tidyP_cn {l : List Note} : (tidyP (l.map Note.cn)).map Note.cn = (tidyP l).map Note.cn:=by
  unfold tidyP
  rw [← untie_cn,fold_cn (l:=l) (L:=[]) (L':=[]) rfl,untie_cn]
theorem tidyP_of {l m : List Note} (h : l.map Note.cn = m.map Note.cn) : (tidyP l).map Note.cn = (tidyP m).map Note.cn:=by
  rw [← tidyP_cn,h,tidyP_cn]
theorem tidyR_eq {l : List Note} : (tidyR l).map Note.cn = (tidyP l).map Note.cn:=by
  show (tidyP (l.map Note.own)).map Note.cn = _
  refine tidyP_of ?_
  rw [List.map_map]; rfl
end Go.Hem
namespace Go.Hem
noncomputable section
theorem tidyR_tame {l : List Note} (h : ∀ y ∈ l,y.tame) : (∀ y ∈ tidyR l,y.tame)∧(tidyR l).length ≤ l.length:=by
  obtain ⟨a,b⟩:=foldR_tame h
  refine ⟨untie_tame a,?_⟩
  unfold tidyR
  rw [untie_len]; exact b
theorem rcheck_pv (c : Clip) (tc : c.tame) : Pv prog polS 12 [c.enc] (.sc (.int .i64 (checkE c))):=by
  refine Pv_of' ok12 (by simp only [AV.closedBs,Clip.enc_closed,Bool.and_self]) ?_
  obtain ⟨t1,t2⟩:=tc
  generalize hr : checkE c = r
  unfold checkE at hr
  by_cases b1 : c.len < 0
  · rw [if_pos (.inl b1)] at hr; subst hr
    simp -implicitDefEqProofs (maxDischargeDepth:=12) only [wpF,cf12,WW,List.replicate,Option.some_or,s_conv,e_conv,s_slc3,e_cut3,e_cut3n,e_bns,e_bnn,e_splice,if_true,if_false,ite_true,ite_false,true_or,ne_eq,seval,h_putc,beq_self_eq_true,eq_self,exists_eq_left,exists_eq_left',c.enc_eq,b1]
    exact frz_sc
  by_cases b2 : 123863040 < c.len
  · rw [if_pos (.inr b2)] at hr; subst hr
    simp -implicitDefEqProofs (maxDischargeDepth:=12) only [wpF,cf12,WW,List.replicate,Option.some_or,s_conv,e_conv,s_slc3,e_cut3,e_cut3n,e_bns,e_bnn,e_splice,if_true,if_false,ite_true,ite_false,true_or,ne_eq,seval,h_putc,beq_self_eq_true,eq_self,exists_eq_left,exists_eq_left',c.enc_eq,b1,b2]
    exact frz_sc
  rw [if_neg (by rintro (h | h) <;> contradiction)] at hr
  by_cases b3 : 4096 < c.notes.l.length
  · rw [if_pos b3] at hr; subst hr
    have b3' : (4096 : Int) < (c.notes.l.length : Int):=by omega
    simp -implicitDefEqProofs (maxDischargeDepth:=12) only [wpF,cf12,WW,List.replicate,Option.some_or,s_conv,e_conv,s_slc3,e_cut3,e_cut3n,e_bns,e_bnn,e_splice,if_true,if_false,ite_true,ite_false,true_or,ne_eq,seval,h_putc,beq_self_eq_true,eq_self,exists_eq_left,exists_eq_left',c.enc_eq,b1,b2,b3']
    exact frz_sc
  rw [if_neg b3] at hr
  have b3' : ¬ (4096 : Int) < (c.notes.l.length : Int):=by omega
  simp -implicitDefEqProofs (maxDischargeDepth:=12) only [wpF,cf12,WW,List.replicate,Option.some_or,s_conv,e_conv,s_slc3,e_cut3,e_cut3n,e_bns,e_bnn,e_splice,if_true,if_false,ite_true,ite_false,true_or,ne_eq,seval,h_putc,beq_self_eq_true,eq_self,exists_eq_left,exists_eq_left',c.enc_eq,b1,b2,b3']
  refine wp_loop (Inv:=fun k t H => ∃ (i : Nat),i + k = c.notes.l.length∧checkL c.len (prevAt c.notes.l i) (c.notes.l.drop i) = checkL c.len none c.notes.l∧H.cells 0 = some c.enc.cells∧1 ≤ H.next ∧
    ∃ x : Nat→AV,t = [c.enc,.ptr 0 0,x 2,.sc (.int .i64 i),x 4,x 5,x 6,x 7,x 8,x 9,x 10,x 11,x 12,x 13,x 14,x 15,x 16,x 17,x 18,x 19,x 20,x 21,x 22,x 23,x 24,x 25,x 26,x 27,x 28,x 29,x 30,x 31,x 32,x 33,x 34,x 35,x 36,x 37,x 38,x 39,x 40,x 41,x 42,x 43,x 44,x 45,x 46,x 47,x 48,x 49,x 50,x 51,x 52,x 53,x 54,x 55,x 56,x 57,x 58,x 59,x 60,x 61,x 62,x 63,x 64,x 65,x 66,x 67,x 68,x 69,x 70,x 71,x 72,x 73,x 74,x 75,x 76,x 77,x 78,x 79,x 80,x 81,x 82,x 83,x 84,x 85,x 86,x 87,x 88,x 89,x 90,x 91]) (k:=c.notes.l.length) ?_
    ⟨0,by omega,rfl,?_,by simp,ex_x rfl⟩
  rotate_left
  · simp -implicitDefEqProofs (maxDischargeDepth:=12) only [WW,List.replicate,Option.some_or,s_conv,e_conv,s_slc3,e_cut3,e_cut3n,e_bns,e_bnn,e_splice,if_true,if_false,ite_true,ite_false,true_or,ne_eq,seval,h_putc,beq_self_eq_true,eq_self,exists_eq_left,exists_eq_left']; rfl
  rintro k t H ⟨i,hk,hf,hA,hN,x,rfl⟩
  simp only [c.enc_eq,c_agg] at hA
  by_cases c1 : (i : Int) < (c.notes.l.length : Int)
  · obtain ⟨y,hy⟩ : ∃ y,c.notes.l[i]? = some y:=⟨_,List.getElem?_eq_getElem (by omega)⟩
    have ty:=t2 y (List.mem_of_getElem? hy)
    have e2 : IntKind.i64.wrap ((i : Int) + 1) = ((i + 1 : Nat) : Int):=by rw [w64 (by omega) (by omega)]; omega
    have q0 : ¬ 0 = H.next:=by omega
    have q1 : ¬ H.next = 0:=by omega
    rw [drop_cons hy] at hf
    simp only [checkL] at hf
    generalize hrr : checkL c.len none c.notes.l = rr at hf hr
    have hrr2 : rr ≠ 0→r = rr:=fun h => by rw [if_pos h] at hr; exact hr.symm
    by_cases c3 : y.at_ < 0
    · rw [if_pos (.inl c3)] at hf; rw [hrr2 (by rw [← hf]; decide),← hf]
      simp -implicitDefEqProofs (maxDischargeDepth:=12) only [WW,List.replicate,Option.some_or,s_conv,e_conv,s_slc3,e_cut3,e_cut3n,e_bns,e_bnn,e_splice,if_true,if_false,ite_true,ite_false,true_or,ne_eq,seval,h_putc,beq_self_eq_true,eq_self,exists_eq_left,exists_eq_left',hA,c1,hy,y.enc_eq,q0,q1,c3]
      exact frz_sc
    by_cases c4 : y.len < 1
    · rw [if_pos (.inr (.inl c4))] at hf; rw [hrr2 (by rw [← hf]; decide),← hf]
      simp -implicitDefEqProofs (maxDischargeDepth:=12) only [WW,List.replicate,Option.some_or,s_conv,e_conv,s_slc3,e_cut3,e_cut3n,e_bns,e_bnn,e_splice,if_true,if_false,ite_true,ite_false,true_or,ne_eq,seval,h_putc,beq_self_eq_true,eq_self,exists_eq_left,exists_eq_left',hA,c1,hy,y.enc_eq,q0,q1,c3,c4]
      exact frz_sc
    by_cases c5 : c.len < y.at_
    · rw [if_pos (.inr (.inr (.inl c5)))] at hf; rw [hrr2 (by rw [← hf]; decide),← hf]
      simp -implicitDefEqProofs (maxDischargeDepth:=12) only [WW,List.replicate,Option.some_or,s_conv,e_conv,s_slc3,e_cut3,e_cut3n,e_bns,e_bnn,e_splice,if_true,if_false,ite_true,ite_false,true_or,ne_eq,seval,h_putc,beq_self_eq_true,eq_self,exists_eq_left,exists_eq_left',hA,c1,hy,y.enc_eq,q0,q1,c3,c4,c5]
      exact frz_sc
    by_cases c6 : IntKind.i64.wrap (c.len - y.at_) < y.len
    · rw [if_pos (.inr (.inr (.inr c6)))] at hf; rw [hrr2 (by rw [← hf]; decide),← hf]
      simp -implicitDefEqProofs (maxDischargeDepth:=12) only [WW,List.replicate,Option.some_or,s_conv,e_conv,s_slc3,e_cut3,e_cut3n,e_bns,e_bnn,e_splice,if_true,if_false,ite_true,ite_false,true_or,ne_eq,seval,h_putc,beq_self_eq_true,eq_self,exists_eq_left,exists_eq_left',hA,c1,hy,y.enc_eq,q0,q1,c3,c4,c5,c6]
      exact frz_sc
    rw [if_neg (by unfold outR; rintro (h | h | h | h) <;> contradiction)] at hf
    by_cases i0 : (0 : Int) < (i : Int)
    · obtain ⟨m,hm⟩ : ∃ y,c.notes.l[i - 1]? = some y:=⟨_,List.getElem?_eq_getElem (by omega)⟩
      have hp : prevAt c.notes.l i = some m:=by unfold prevAt; rw [if_neg (by omega),hm]
      have em : IntKind.i64.wrap ((i : Int) - 1) = ((i - 1 : Nat) : Int):=by rw [w64 (by omega) (by omega)]; omega
      have hfin : IntKind.i64.wrap (m.at_ + m.len) = m.fin:=rfl
      rw [hp] at hf
      by_cases c7 : y.at_ < m.fin
      · rw [if_pos (show early (some m) y from c7)] at hf
        rw [hrr2 (by rw [← hf]; decide),← hf]
        simp -implicitDefEqProofs (maxDischargeDepth:=12) only [WW,List.replicate,Option.some_or,s_conv,e_conv,s_slc3,e_cut3,e_cut3n,e_bns,e_bnn,e_splice,if_true,if_false,ite_true,ite_false,true_or,ne_eq,seval,h_putc,beq_self_eq_true,eq_self,exists_eq_left,exists_eq_left',hA,c1,hy,y.enc_eq,q0,q1,c3,c4,c5,c6,i0,em,hm,m.enc_eq,hfin,c7]
        exact frz_sc
      rw [if_neg (show ¬ early (some m) y from c7)] at hf
      simp -implicitDefEqProofs (maxDischargeDepth:=12) only [WW,List.replicate,Option.some_or,s_conv,e_conv,s_slc3,e_cut3,e_cut3n,e_bns,e_bnn,e_splice,if_true,if_false,ite_true,ite_false,true_or,ne_eq,seval,h_putc,beq_self_eq_true,eq_self,exists_eq_left,exists_eq_left',hA,c1,hy,y.enc_eq,q0,q1,c3,c4,c5,c6,i0,em,hm,m.enc_eq,hfin,c7]
      rw [← y.enc_eq]
      refine wA_pure rfl (rchord_pv y) ?_
      simp -implicitDefEqProofs (maxDischargeDepth:=12) only [WW,List.replicate,Option.some_or,s_conv,e_conv,s_slc3,e_cut3,e_cut3n,e_bns,e_bnn,e_splice,if_true,if_false,ite_true,ite_false,true_or,ne_eq,seval,h_putc,beq_self_eq_true,eq_self,exists_eq_left,exists_eq_left']
      refine wA_pure rfl (echeck_pv y ty) ?_
      by_cases c8 : chordE y = 0
      · rw [if_neg (by simpa using c8)] at hf
        simp -implicitDefEqProofs (maxDischargeDepth:=12) only [WW,List.replicate,Option.some_or,s_conv,e_conv,s_slc3,e_cut3,e_cut3n,e_bns,e_bnn,e_splice,if_true,if_false,ite_true,ite_false,true_or,ne_eq,seval,h_putc,beq_self_eq_true,eq_self,exists_eq_left,exists_eq_left',c8,e2]
        exact ⟨k - 1,by omega,i + 1,by omega,by rw [prev_succ hy]; exact hf,by rw [if_neg q0,if_neg q0,hA]; rfl,ex_x rfl⟩
      · rw [if_pos c8] at hf
        rw [hrr2 (by rw [← hf]; exact c8),← hf]
        simp -implicitDefEqProofs (maxDischargeDepth:=12) only [WW,List.replicate,Option.some_or,s_conv,e_conv,s_slc3,e_cut3,e_cut3n,e_bns,e_bnn,e_splice,if_true,if_false,ite_true,ite_false,true_or,ne_eq,seval,h_putc,beq_self_eq_true,eq_self,exists_eq_left,exists_eq_left',c8]
        exact frz_sc
    · have hp : prevAt c.notes.l i = none:=by unfold prevAt; rw [if_pos (by omega)]
      rw [hp,if_neg (show ¬ early none y from fun h => h)] at hf
      simp -implicitDefEqProofs (maxDischargeDepth:=12) only [WW,List.replicate,Option.some_or,s_conv,e_conv,s_slc3,e_cut3,e_cut3n,e_bns,e_bnn,e_splice,if_true,if_false,ite_true,ite_false,true_or,ne_eq,seval,h_putc,beq_self_eq_true,eq_self,exists_eq_left,exists_eq_left',hA,c1,hy,y.enc_eq,q0,q1,c3,c4,c5,c6,i0]
      rw [← y.enc_eq]
      refine wA_pure rfl (rchord_pv y) ?_
      simp -implicitDefEqProofs (maxDischargeDepth:=12) only [WW,List.replicate,Option.some_or,s_conv,e_conv,s_slc3,e_cut3,e_cut3n,e_bns,e_bnn,e_splice,if_true,if_false,ite_true,ite_false,true_or,ne_eq,seval,h_putc,beq_self_eq_true,eq_self,exists_eq_left,exists_eq_left']
      refine wA_pure rfl (echeck_pv y ty) ?_
      by_cases c8 : chordE y = 0
      · rw [if_neg (by simpa using c8)] at hf
        simp -implicitDefEqProofs (maxDischargeDepth:=12) only [WW,List.replicate,Option.some_or,s_conv,e_conv,s_slc3,e_cut3,e_cut3n,e_bns,e_bnn,e_splice,if_true,if_false,ite_true,ite_false,true_or,ne_eq,seval,h_putc,beq_self_eq_true,eq_self,exists_eq_left,exists_eq_left',c8,e2]
        exact ⟨k - 1,by omega,i + 1,by omega,by rw [prev_succ hy]; exact hf,by rw [if_neg q0,if_neg q0,hA]; rfl,ex_x rfl⟩
      · rw [if_pos c8] at hf
        rw [hrr2 (by rw [← hf]; exact c8),← hf]
        simp -implicitDefEqProofs (maxDischargeDepth:=12) only [WW,List.replicate,Option.some_or,s_conv,e_conv,s_slc3,e_cut3,e_cut3n,e_bns,e_bnn,e_splice,if_true,if_false,ite_true,ite_false,true_or,ne_eq,seval,h_putc,beq_self_eq_true,eq_self,exists_eq_left,exists_eq_left',c8]
        exact frz_sc
  · rw [drop_end c1] at hf
    have hf0 : checkL c.len none c.notes.l = 0:=hf.symm
    rw [hf0,if_neg (by simp)] at hr
    simp -implicitDefEqProofs (maxDischargeDepth:=12) only [WW,List.replicate,Option.some_or,s_conv,e_conv,s_slc3,e_cut3,e_cut3n,e_bns,e_bnn,e_splice,if_true,if_false,ite_true,ite_false,true_or,ne_eq,seval,h_putc,beq_self_eq_true,eq_self,exists_eq_left,exists_eq_left',hA,c1]
    refine wA_pure rfl (rtidy_pv c.notes t1 t2) ?_
    have tt:=tidyR_tame t2
    simp -implicitDefEqProofs (maxDischargeDepth:=12) only [WW,List.replicate,Option.some_or,s_conv,e_conv,s_slc3,e_cut3,e_cut3n,e_bns,e_bnn,e_splice,if_true,if_false,ite_true,ite_false,true_or,ne_eq,seval,h_putc,beq_self_eq_true,eq_self,exists_eq_left,exists_eq_left',hA]
    refine wA_pure rfl (same_pv ⟨0,Sl.of (tidyR c.notes.l)⟩ ⟨0,c.notes⟩ (by rw [l_of]; omega) (by rw [l_of]; exact fun y hy => Note.chord_tame (tt.1 y hy))) ?_
    have e : ((⟨0,Sl.of (tidyR c.notes.l)⟩ : Clip).cn = (⟨0,c.notes⟩ : Clip).cn) = ((tidyP c.notes.l).map Note.cn = c.notes.l.map Note.cn):=by
      rw [← tidyR_eq]
      refine propext ⟨fun k => ?_,fun k => Clip.cn_iff.2 ⟨rfl,by rw [l_of]; exact k⟩⟩
      have:=(Clip.cn_iff.1 k).2
      rwa [l_of] at this
    simp only [e]
    by_cases d1 : (tidyP c.notes.l).map Note.cn = c.notes.l.map Note.cn
    · rw [if_pos d1] at hr; subst hr
      simp -implicitDefEqProofs (maxDischargeDepth:=12) only [WW,List.replicate,Option.some_or,s_conv,e_conv,s_slc3,e_cut3,e_cut3n,e_bns,e_bnn,e_splice,if_true,if_false,ite_true,ite_false,true_or,ne_eq,seval,h_putc,beq_self_eq_true,eq_self,exists_eq_left,exists_eq_left',eq_true d1]
      exact frz_sc
    · rw [if_neg d1] at hr; subst hr
      simp -implicitDefEqProofs (maxDischargeDepth:=12) only [WW,List.replicate,Option.some_or,s_conv,e_conv,s_slc3,e_cut3,e_cut3n,e_bns,e_bnn,e_splice,if_true,if_false,ite_true,ite_false,true_or,ne_eq,seval,h_putc,beq_self_eq_true,eq_self,exists_eq_left,exists_eq_left',d1]
      exact frz_sc
end
end Go.Hem
namespace Go.Hem
noncomputable section
def NoOne (L : List Note) : Prop:=∀ i a b,L[i]? = some a→L[i + 1]? = some b→oneB a b = false
def Ties (L : List Note) : Prop:=∀ i n,L[i]? = some n→∀ h ∈ n.heads.l,h.tied = true→keepTie n L[i + 1]? h = true
def Neat (L : List Note) : Prop:=NoOne L∧Ties L
theorem noOne_nil : NoOne []:=fun i a b h => by simp at h
theorem noOne_snoc {L : List Note} {x : Note} (h : NoOne L) (hx : ∀ a,L.getLast? = some a→oneB a x = false) : NoOne (L ++ [x]):=by
  intro i a b h1 h2
  by_cases c : i + 1 < L.length
  · rw [List.getElem?_append_left (by omega)] at h1
    rw [List.getElem?_append_left c] at h2
    exact h i a b h1 h2
  · have hl:=(List.getElem?_eq_some_iff.1 h2).1
    simp only [List.length_append,List.length_cons,List.length_nil] at hl
    have e : i + 1 = L.length:=by omega
    rw [List.getElem?_append_right (by omega),e,Nat.sub_self] at h2
    simp only [List.getElem?_cons_zero,Option.some.injEq] at h2
    subst h2
    rw [List.getElem?_append_left (by omega)] at h1
    exact hx a (by rw [List.getLast?_eq_getElem?,← h1]; congr 1; omega)
theorem noOne_set {L : List Note} {a a' : Note} (h : NoOne L) (ha : L.getLast? = some a) (he : ∀ c,oneB c a' = oneB c a) : NoOne (L.set (L.length - 1) a'):=by
  have hat:=getLast_at ha
  intro i c d h1 h2
  have hl:=(List.getElem?_eq_some_iff.1 h2).1
  simp only [List.length_set] at hl
  rw [List.getElem?_set_ne (by omega)] at h1
  by_cases e : i + 1 = L.length - 1
  · rw [← e,List.getElem?_set_self (by omega)] at h2
    simp only [Option.some.injEq] at h2
    subst h2
    rw [he]
    exact h i c a h1 (by rw [e]; exact hat)
  · rw [List.getElem?_set_ne (by omega)] at h2
    exact h i c d h1 h2
theorem tieTo_map {β : Type} {f : Head→β} (hf : ∀ h b,f (h.tie b) = f h) : ∀ {l m : List Head},l.length = m.length→(tieTo l m).map f = l.map f
  | [],_,_ => by simp [tieTo]
  | h :: l,[],e => by simp at e
  | h :: l,k :: m,e => by
    have:=tieTo_map (f:=f) hf (l:=l) (m:=m) (by simpa using e)
    simp only [tieTo,List.zipWith_cons_cons,List.map_cons] at this ⊢
    rw [this]
    have:=hf h k.tied
    unfold Head.tie at this
    rw [this]
theorem all_map_eq {α β : Type} {f : α→β} {p : β→Bool} {l m : List α} (h : l.map f = m.map f) : (l.all fun x => p (f x)) = m.all fun x => p (f x):=by
  have:=congrArg (List.all · p) h
  simpa [List.all_map,Function.comp_def] using this
theorem oneB_of {a b c d : Note} (h1 : a.fin = c.fin) (h2 : b.at_ = d.at_) (h3 : b.heads.l.map Head.shown = d.heads.l.map Head.shown) (h4 : b.tailB = d.tailB) (h5 : a.heads.l.map Head.tied = c.heads.l.map Head.tied) (h6 : a.heads.l.map Head.pitch = c.heads.l.map Head.pitch) (h7 : b.heads.l.map Head.pitch = d.heads.l.map Head.pitch) : oneB a b = oneB c d:=by
  unfold oneB Note.plainB headsOne
  rw [h1,h2,h4,h6,h7,all_map_eq (p:=fun x => decide (x = 0)) h3,all_map_eq (p:=fun x => x) h5]
theorem merge_heads {a x : Note} : (merge a x).heads.l = tieTo a.heads.l x.heads.l:=by
  show Sl.l (a.heads.map _) = _
  cases a.heads <;> simp [Sl.l,tieTo]
theorem oneB_merge {a x c : Note} (h : oneB a x = true) : oneB c (merge a x) = oneB c a:=by
  have hl:=oneB_len h
  exact oneB_of rfl rfl (by rw [merge_heads]; exact tieTo_map (fun _ _ => rfl) hl) rfl rfl rfl (by rw [merge_heads]; exact tieTo_map (fun _ _ => rfl) hl)
theorem stepT_noOne {L : List Note} {x : Note} (h : NoOne L) : NoOne (stepT L x):=by
  unfold stepT
  cases hl : L.getLast? with
  | none =>
    intro i a b _ h2
    simp at h2
  | some a =>
    simp only
    cases h1 : oneB a x with
    | true => rw [if_pos rfl]; exact noOne_set h hl fun c => oneB_merge h1
    | false =>
      rw [if_neg (by simp)]
      exact noOne_snoc h fun b hb => by rw [hl,Option.some.injEq] at hb; rw [← hb]; exact h1
theorem fold_noOne : ∀ {l L : List Note},NoOne L→NoOne (l.foldl stepT L)
  | [],_,h => h
  | x :: l,L,h => by rw [List.foldl_cons]; exact fold_noOne (stepT_noOne h)
theorem fold_id : ∀ {l P : List Note},NoOne (P ++ l)→l.foldl stepT P = P ++ l
  | [],P,_ => by simp
  | x :: l,P,h => by
    have e : stepT P x = P ++ [x]:=by
      unfold stepT
      cases hl : P.getLast? with
      | none => rw [List.getLast?_eq_none_iff.1 hl]; rfl
      | some a =>
        have hat:=getLast_at hl
        have hlen:=(List.getElem?_eq_some_iff.1 hat).1
        have:=h (P.length - 1) a x (by rw [List.getElem?_append_left (by omega)]; exact hat) (by rw [List.getElem?_append_right (by omega)]; simp [show P.length - 1 + 1 - P.length = 0 by omega])
        simp only [this,Bool.false_eq_true,if_false]
    rw [List.foldl_cons,e,fold_id (by simpa using h)]; simp
theorem untieN_heads {n : Note} {nx : Option Note} : (untieN n nx).heads.l = n.heads.l.map fun h => h.tie (keepTie n nx h):=by
  show Sl.l (n.heads.map _) = _
  cases n.heads <;> simp [Sl.l]
theorem untieN_hmap {β : Type} {f : Head→β} (hf : ∀ h b,f (h.tie b) = f h) {n : Note} {nx : Option Note} : (untieN n nx).heads.l.map f = n.heads.l.map f:=by
  rw [untieN_heads,List.map_map]
  exact List.map_congr_left fun h _ => hf h _
theorem untie_at {L : List Note} {i : Nat} {a : Note} (h : (untie L)[i]? = some a) : ∃ n,L[i]? = some n∧a = untieN n L[i + 1]?:=by
  have hi:=(List.getElem?_eq_some_iff.1 h).1
  rw [untie_len] at hi
  refine ⟨L[i],List.getElem?_eq_getElem hi,?_⟩
  have:=untie_get (List.getElem?_eq_getElem hi)
  rw [this] at h; exact (Option.some.inj h).symm
theorem keepTie_tied {n : Note} {nx : Option Note} {h : Head} (k : keepTie n nx h = true) : h.tied = true:=by
  unfold keepTie at k; rw [Bool.and_eq_true] at k; exact k.1
theorem oneB_untied {a b : Note} {x y : Option Note} (h : oneB (untieN a x) (untieN b y) = true) : oneB a b = true:=by
  unfold oneB Note.plainB headsOne at h ⊢
  have s:=untieN_hmap (f:=Head.shown) (fun _ _ => rfl) (n:=b) (nx:=y)
  rw [all_map_eq (p:=fun x => decide (x = 0)) s,untieN_hmap (f:=Head.pitch) (fun _ _ => rfl),untieN_hmap (f:=Head.pitch) (fun _ _ => rfl),untieN_heads] at h
  simp only [Bool.and_eq_true,decide_eq_true_eq] at h ⊢
  obtain ⟨h1,⟨h2,h3⟩,h4,h5⟩:=h
  refine ⟨h1,⟨h2,h3⟩,?_,h5⟩
  rw [List.all_map,List.all_eq_true] at h4
  rw [List.all_eq_true]
  intro k hk
  exact keepTie_tied (h4 k hk)
theorem untie_noOne {L : List Note} (h : NoOne L) : NoOne (untie L):=by
  intro i a b h1 h2
  obtain ⟨n,e1,rfl⟩:=untie_at h1
  obtain ⟨m,e2,rfl⟩:=untie_at h2
  cases k : oneB (untieN n L[i + 1]?) (untieN m L[i + 1 + 1]?) with
  | false => rfl
  | true => have:=oneB_untied k; rw [h i n m e1 e2] at this; cases this
theorem hasB_of {a b : Note} (h : a.heads.l.map Head.pitch = b.heads.l.map Head.pitch) (p : Pitch) : a.hasB p = b.hasB p:=by
  unfold Note.hasB
  have:=congrArg (List.any · fun q => decide (q = p)) h
  simpa [List.any_map,Function.comp_def] using this
theorem untie_ties {L : List Note} : Ties (untie L):=by
  intro i a h1 h hh ht
  obtain ⟨n,e1,rfl⟩:=untie_at h1
  rw [untieN_heads,List.mem_map] at hh
  obtain ⟨k,hk,rfl⟩:=hh
  have ht' : keepTie n L[i + 1]? k = true:=ht
  have hm:=ht'
  unfold keepTie at hm ⊢
  rw [Bool.and_eq_true] at hm ⊢
  refine ⟨ht,?_⟩
  have hm2:=hm.2
  cases e2 : L[i + 1]? with
  | none => rw [e2] at hm2; simp at hm2
  | some m =>
    rw [untie_get e2]
    rw [e2] at hm2
    simp only [Bool.and_eq_true,decide_eq_true_eq] at hm2 ⊢
    exact ⟨hm2.1,by rw [hasB_of (untieN_hmap (f:=Head.pitch) fun _ _ => rfl)]; exact hm2.2⟩
theorem neat_tidy {l : List Note} : Neat (tidyP l):=⟨untie_noOne (fold_noOne noOne_nil),untie_ties⟩
theorem untie_id {L : List Note} (h : Ties L) : untie L = L:=by
  apply List.ext_getElem?
  intro i
  cases e : L[i]? with
  | none => rw [List.getElem?_eq_none_iff] at e ⊢; rw [untie_len]; exact e
  | some n =>
    rw [untie_get e,Option.some.injEq]
    unfold untieN
    have : n.heads.map (List.map fun h => h.tie (keepTie n L[i + 1]? h)) = n.heads:=by
      cases eh : n.heads with
      | none => rfl
      | some l =>
        simp only [Option.map_some,Option.some.injEq]
        have : ∀ h ∈ l,h.tie (keepTie n L[i + 1]? h) = h:=fun k hk => by
          cases ht : k.tied with
          | true => rw [h i n e k (by rw [eh]; exact hk) ht,← ht]; rfl
          | false =>
            have : keepTie n L[i + 1]? k = false:=by unfold keepTie; rw [ht]; rfl
            rw [this,← ht]; rfl
        rw [List.map_congr_left this]; simp
    rw [this]
theorem tidy_id {L : List Note} (h : Neat L) : tidyP L = L:=by
  unfold tidyP
  rw [fold_id (P:=[]) (by simpa using h.1)]
  exact untie_id h.2
theorem at_cn {L M : List Note} (h : L.map Note.cn = M.map Note.cn) {i : Nat} {m : Note} (hm : M[i]? = some m) : ∃ n,L[i]? = some n∧n.cn = m.cn:=by
  have:=congrArg (·[i]?) h
  simp only [List.getElem?_map,hm,Option.map_some] at this
  cases e : L[i]? with
  | none => rw [e] at this; cases this
  | some n => rw [e] at this; exact ⟨n,rfl,Option.some.inj this⟩
theorem opt_cn {L M : List Note} (h : L.map Note.cn = M.map Note.cn) (i : Nat) : L[i]?.map Note.cn = M[i]?.map Note.cn:=by
  have:=congrArg (·[i]?) h
  simpa only [List.getElem?_map] using this
theorem heads_cn {a b : Note} (h : a.cn = b.cn) : a.heads.l = b.heads.l:=by
  have:=congrArg Note.heads h
  exact of_inj.1 this
theorem neat_cn {L M : List Note} (h : L.map Note.cn = M.map Note.cn) (k : Neat L) : Neat M:=by
  refine ⟨fun i a b h1 h2 => ?_,fun i n h1 x hx ht => ?_⟩
  · obtain ⟨c,c1,c2⟩:=at_cn h h1
    obtain ⟨d,d1,d2⟩:=at_cn h h2
    rw [← oneB_cn,← c2,← d2,oneB_cn]
    exact k.1 i c d c1 d1
  · obtain ⟨c,c1,c2⟩:=at_cn h h1
    rw [← keepTie_cn,← c2,← opt_cn h,keepTie_cn]
    exact k.2 i c c1 x (by rw [heads_cn c2]; exact hx) ht
theorem neat_iff {l : List Note} : (tidyP l).map Note.cn = l.map Note.cn ↔ Neat l :=
  ⟨fun h => neat_cn h neat_tidy,fun h => by rw [tidy_id h]⟩
end
end Go.Hem
namespace Go.Hem
noncomputable section
structure NFit (L : Int) (n : Note) : Prop where
  lo : 0 ≤ n.at_
  one : 1 ≤ n.len
  hi : n.at_ + n.len ≤ L
  ok : chordE n = 0
def Before (m n : Note) : Prop:=m.at_ + m.len ≤ n.at_
structure Row (L : Int) (l : List Note) : Prop where
  fit : ∀ n ∈ l,NFit L n
  ord : l.Pairwise Before
theorem NFit.fin_eq {L : Int} {n : Note} (h : NFit L n) (hL : L ≤ 123863040) : n.fin = n.at_ + n.len:=by
  have:=h.lo; have:=h.one; have:=h.hi
  unfold Note.fin
  exact w64 (by omega) (by omega)
theorem row_nil {L : Int} : Row L []:=⟨by simp,.nil⟩
theorem checkL_row {L : Int} (h0 : 0 ≤ L) (hL : L ≤ 123863040) : ∀ {l : List Note} {p : Option Note},(∀ m,p = some m→NFit L m)→checkL L p l = 0→Row L l∧∀ m,p = some m→∀ n ∈ l,Before m n
  | [],p,_,_ => ⟨row_nil,by simp⟩
  | n :: t,p,hp,h => by
    simp only [checkL] at h
    by_cases c1 : outR L n
    · rw [if_pos c1] at h; simp at h
    rw [if_neg c1] at h
    by_cases c2 : early p n
    · rw [if_pos c2] at h; simp at h
    rw [if_neg c2] at h
    by_cases c3 : chordE n ≠ 0
    · rw [if_pos c3] at h; exact absurd h c3
    rw [if_neg c3] at h
    have c3' : chordE n = 0:=by simpa using c3
    unfold outR at c1
    have q1 : 0 ≤ n.at_:=by omega
    have q2 : 1 ≤ n.len:=by omega
    have q3 : n.at_ ≤ L:=by omega
    have q4 : IntKind.i64.wrap (L - n.at_) = L - n.at_:=w64 (by omega) (by omega)
    rw [q4] at c1
    have fn : NFit L n:=⟨q1,q2,by omega,c3'⟩
    obtain ⟨r1,r2⟩:=checkL_row h0 hL (p:=some n) (fun m e => by cases e; exact fn) h
    have hb : ∀ m,p = some m→Before m n:=fun m e => by
      subst e
      have:=(hp m rfl).fin_eq hL
      simp only [early] at c2
      unfold Before; omega
    refine ⟨⟨fun x hx => ?_,List.pairwise_cons.2 ⟨r2 n rfl,r1.ord⟩⟩,fun m e x hx => ?_⟩
    · rcases List.mem_cons.1 hx with rfl | hx
      · exact fn
      · exact r1.fit x hx
    · rcases List.mem_cons.1 hx with rfl | hx
      · exact hb m e
      · have a:=hb m e
        have b:=r2 n rfl x hx
        unfold Before at a b ⊢; omega
theorem row_checkL {L : Int} (h0 : 0 ≤ L) (hL : L ≤ 123863040) : ∀ {l : List Note} {p : Option Note},(∀ m,p = some m→NFit L m∧∀ n ∈ l,Before m n)→Row L l→checkL L p l = 0
  | [],p,_,_ => rfl
  | n :: t,p,hp,h => by
    have fn:=h.fit n (by simp)
    have:=fn.lo; have:=fn.one; have:=fn.hi
    have q4 : IntKind.i64.wrap (L - n.at_) = L - n.at_:=w64 (by omega) (by omega)
    simp only [checkL]
    rw [if_neg (by unfold outR; rw [q4]; omega),if_neg,if_neg (by rw [fn.ok]; simp)]
    · obtain ⟨a,b⟩:=List.pairwise_cons.1 h.ord
      exact row_checkL h0 hL (fun m e => by cases e; exact ⟨fn,a⟩) ⟨fun x hx => h.fit x (by simp [hx]),b⟩
    · cases p with
      | none => exact fun h => h
      | some m =>
        obtain ⟨a,b⟩:=hp m rfl
        have:=a.fin_eq hL
        have:=b n (by simp)
        simp only [early]
        unfold Before at this; omega
structure Good (c : Clip) : Prop where
  lo : 0 ≤ c.len
  hi : c.len ≤ 123863040
  row : Row c.len c.notes.l
  neat : Neat c.notes.l
theorem good_of {c : Clip} (h : checkE c = 0) : Good c:=by
  unfold checkE at h
  by_cases c1 : c.len < 0 ∨ 123863040 < c.len
  · rw [if_pos c1] at h; simp at h
  rw [if_neg c1] at h
  by_cases c2 : 4096 < c.notes.l.length
  · rw [if_pos c2] at h; simp at h
  rw [if_neg c2] at h
  by_cases c3 : checkL c.len none c.notes.l ≠ 0
  · rw [if_pos c3] at h; exact absurd h c3
  rw [if_neg c3] at h
  by_cases c4 : (tidyP c.notes.l).map Note.cn = c.notes.l.map Note.cn
  · exact ⟨by omega,by omega,(checkL_row (by omega) (by omega) (p:=none) (fun m e => by cases e) (by simpa using c3)).1,neat_iff.1 c4⟩
  · rw [if_neg c4] at h; simp at h
theorem check_of {c : Clip} (h : Good c) (hl : c.notes.l.length ≤ 4096) : checkE c = 0:=by
  unfold checkE
  have:=h.lo; have:=h.hi
  rw [if_neg (by omega),if_neg (by omega),row_checkL h.lo h.hi (fun m e => by cases e) h.row,if_neg (by simp),if_pos (neat_iff.2 h.neat)]
theorem headsL_of : ∀ {l m : List Head} {q : Int},l.map Head.pitch = m.map Head.pitch→l.map Head.shown = m.map Head.shown→headsL q l = headsL q m
  | [],[],_,_,_ => rfl
  | [],_ :: _,_,h,_ => by simp at h
  | _ :: _,[],_,h,_ => by simp at h
  | x :: l,y :: m,q,h1,h2 => by
    simp only [List.map_cons,List.cons.injEq] at h1 h2
    have e : wellE x = wellE y:=by unfold wellE; rw [h1.1,h2.1]
    simp only [headsL]
    rw [e,h1.1,headsL_of h1.2 h2.2]
theorem headsE_of {l m : List Head} (h1 : l.map Head.pitch = m.map Head.pitch) (h2 : l.map Head.shown = m.map Head.shown) : headsE l = headsE m:=by
  unfold headsE
  rw [map_inj_len h1,headsL_of h1 h2]
theorem chordE_of {a b : Note} (h1 : a.heads.l.map Head.pitch = b.heads.l.map Head.pitch) (h2 : a.heads.l.map Head.shown = b.heads.l.map Head.shown) (h3 : a.graces.l = b.graces.l) (h4 : a.lyrics.l = b.lyrics.l) (h5 : a.articulations = b.articulations) (h6 : a.ornament = b.ornament) (h7 : a.dynamic = b.dynamic) : chordE a = chordE b:=by
  unfold chordE
  rw [headsE_of h1 h2,h3,h4,h5,h6,h7]
theorem chordE_untie {n : Note} {nx : Option Note} : chordE (untieN n nx) = chordE n :=
  chordE_of (untieN_hmap fun _ _ => rfl) (untieN_hmap fun _ _ => rfl) rfl rfl rfl rfl rfl
theorem chordE_merge {a x : Note} (h : oneB a x = true) : chordE (merge a x) = chordE a:=by
  have hl:=oneB_len h
  exact chordE_of (by rw [merge_heads]; exact tieTo_map (fun _ _ => rfl) hl) (by rw [merge_heads]; exact tieTo_map (fun _ _ => rfl) hl) rfl rfl rfl rfl rfl
theorem set_last {α : Type} {P : List α} {a b : α} : (P ++ [a]).set ((P ++ [a]).length - 1) b = P ++ [b]:=by
  rw [List.set_append_right _ _ (by simp)]; simp
theorem step_row {L : Int} (hL : L ≤ 123863040) {P l : List Note} {x : Note} (h : Row L (P ++ x :: l)) : Row L (stepT P x ++ l):=by
  unfold stepT
  cases hl : P.getLast? with
  | none =>
    have : P = []:=List.getLast?_eq_none_iff.1 hl
    subst this
    exact h
  | some a =>
    simp only
    cases h1 : oneB a x with
    | false => rw [if_neg (by simp)]; simpa using h
    | true =>
      rw [if_pos rfl]
      obtain ⟨Q,rfl⟩ : ∃ Q,P = Q ++ [a]:=by
        have hne : P ≠ []:=fun e => by subst e; cases hl
        refine ⟨P.dropLast,?_⟩
        have:=List.dropLast_concat_getLast hne
        rw [List.getLast?_eq_some_getLast hne,Option.some.injEq] at hl
        rw [hl] at this; exact this.symm
      rw [set_last]
      have fa:=h.fit a (by simp)
      have fx:=h.fit x (by simp)
      have hf : a.fin = x.at_:=by unfold oneB at h1; simp only [Bool.and_eq_true,decide_eq_true_eq] at h1; exact h1.1
      rw [fa.fin_eq hL] at hf
      have b1:=fa.lo; have b2:=fa.one; have b3:=fa.hi; have b4:=fx.lo; have b5:=fx.one; have b6:=fx.hi
      have e1 : (merge a x).len = a.len + x.len:=by show IntKind.i64.wrap _ = _; exact w64 (by omega) (by omega)
      have e2 : (merge a x).at_ = a.at_:=rfl
      have ho:=h.ord
      rw [List.append_assoc,List.pairwise_append] at ho
      obtain ⟨o1,o2,o3⟩:=ho
      simp only [List.cons_append,List.nil_append] at o2
      rw [List.pairwise_cons,List.pairwise_cons] at o2
      refine ⟨fun n hn => ?_,?_⟩
      · rw [List.append_assoc,List.mem_append] at hn
        simp only [List.cons_append,List.nil_append,List.mem_cons] at hn
        rcases hn with hn | rfl | hn
        · exact h.fit n (by simp [hn])
        · exact ⟨by omega,by omega,by omega,by rw [chordE_merge h1]; exact fa.ok⟩
        · exact h.fit n (by simp [hn])
      · rw [List.append_assoc,List.pairwise_append]
        simp only [List.cons_append,List.nil_append]
        refine ⟨o1,List.pairwise_cons.2 ⟨fun n hn => ?_,o2.2.2⟩,fun c hc n hn => ?_⟩
        · have:=o2.2.1 n hn
          unfold Before at this ⊢; omega
        · rcases List.mem_cons.1 hn with rfl | hn
          · have:=o3 c hc a (by simp)
            unfold Before at this ⊢; omega
          · exact o3 c hc n (by simp [hn])
theorem fold_row {L : Int} (hL : L ≤ 123863040) : ∀ {l P : List Note},Row L (P ++ l)→Row L (l.foldl stepT P)
  | [],P,h => by simpa using h
  | x :: l,P,h => fold_row hL (P:=stepT P x) (l:=l) (step_row hL h)
inductive Same2 : List Note→List Note→Prop
  | nil : Same2 [] []
  | cons {a b : Note} {l m : List Note} : (a.at_ = b.at_∧a.len = b.len∧chordE a = chordE b)→Same2 l m→Same2 (a :: l) (b :: m)
theorem row_map {L : Int} : ∀ {l m : List Note},Same2 l m→Row L l→Row L m:=by
  intro l m h
  have key : ∀ (p : Note) (l m : List Note),Same2 l m→(∀ x ∈ l,Before p x)→∀ x ∈ m,Before p x:=by
    intro p l m h
    induction h with
    | nil => intro _ x hx; simp at hx
    | cons h1 h2 ih =>
      rename_i a b l m
      intro k x hx
      rcases List.mem_cons.1 hx with rfl | hx
      · have:=k a (by simp)
        unfold Before at this ⊢; omega
      · exact ih (fun y hy => k y (by simp [hy])) x hx
  induction h with
  | nil => intro h; exact h
  | cons h1 h2 ih =>
    rename_i a b l m
    intro h
    obtain ⟨o1,o2⟩:=List.pairwise_cons.1 h.ord
    have r:=ih ⟨fun x hx => h.fit x (by simp [hx]),o2⟩
    have f:=h.fit a (by simp)
    refine ⟨fun x hx => ?_,List.pairwise_cons.2 ⟨fun x hx => ?_,r.ord⟩⟩
    · rcases List.mem_cons.1 hx with rfl | hx
      · exact ⟨by rw [← h1.1]; exact f.lo,by rw [← h1.2.1]; exact f.one,by rw [← h1.1,← h1.2.1]; exact f.hi,by rw [← h1.2.2]; exact f.ok⟩
      · exact r.fit x hx
    · have:=key a l m h2 o1 x hx
      unfold Before at this ⊢; omega
theorem forall_untie : ∀ {l : List Note},Same2 l (untie l)
  | [] => .nil
  | n :: t => .cons ⟨rfl,rfl,chordE_untie.symm⟩ forall_untie
theorem tidy_row {L : Int} (hL : L ≤ 123863040) {l : List Note} (h : Row L l) : Row L (tidyP l):=row_map forall_untie (fold_row hL (P:=[]) h)
end
end Go.Hem
namespace Go.Hem
noncomputable section
def strQ (num den v : Int) : Int:=IntKind.i64.wrap ((IntKind.i64.wrap (v * num)).tdiv den)
def Note.str (num den : Int) (n : Note) : Note:={ n with at_:=strQ num den n.at_,len:=strQ num den n.len }
def ratio (num den : Int) : Prop:=1 ≤ num∧num ≤ 64∧1 ≤ den∧den ≤ 64
instance {num den : Int} : Decidable (ratio num den):=by unfold ratio; exact inferInstance
theorem frz_tup {I : Bool} {d : Nat} {H : AHeap} {v u : AV} {fp : List Nat} {x : Sc} (h : OwnX I d H v u fp) (hd : d ≤ 19) : Frz (.tup [v,.sc x]) H (.tup [u,.sc x]):=by
  obtain ⟨H1,h1,h2,_⟩:=freezeV_own (h.mono hd)
  refine ⟨H1,?_,?_⟩
  · have e : ∀ k (l : List AV) H,freezeV (k + 1) (.tup l) H = (freezeL (freezeV k) l H).map fun r => (.tup r.1,r.2):=fun _ _ _ => rfl
    have e2 : ∀ k H,freezeV (k + 1) (.sc x) H = some (.sc x,H):=fun _ _ => rfl
    show freezeV (19 + 1) _ _ = _
    rw [e,freezeL,h1,Option.bind_some,freezeL,e2 18,Option.bind_some,freezeL]; rfl
  · simp only [AV.closedB,AV.closedBs,h2,Bool.and_self]
theorem frz_err {H : AHeap} {e : Int} : Frz (.tup [.agg [.sc (.int .i64 0),.sc .nils],.sc (.int .i64 e)]) H (.tup [Clip.enc ⟨0,none⟩,.sc (.int .i64 e)]) :=
  frz_tup (own_closed (d:=3) (cs:=(Clip.enc ⟨0,none⟩).cells) (Clip.enc_plain _)) (by decide)
theorem frz_clip {H : AHeap} {c : Clip} {v : AV} {f : List Nat} {e : Int} (h : Own 4 H v (slm Note.enc c.notes) f) : Frz (.tup [.agg [.sc (.int .i64 c.len),v],.sc (.int .i64 e)]) H (.tup [c.enc,.sc (.int .i64 e)]) :=
  frz_tup (I:=true) (d:=5) (fp:=[] ++ (f ++ [])) ⟨c.enc.cells,rfl,.cons .scal (.cons h .nil Apart.nil_right) Apart.nil_left⟩ (by decide)
end
end Go.Hem
namespace Go.Hem
def okTrue : XR AV→Bool
  | .ok (.sc (.bool b)) => b
  | _ => false
theorem okTrue_spec {r : XR AV} (h : okTrue r = true) : r = .ok (.sc (.bool true)):=by
  unfold okTrue at h
  split at h
  · subst h; rfl
  · cases h
theorem known_run : okTrue (xPure (X prog polS memo0 1000) 9 []) = true:=by decide +kernel
theorem known_pv : Pv prog polS 9 [] (.sc (.bool true)):=pv_of_x memo0_ok rfl (okTrue_spec known_run)
end Go.Hem
namespace Go.Hem
noncomputable section
def sylS (s : Syllable) : Bool:=decide (s.text.size ≤ 300)
def noteS (n : Note) : Bool:=decide (n.heads.l.length ≤ 12) && (decide (n.graces.l.length ≤ 12) && (decide (n.lyrics.l.length ≤ 6) && n.lyrics.l.all sylS))
def Clip.smallB (c : Clip) : Bool:=decide (c.notes.l.length ≤ 20) && c.notes.l.all noteS
theorem noteS_tame {n : Note} (h : noteS n = true) : n.tame:=by
  unfold noteS at h
  simp only [Bool.and_eq_true,decide_eq_true_eq] at h
  obtain ⟨h1,h2,h3,h4⟩:=h
  refine ⟨by omega,by omega,by omega,fun s hs => ?_⟩
  have:=List.all_eq_true.1 h4 s hs
  simp only [sylS,decide_eq_true_eq] at this; omega
theorem smallB_tame {c : Clip} (h : c.smallB = true) : c.tame:=by
  unfold Clip.smallB at h
  simp only [Bool.and_eq_true,decide_eq_true_eq] at h
  exact ⟨by omega,fun x hx => noteS_tame (List.all_eq_true.1 h.2 x hx)⟩
theorem small_pv (c : Clip) : Pv prog polS 10 [c.enc] (.sc (.bool c.smallB)):=by
  refine Pv_of' ok10 (by simp only [AV.closedBs,Clip.enc_closed,Bool.and_self]) ?_
  generalize hr : c.smallB = r
  unfold Clip.smallB at hr
  by_cases b1 : (20 : Int) < (c.notes.l.length : Int)
  · rw [decide_eq_false (by omega),Bool.false_and] at hr; subst hr
    simp -implicitDefEqProofs (maxDischargeDepth:=12) only [wpF,cf10,WW,List.replicate,Option.some_or,s_conv,e_conv,s_slc3,e_cut3,e_cut3n,e_bns,e_bnn,e_splice,if_true,if_false,ite_true,ite_false,true_or,ne_eq,seval,h_putc,beq_self_eq_true,eq_self,exists_eq_left,exists_eq_left',c.enc_eq,b1]
    exact frz_sc
  rw [decide_eq_true (by omega),Bool.true_and] at hr
  simp -implicitDefEqProofs (maxDischargeDepth:=12) only [wpF,cf10,WW,List.replicate,Option.some_or,s_conv,e_conv,s_slc3,e_cut3,e_cut3n,e_bns,e_bnn,e_splice,if_true,if_false,ite_true,ite_false,true_or,ne_eq,seval,h_putc,beq_self_eq_true,eq_self,exists_eq_left,exists_eq_left',c.enc_eq,b1]
  refine wp_loop (Inv:=fun k t H => ∃ (i : Nat),i + k = c.notes.l.length∧(c.notes.l.take i).all noteS = true∧H.cells 0 = some c.enc.cells∧1 ≤ H.next ∧
    ∃ x : Nat→AV,t = [c.enc,.ptr 0 0,x 2,.sc (.int .i64 i),x 4,x 5,x 6,x 7,x 8,x 9,x 10,x 11,x 12,x 13,x 14,x 15,x 16,x 17,x 18,x 19,x 20,x 21,x 22,x 23,x 24,x 25,x 26,x 27,x 28,x 29,x 30,x 31,x 32,x 33,x 34,x 35,x 36,x 37,x 38,x 39,x 40,x 41,x 42,x 43,x 44,x 45,x 46,x 47,x 48,x 49,x 50,x 51,x 52]) (k:=c.notes.l.length) ?_
    ⟨0,by omega,by simp,?_,by simp,ex_x rfl⟩
  rotate_left
  · simp -implicitDefEqProofs (maxDischargeDepth:=12) only [WW,List.replicate,Option.some_or,s_conv,e_conv,s_slc3,e_cut3,e_cut3n,e_bns,e_bnn,e_splice,if_true,if_false,ite_true,ite_false,true_or,ne_eq,seval,h_putc,beq_self_eq_true,eq_self,exists_eq_left,exists_eq_left']; rfl
  rintro k t H ⟨i,hk,hf,hA,hN,x,rfl⟩
  simp only [c.enc_eq,c_agg] at hA
  by_cases c1 : (i : Int) < (c.notes.l.length : Int)
  rotate_left
  · rw [List.take_of_length_le (by omega)] at hf
    rw [hf] at hr; subst hr
    simp -implicitDefEqProofs (maxDischargeDepth:=12) only [WW,List.replicate,Option.some_or,s_conv,e_conv,s_slc3,e_cut3,e_cut3n,e_bns,e_bnn,e_splice,if_true,if_false,ite_true,ite_false,true_or,ne_eq,seval,h_putc,beq_self_eq_true,eq_self,exists_eq_left,exists_eq_left',hA,c1]
    exact frz_sc
  obtain ⟨y,hy⟩ : ∃ y,c.notes.l[i]? = some y:=⟨_,List.getElem?_eq_getElem (by omega)⟩
  have e2 : IntKind.i64.wrap ((i : Int) + 1) = ((i + 1 : Nat) : Int):=by rw [w64 (by omega) (by omega)]; omega
  have q0 : ¬ 0 = H.next:=by omega
  have q1 : ¬ H.next = 0:=by omega
  have no : noteS y = false→r = false:=fun h => by rw [all_no hy h] at hr; exact hr.symm
  by_cases c3 : (12 : Int) < (y.heads.l.length : Int)
  · rw [no (by unfold noteS; rw [decide_eq_false (by omega),Bool.false_and])]
    simp -implicitDefEqProofs (maxDischargeDepth:=12) only [WW,List.replicate,Option.some_or,s_conv,e_conv,s_slc3,e_cut3,e_cut3n,e_bns,e_bnn,e_splice,if_true,if_false,ite_true,ite_false,true_or,ne_eq,seval,h_putc,beq_self_eq_true,eq_self,exists_eq_left,exists_eq_left',hA,c1,hy,y.enc_eq,q0,q1,c3]
    exact frz_sc
  by_cases c4 : (12 : Int) < (y.graces.l.length : Int)
  · rw [no (by unfold noteS; rw [decide_eq_false (p:=y.graces.l.length ≤ 12) (by omega),Bool.false_and,Bool.and_false])]
    simp -implicitDefEqProofs (maxDischargeDepth:=12) only [WW,List.replicate,Option.some_or,s_conv,e_conv,s_slc3,e_cut3,e_cut3n,e_bns,e_bnn,e_splice,if_true,if_false,ite_true,ite_false,true_or,ne_eq,seval,h_putc,beq_self_eq_true,eq_self,exists_eq_left,exists_eq_left',hA,c1,hy,y.enc_eq,q0,q1,c3,c4]
    exact frz_sc
  by_cases c5 : (6 : Int) < (y.lyrics.l.length : Int)
  · rw [no (by unfold noteS; rw [decide_eq_false (p:=y.lyrics.l.length ≤ 6) (by omega),Bool.false_and,Bool.and_false,Bool.and_false])]
    simp -implicitDefEqProofs (maxDischargeDepth:=12) only [WW,List.replicate,Option.some_or,s_conv,e_conv,s_slc3,e_cut3,e_cut3n,e_bns,e_bnn,e_splice,if_true,if_false,ite_true,ite_false,true_or,ne_eq,seval,h_putc,beq_self_eq_true,eq_self,exists_eq_left,exists_eq_left',hA,c1,hy,y.enc_eq,q0,q1,c3,c4,c5]
    exact frz_sc
  have hns : noteS y = y.lyrics.l.all sylS:=by
    unfold noteS; rw [decide_eq_true (p:=y.heads.l.length ≤ 12) (by omega),decide_eq_true (p:=y.graces.l.length ≤ 12) (by omega),decide_eq_true (p:=y.lyrics.l.length ≤ 6) (by omega)]
    simp only [Bool.true_and]
  simp -implicitDefEqProofs (maxDischargeDepth:=12) only [WW,List.replicate,Option.some_or,s_conv,e_conv,s_slc3,e_cut3,e_cut3n,e_bns,e_bnn,e_splice,if_true,if_false,ite_true,ite_false,true_or,ne_eq,seval,h_putc,beq_self_eq_true,eq_self,exists_eq_left,exists_eq_left',hA,c1,hy,y.enc_eq,q0,q1,c3,c4,c5]
  generalize hq : H.next = q at q0 q1 hN
  generalize hH1 : AHeap.put _ q _ = H1
  have n1 : H1.next = q + 1:=by subst hH1; simp only [AHeap.next_put,AHeap.next_alloc,hq]
  have cq:=congrArg (fun H => AHeap.cells H q) hH1
  have c0:=congrArg (fun H => AHeap.cells H 0) hH1
  simp -implicitDefEqProofs (maxDischargeDepth:=12) only [WW,List.replicate,Option.some_or,s_conv,e_conv,s_slc3,e_cut3,e_cut3n,e_bns,e_bnn,e_splice,if_true,if_false,ite_true,ite_false,true_or,ne_eq,seval,h_putc,beq_self_eq_true,eq_self,exists_eq_left,exists_eq_left',hq,q0,hA] at cq c0
  replace cq:=cq.symm
  replace c0:=c0.symm
  clear hH1
  refine wp_loop (Inv:=fun k2 t H => H = H1∧∃ (j : Nat),j + k2 = y.lyrics.l.length∧(y.lyrics.l.take j).all sylS = true ∧
    ∃ x : Nat→AV,t = [c.enc,.ptr 0 0,x 2,.sc (.int .i64 i),.ptr q 0,.sc (.int .i64 j),x 6,x 7,x 8,x 9,x 10,x 11,x 12,x 13,x 14,x 15,x 16,x 17,x 18,x 19,x 20,x 21,x 22,x 23,x 24,x 25,x 26,x 27,x 28,x 29,x 30,x 31,x 32,x 33,x 34,x 35,x 36,x 37,x 38,x 39,x 40,x 41,x 42,x 43,x 44,x 45,x 46,x 47,x 48,x 49,x 50,x 51,x 52]) (k:=y.lyrics.l.length) ?_
    ⟨rfl,0,by omega,by simp,ex_x rfl⟩
  clear x
  rintro k2 t _ ⟨rfl,j,hk2,hs,x,rfl⟩
  by_cases d1 : (j : Int) < (y.lyrics.l.length : Int)
  rotate_left
  · rw [List.take_of_length_le (by omega)] at hs
    simp -implicitDefEqProofs (maxDischargeDepth:=12) only [WW,List.replicate,Option.some_or,s_conv,e_conv,s_slc3,e_cut3,e_cut3n,e_bns,e_bnn,e_splice,if_true,if_false,ite_true,ite_false,true_or,ne_eq,seval,h_putc,beq_self_eq_true,eq_self,exists_eq_left,exists_eq_left',cq,c0,d1,e2]
    exact ⟨k - 1,by omega,i + 1,by omega,by rw [all_take hy hf,hns]; exact hs,rfl,by omega,ex_x rfl⟩
  obtain ⟨z,hz⟩ : ∃ z,y.lyrics.l[j]? = some z:=⟨_,List.getElem?_eq_getElem (by omega)⟩
  have e3 : IntKind.i64.wrap ((j : Int) + 1) = ((j + 1 : Nat) : Int):=by rw [w64 (by omega) (by omega)]; omega
  by_cases d2 : (300 : Int) < (z.text.size : Int)
  · rw [no (by rw [hns]; exact all_no hz (by unfold sylS; exact decide_eq_false (by omega)))]
    simp -implicitDefEqProofs (maxDischargeDepth:=12) only [WW,List.replicate,Option.some_or,s_conv,e_conv,s_slc3,e_cut3,e_cut3n,e_bns,e_bnn,e_splice,if_true,if_false,ite_true,ite_false,true_or,ne_eq,seval,h_putc,beq_self_eq_true,eq_self,exists_eq_left,exists_eq_left',cq,c0,d1,hz,z.enc_eq,d2]
    exact frz_sc
  · simp -implicitDefEqProofs (maxDischargeDepth:=12) only [WW,List.replicate,Option.some_or,s_conv,e_conv,s_slc3,e_cut3,e_cut3n,e_bns,e_bnn,e_splice,if_true,if_false,ite_true,ite_false,true_or,ne_eq,seval,h_putc,beq_self_eq_true,eq_self,exists_eq_left,exists_eq_left',cq,c0,d1,hz,z.enc_eq,d2,e3]
    exact ⟨k2 - 1,by omega,j + 1,by omega,by rw [all_take hz hs]; unfold sylS; exact decide_eq_true (by omega),ex_x rfl⟩
theorem chord_tames {c : Clip} (h : c.tame) : ∀ x ∈ c.notes.l,x.chord.tame:=fun x hx => Note.chord_tame (h.2 x hx)
end
end Go.Hem
namespace Go.Hem
noncomputable section
end
end Go.Hem
namespace Go.Hem
noncomputable section
theorem wp_loopY {P : Program} {pol : Pol} {b : CC} {Q : Post} (n : Nat) (Inv : Nat→List AV→AHeap→Prop) (Ex : List AV→AHeap→Prop)
    (step : ∀ k t H,Inv k t H→wpC P pol b t H (thenC (fun e t' H' => e = .exit n∧Ex t' H') fun t' H' => ∃ k',k' < k∧Inv k' t' H')) (hex : ∀ t H,Ex t H→Q (.exit n) t H) {k : Nat} {t : List AV} {H : AHeap} (h : Inv k t H) : wpC P pol (.loop b) t H Q:=by
  refine wp_loop Inv (fun k t H hi => wpC_mono (fun e t' H' q => ?_) (step k t H hi)) h
  cases e with
  | normal => exact q
  | exit id => obtain ⟨e1,e2⟩:=q; cases e1; exact hex _ _ e2
  | ret => obtain ⟨e1,e2⟩:=q; cases e1
def noClip : Clip:=⟨0,none⟩
theorem noClip_enc : noClip.enc = .agg [.sc (.int .i64 0),.sc .nils]:=rfl
theorem noClip_tame : noClip.tame:=⟨by decide,fun x hx => by simp [noClip,Sl.l] at hx⟩
end
end Go.Hem
namespace Go.Hem
noncomputable section
def Note.untied (n : Note) : Note:={ n with heads:=n.heads.map (List.map fun h => h.tie false) }
def Note.part (n : Note) (b : Int) : Note:=if n.at_ < b then n.bare else n
end
end Go.Hem
namespace Go.Hem
noncomputable section
end
end Go.Hem
namespace Go.Hem
noncomputable section
theorem firstE_zero : ∀ {l : List Int},firstE l = 0→∀ e ∈ l,e = 0
  | [],_,e,h => by simp at h
  | a :: l,k,e,h => by
    simp only [firstE] at k
    by_cases c : a = 0
    · rw [if_pos c] at k
      rcases List.mem_cons.1 h with rfl | h
      · exact c
      · exact firstE_zero k e h
    · rw [if_neg c] at k; exact absurd k c
theorem chordE_parts {x : Note} (h : chordE x = 0) : headsE x.heads.l = 0∧gracesE x.graces.l = 0∧lyricsE x.lyrics.l = 0:=by
  unfold chordE at h
  by_cases c : firstE [headsE x.heads.l,gracesE x.graces.l,lyricsE x.lyrics.l] = 0
  · have:=firstE_zero c
    exact ⟨this _ (by simp),this _ (by simp),this _ (by simp)⟩
  · rw [if_pos c] at h; exact absurd h c
theorem tidyR_of {l m : List Note} (h : l.map Note.cn = m.map Note.cn) : (tidyR l).map Note.cn = (tidyP m).map Note.cn:=by
  rw [tidyR_eq,tidyP_of h]
end
end Go.Hem
namespace Go.Hem
noncomputable section
def backTie (p : Option Note) (h : Head) : Bool:=match p with
  | some m => m.heads.l.any fun o => o.tied && decide (o.pitch = h.pitch)
  | none => false
def revN (L : Int) (p : Option Note) (n : Note) : Note:={ n with at_:=IntKind.i64.wrap (L - n.fin),heads:=n.heads.map (List.map fun h => h.tie (backTie p h)) }
def revGo (L : Int) : Option Note→List Note→List Note
  | _,[] => []
  | p,n :: t => revGo L (some n) t ++ [revN L p n]
def revC (c : Clip) : Clip:=if checkE c = 0 then ⟨c.len,Sl.of (tidyP (revGo c.len none c.notes.l))⟩ else noClip
theorem revGo_len {L : Int} : ∀ {p : Option Note} {l : List Note},(revGo L p l).length = l.length
  | _,[] => rfl
  | p,n :: t => by simp only [revGo,List.length_append,List.length_cons,List.length_nil,revGo_len]
theorem revN_tame {L : Int} {p : Option Note} {n : Note} (h : n.tame) : (revN L p n).tame:=by
  refine ⟨?_,h.graces,h.lyrics,h.text⟩
  have:=h.heads
  show (Sl.l (n.heads.map _)).length < _
  cases q : n.heads with
  | none => show 0 < _; omega
  | some l => rw [q,l_some] at this; rw [Option.map_some,l_some,List.length_map]; exact this
theorem revGo_tame {L : Int} : ∀ {p : Option Note} {l : List Note},(∀ y ∈ l,y.tame)→∀ y ∈ revGo L p l,y.tame
  | _,[],_,y,hy => by simp [revGo] at hy
  | p,n :: t,h,y,hy => by
    simp only [revGo,List.mem_append,List.mem_singleton] at hy
    rcases hy with hy | rfl
    · exact revGo_tame (fun z hz => h z (by simp [hz])) y hy
    · exact revN_tame (h n (by simp))
theorem callee29 (args : List AV) : acallee prog 29 args = some (.call 29 args):=by kernel_rfl
theorem asks29 {H0 : AHeap} {q bh o : Nat} {ch : List AV} {p : Pitch} (hq : H0.cells q = some [.ptr bh o]) (hb : H0.cells bh = some ch) (hp : (ch.drop o).take 3 = p.enc.cells) (hl : o + 3 ≤ ch.length) : Asks 29 [.ptr q 0] H0 fun h => h.tied && decide (h.pitch = p):=by
  intro H x hK hn
  refine (wpF_ok ok29 (Q:=fun v H' => v = .sc (.bool (x.tied && decide (x.pitch = p)))∧Keep H.next H H'∧H.next ≤ H'.next) ?_).mono ?_
  rotate_left
  · rintro o H' ⟨v,rfl,rfl,h⟩
    exact ⟨rfl,h⟩
  have hq2:=h_lt hq
  have hb2:=h_lt hb
  have c0:=hK.cells hq hq2
  have c1:=hK.cells hb hb2
  have nq : ¬ q = H.next:=by omega
  have nb : ¬ bh = H.next:=by omega
  simp only [p.enc_eq,c_agg] at hp
  cases ht : x.tied with
  | false =>
    simp -implicitDefEqProofs (maxDischargeDepth:=12) only [wpF,cf29,WW,List.replicate,Option.some_or,s_conv,e_conv,s_slc3,e_cut3,e_cut3n,e_bns,e_bnn,e_splice,if_true,if_false,ite_true,ite_false,true_or,ne_eq,seval,h_putc,beq_self_eq_true,eq_self,exists_eq_left,exists_eq_left',x.enc_eq,ht,c0,c1,nq,nb]
    exact ⟨(by repeat (first | exact Keep.refl | refine Keep.put (by (try simp only [AHeap.next_alloc,AHeap.next_put]); omega) ?_ | refine Keep.alloc (by (try simp only [AHeap.next_alloc,AHeap.next_put]); omega) ?_)),by omega⟩
  | true =>
    simp -implicitDefEqProofs (maxDischargeDepth:=12) only [wpF,cf29,WW,List.replicate,Option.some_or,s_conv,e_conv,s_slc3,e_cut3,e_cut3n,e_bns,e_bnn,e_splice,if_true,if_false,ite_true,ite_false,true_or,ne_eq,seval,h_putc,beq_self_eq_true,eq_self,exists_eq_left,exists_eq_left',x.enc_eq,ht,c0,c1,nq,nb,hp,hl,pitch_cmp]
    exact ⟨(by repeat (first | exact Keep.refl | refine Keep.put (by (try simp only [AHeap.next_alloc,AHeap.next_put]); omega) ?_ | refine Keep.alloc (by (try simp only [AHeap.next_alloc,AHeap.next_put]); omega) ?_)),by omega⟩
theorem rev_pv (c : Clip) (tc : c.tame) : Pv prog polS 11 [c.enc] (.tup [(revC c).enc,.sc (.int .i64 (checkE c))]):=by
  refine Pv_of' ok11 (by simp only [AV.closedBs,Clip.enc_closed,Bool.and_self]) ?_
  unfold revC
  simp -implicitDefEqProofs (maxDischargeDepth:=12) only [wpF,cf11,WW,List.replicate,Option.some_or,s_conv,e_conv,s_slc3,e_cut3,e_cut3n,e_bns,e_bnn,e_splice,if_true,if_false,ite_true,ite_false,true_or,ne_eq,seval,h_putc,beq_self_eq_true,eq_self,exists_eq_left,exists_eq_left',c.enc_eq]
  rw [← c.enc_eq]
  refine wA_pure rfl (check_pv c tc) ?_
  by_cases h1 : checkE c = 0
  rotate_left
  · have hnc : (if checkE c = 0 then (⟨c.len,Sl.of (tidyP (revGo c.len none c.notes.l))⟩ : Clip) else noClip) = ⟨0,none⟩:=if_neg h1
    rw [hnc]
    simp -implicitDefEqProofs (maxDischargeDepth:=12) only [WW,List.replicate,Option.some_or,s_conv,e_conv,s_slc3,e_cut3,e_cut3n,e_bns,e_bnn,e_splice,if_true,if_false,ite_true,ite_false,true_or,ne_eq,seval,h_putc,beq_self_eq_true,eq_self,exists_eq_left,exists_eq_left',h1]
    exact frz_err
  rw [if_pos h1,h1]
  simp -implicitDefEqProofs (maxDischargeDepth:=12) only [WW,List.replicate,Option.some_or,s_conv,e_conv,s_slc3,e_cut3,e_cut3n,e_bns,e_bnn,e_splice,if_true,if_false,ite_true,ite_false,true_or,ne_eq,seval,h_putc,beq_self_eq_true,eq_self,exists_eq_left,exists_eq_left',c.enc_eq]
  have e0 : IntKind.i64.wrap ((c.notes.l.length : Int) - 1) = (c.notes.l.length : Int) - 1:=w64 (by omega) (by have:=tc.1; omega)
  simp -implicitDefEqProofs (maxDischargeDepth:=12) only [WW,List.replicate,Option.some_or,s_conv,e_conv,s_slc3,e_cut3,e_cut3n,e_bns,e_bnn,e_splice,if_true,if_false,ite_true,ite_false,true_or,ne_eq,seval,h_putc,beq_self_eq_true,eq_self,exists_eq_left,exists_eq_left',e0]
  refine wp_loop (Inv:=fun k t H => ∃ (v : AV) (fp : List Nat),k ≤ c.notes.l.length∧H.cells 0 = some c.enc.cells∧H.cells 1 = some [.sc (.int .i64 0),.sc .nils] ∧
    AccQ NoteQ 8 H v (Sl.of (revGo c.len (prevAt c.notes.l k) (c.notes.l.drop k))) fp∧(∀ b ∈ fp,2 ≤ b)∧2 ≤ H.next ∧
    ∃ y : Nat→AV,t = [c.enc,.ptr 0 0,.ptr 1 0,.sc (.int .i64 0),y 4,v,.sc (.int .i64 ((k : Int) - 1)),y 7,y 8,y 9,y 10,y 11,y 12,y 13,y 14,y 15,y 16,y 17,y 18,y 19,y 20,y 21,y 22,y 23,y 24,y 25,y 26,y 27,y 28,y 29,y 30,y 31,y 32,y 33,y 34,y 35,y 36,y 37,y 38,y 39,y 40,y 41,y 42,y 43,y 44,y 45,y 46,y 47,y 48,y 49,y 50,y 51,y 52,y 53,y 54,y 55,y 56,y 57,y 58,y 59,y 60,y 61,y 62,y 63,y 64,y 65,y 66,y 67,y 68,y 69,y 70,y 71]) (k:=c.notes.l.length) ?_
    ⟨_,[],by omega,?_,?_,?_,by simp,?_,ex_x rfl⟩
  rotate_left
  · simp -implicitDefEqProofs (maxDischargeDepth:=12) only [WW,List.replicate,Option.some_or,s_conv,e_conv,s_slc3,e_cut3,e_cut3n,e_bns,e_bnn,e_splice,if_true,if_false,ite_true,ite_false,true_or,ne_eq,seval,h_putc,beq_self_eq_true,eq_self,exists_eq_left,exists_eq_left',c.enc_eq]
  · simp -implicitDefEqProofs (maxDischargeDepth:=12) only [WW,List.replicate,Option.some_or,s_conv,e_conv,s_slc3,e_cut3,e_cut3n,e_bns,e_bnn,e_splice,if_true,if_false,ite_true,ite_false,true_or,ne_eq,seval,h_putc,beq_self_eq_true,eq_self,exists_eq_left,exists_eq_left']
  · rw [List.drop_of_length_le (by omega)]; exact accQ_none
  · simp only [AHeap.next_put,AHeap.next_alloc]; decide
  rintro k t H ⟨v,fp,hk,p0,p1,hA,hfp,hN,y,rfl⟩
  simp only [c.enc_eq,c_agg] at p0
  cases k with
  | zero =>
    have e1 : ((0 : Nat) : Int) - 1 = -1:=by omega
    rw [e1]
    have hp0 : prevAt c.notes.l 0 = none:=rfl
    rw [hp0,List.drop_zero] at hA
    have hvo:=hA.one
    obtain ⟨f,o1,o2⟩:=hA.own noteQ
    simp -implicitDefEqProofs (maxDischargeDepth:=12) only [WW,List.replicate,Option.some_or,s_conv,e_conv,s_slc3,e_cut3,e_cut3n,e_bns,e_bnn,e_splice,if_true,if_false,ite_true,ite_false,true_or,ne_eq,seval,h_putc,beq_self_eq_true,eq_self,exists_eq_left,exists_eq_left',p0,p1,hvo.1,hvo.2]
    refine wA_ownA rfl (.cons (o1.mono (by decide)) .nil Apart.nil_right) (tidy_pv (Sl.of (revGo c.len none c.notes.l)) (by rw [l_of,revGo_len]; exact tc.1) (by rw [l_of]; exact revGo_tame tc.2)) ?_
    intro H1 hL
    have q1:=(cells_of_get (hL 1 (fun h => by have:=hfp 1 (o2 1 (by simpa using h)); omega))).trans p1
    have q0:=(cells_of_get (hL 0 (fun h => by have:=hfp 0 (o2 0 (by simpa using h)); omega))).trans p0
    rw [l_of]
    simp -implicitDefEqProofs (maxDischargeDepth:=12) only [WW,List.replicate,Option.some_or,s_conv,e_conv,s_slc3,e_cut3,e_cut3n,e_bns,e_bnn,e_splice,if_true,if_false,ite_true,ite_false,true_or,ne_eq,seval,h_putc,beq_self_eq_true,eq_self,exists_eq_left,exists_eq_left',q0,q1,p0]
    exact frz_clip (c:=⟨_,_⟩) (f:=[]) (own_imm Note.enc_closed)
  | succ i =>
    have e1 : ((i + 1 : Nat) : Int) - 1 = (i : Int):=by omega
    rw [e1]
    obtain ⟨x,hx⟩ : ∃ x,c.notes.l[i]? = some x:=⟨_,List.getElem?_eq_getElem (by omega)⟩
    have tx:=tc.2 x (List.mem_of_getElem? hx)
    have hlt:=hA.lt noteQ
    have i0 : (0 : Int) ≤ (i : Int):=by omega
    simp -implicitDefEqProofs (maxDischargeDepth:=12) only [WW,List.replicate,Option.some_or,s_conv,e_conv,s_slc3,e_cut3,e_cut3n,e_bns,e_bnn,e_splice,if_true,if_false,ite_true,ite_false,true_or,ne_eq,seval,h_putc,beq_self_eq_true,eq_self,exists_eq_left,exists_eq_left',p0,hx,x.enc_eq,i0]
    rw [← x.enc_eq]
    refine wA_call rfl ((clone_ok x tx _).mono ?_)
    rintro o H2 ⟨r,g,rfl,hr,hF⟩
    refine ⟨_,rfl,?_⟩
    have hrl : r.length = 8:=noteQ.len hr
    have hones:=hr.ones
    have glt:=noteQ.lt hr
    have hN2:=hF.2.1
    have sp : splice [AV.sc (.int .i64 0),.sc (.int .i64 0),.sc .nils,.sc .nils,.sc (.int .i64 0),.sc (.int .i64 0),.sc (.int .i64 0),.sc .nils] 0 r = r:=splice_full (by rw [hrl]; rfl)
    simp -implicitDefEqProofs (maxDischargeDepth:=12) only [WW,List.replicate,Option.some_or,s_conv,e_conv,s_slc3,e_cut3,e_cut3n,e_bns,e_bnn,if_true,if_false,ite_true,ite_false,true_or,ne_eq,seval,beq_self_eq_true,eq_self,exists_eq_left,exists_eq_left',hrl,hones,sp]
    generalize hq : H2.next = q at hN2 glt
    generalize hH3 : AHeap.put _ q _ = H3
    have n3 : H3.next = q + 1:=by subst hH3; simp only [AHeap.next_put,AHeap.next_alloc,hq]
    have k3 : ∀ b,b < q→H3.cells b = H2.cells b:=fun b hb => by subst hH3; rw [c_put_ne (by omega),c_alloc_ne (by omega)]
    have cq3:=congrArg (fun h => AHeap.cells h q) hH3
    simp -implicitDefEqProofs (maxDischargeDepth:=12) only [WW,List.replicate,Option.some_or,s_conv,e_conv,s_slc3,e_cut3,e_cut3n,e_bns,e_bnn,e_splice,if_true,if_false,ite_true,ite_false,true_or,ne_eq,seval,h_putc,beq_self_eq_true,eq_self,exists_eq_left,exists_eq_left',hq] at cq3
    replace cq3:=cq3.symm
    clear hH3
    have kk : ∀ b,b < H.next→H3.cells b = H.cells b:=fun b hb => by rw [k3 b (by omega),hF.2.2 b hb]
    have z0:=(kk 0 (by omega)).trans p0
    have hr3 : NoteQ H3 r x g:=noteQ.fr hr fun c hc => k3 c (glt c hc)
    obtain ⟨g',o1,o2⟩:=noteQ_own hr3
    simp -implicitDefEqProofs (maxDischargeDepth:=12) only [WW,List.replicate,Option.some_or,s_conv,e_conv,s_slc3,e_cut3,e_cut3n,e_bns,e_bnn,e_splice,if_true,if_false,ite_true,ite_false,true_or,ne_eq,seval,h_putc,beq_self_eq_true,eq_self,exists_eq_left,exists_eq_left',z0,cq3,hrl,ones_take hrl,hones]
    refine wA_own rfl (.cons o1 .nil Apart.nil_right) (end_pv x) ?_
    clear o1 o2 g' hr
    obtain ⟨hv,gv,lv,fh,fg,fl,rfl,m1,m2,m3,m4,m5,m6,m7,m8,rfl⟩:=hr3
    have m1o:=m1.one.1
    simp only [intE] at cq3
    have hgq : ∀ c ∈ fh ++ (fg ++ fl),H.next ≤ c∧c < q:=fun c hc => ⟨hF.1 c hc,glt c hc⟩
    simp -implicitDefEqProofs (maxDischargeDepth:=12) only [WW,List.replicate,Option.some_or,s_conv,e_conv,s_slc3,e_cut3,e_cut3n,e_bns,e_bnn,if_true,if_false,ite_true,ite_false,true_or,ne_eq,seval,beq_self_eq_true,eq_self,exists_eq_left,exists_eq_left',cq3,z0]
    generalize hH4 : AHeap.put H3 q _ = H4
    have n4 : H4.next = q + 1:=by subst hH4; simp only [AHeap.next_put,n3]
    have k4 : ∀ b,b ≠ q→H4.cells b = H3.cells b:=fun b hb => by subst hH4; rw [c_put_ne hb]
    have cq4:=congrArg (fun h => AHeap.cells h q) hH4
    simp -implicitDefEqProofs (maxDischargeDepth:=12) only [WW,List.replicate,Option.some_or,s_conv,e_conv,s_slc3,e_cut3,e_cut3n,e_bns,e_bnn,e_splice,if_true,if_false,ite_true,ite_false,true_or,ne_eq,seval,h_putc,beq_self_eq_true,eq_self,exists_eq_left,exists_eq_left',cq3] at cq4
    replace cq4:=cq4.symm
    clear hH4
    have hl:=m1.length.1
    simp -implicitDefEqProofs (maxDischargeDepth:=12) only [WW,List.replicate,Option.some_or,s_conv,e_conv,s_slc3,e_cut3,e_cut3n,e_bns,e_bnn,e_splice,if_true,if_false,ite_true,ite_false,true_or,ne_eq,seval,h_putc,beq_self_eq_true,eq_self,exists_eq_left,exists_eq_left',cq4,hl]
    generalize hP : prevAt c.notes.l i = P
    generalize hf : (fun h : Head => h.tie (backTie P h)) = f
    refine wp_loop (Inv:=fun k2 t H' => ∃ (j : Nat) (f' : List Nat),j + k2 = x.heads.l.length∧AccQ HeadQ 5 H' hv (x.heads.map (mapTo f j)) f'∧(∀ c ∈ f',c ∈ fh)∧(∀ c,c < q + 1→c ∉ fh→H'.cells c = H4.cells c)∧q + 1 ≤ H'.next ∧
      ∃ y : Nat→AV,t = [c.enc,.ptr 0 0,.ptr 1 0,.sc (.int .i64 0),y 4,v,.sc (.int .i64 i),.ptr q 0,y 8,y 9,y 10,y 11,y 12,y 13,y 14,y 15,y 16,y 17,y 18,y 19,y 20,y 21,y 22,y 23,y 24,y 25,y 26,y 27,y 28,y 29,y 30,y 31,y 32,y 33,y 34,y 35,y 36,y 37,.sc (.int .i64 x.heads.l.length),.sc (.int .i64 j),y 40,y 41,y 42,y 43,y 44,y 45,y 46,y 47,y 48,y 49,y 50,y 51,y 52,y 53,y 54,y 55,y 56,y 57,y 58,y 59,y 60,y 61,y 62,y 63,y 64,y 65,y 66,y 67,y 68,y 69,y 70,y 71]) (k:=x.heads.l.length) ?_ ⟨0,fh,by omega,?_,fun _ h => h,fun _ _ _ => rfl,by omega,ex_x rfl⟩
    rotate_left
    · have : x.heads.map (mapTo f 0) = x.heads:=by cases x.heads <;> simp [mapTo_zero]
      rw [this]
      exact m1.fr headQ fun c hc => k4 c (by have:=(hgq c (mem3.2 (.inl hc))).2; omega)
    clear y
    rintro k2 t H' ⟨j,f',hk2,hB,hf',hst,hN',y,rfl⟩
    have nfq : ∀ c ∈ f',H.next ≤ c∧c < q:=fun c hc => hgq c (mem3.2 (.inl (hf' c hc)))
    have s0:=((hst 0 (by omega) (fun h => by have:=hgq 0 (mem3.2 (.inl h)); omega)).trans (k4 0 (by omega))).trans z0
    have sq:=(hst q (by omega) (fun h => by have:=hgq q (mem3.2 (.inl h)); omega)).trans cq4
    by_cases c1 : (j : Int) < (x.heads.l.length : Int)
    rotate_left
    · have eA : x.heads.map (mapTo f j) = x.heads.map (List.map f):=by cases e : x.heads with
        | none => rfl
        | some l => rw [e,l_some] at c1; simp only [Option.map_some,Option.some.injEq]; exact mapTo_all (by omega)
      rw [eA] at hB
      have hB1:=hB.one.1
      simp -implicitDefEqProofs (maxDischargeDepth:=12) only [WW,List.replicate,Option.some_or,s_conv,e_conv,s_slc3,e_cut3,e_cut3n,e_bns,e_bnn,e_splice,if_true,if_false,ite_true,ite_false,true_or,ne_eq,seval,h_putc,beq_self_eq_true,eq_self,exists_eq_left,exists_eq_left',sq,c1,hB1,m4,m5]
      generalize hHa : AHeap.alloc H' _ = Ha
      have na : Ha.next = H'.next + 1:=by subst hHa; simp only [AHeap.next_alloc]
      have ka : ∀ b,b < H'.next→Ha.cells b = H'.cells b:=fun b hb => by subst hHa; rw [c_alloc_ne (by omega)]
      have ca:=congrArg (fun h => AHeap.cells h H'.next) hHa
      simp -implicitDefEqProofs (maxDischargeDepth:=12) only [WW,List.replicate,Option.some_or,s_conv,e_conv,s_slc3,e_cut3,e_cut3n,e_bns,e_bnn,e_splice,if_true,if_false,ite_true,ite_false,true_or,ne_eq,seval,h_putc,beq_self_eq_true,eq_self,exists_eq_left,exists_eq_left'] at ca
      replace ca:=ca.symm
      clear hHa
      have kH : ∀ b,b < H.next→Ha.cells b = H.cells b:=fun b hb => by
        rw [ka b (by omega),hst b (by omega) (fun h => by have:=hgq b (mem3.2 (.inl h)); omega),k4 b (by omega),kk b hb]
      have kg : ∀ c ∈ fg ++ fl,Ha.cells c = H3.cells c:=fun c hc => by
        have h1:=hgq c (List.mem_append.2 (.inr hc))
        have h2 : c ∉ fh:=fun h => (List.mem_append.1 hc).elim (fun h3 => m6 c h h3) (fun h3 => m7 c h h3)
        rw [ka c (by omega),hst c (by omega) h2,k4 c (by omega)]
      have hlen : (revGo c.len (prevAt c.notes.l (i + 1)) (c.notes.l.drop (i + 1))).length < 1000000:=by
        rw [revGo_len,List.length_drop]; have:=tc.1; omega
      refine wA_appQ noteQ (H0:=H) hA (y:=revN c.len P x) (g:=f' ++ (fg ++ fl)) (fun b hb => kH b (hlt b hb)) rfl (asrc_one ca rfl) ⟨hv,gv,lv,f',fg,fl,rfl,?_,m2.frame fun c hc => kg c (List.mem_append.2 (.inl hc)),m3.frame fun c hc => kg c (List.mem_append.2 (.inr hc)),m4,m5,fun c h1 h2 => m6 c (hf' c h1) h2,fun c h1 h2 => m7 c (hf' c h1) h2,m8,rfl⟩
        (fun c h1 h2 => by have a:=hlt c h1; have b:=(hgq c (mem3.2 ((mem3.1 h2).imp (hf' c) id))).1; omega) (by rw [l_of]; omega) ?_
      · subst hf
        exact hB.fr headQ fun c hc => ka c (by have:=nfq c hc; omega)
      intro v' H8 fp' q1 q2 q3 q4 q5 q6
      have z8 : ∀ b,b < 2→H8.cells b = H.cells b:=fun b hb => by rw [q3 b (fun h => by have:=hfp b h; omega) (by omega),kH b (by omega)]
      have e3 : IntKind.i64.wrap ((i : Int) - 1) = (i : Int) - 1:=w64 (by omega) (by have:=tc.1; omega)
      simp -implicitDefEqProofs (maxDischargeDepth:=12) only [WW,List.replicate,Option.some_or,s_conv,e_conv,s_slc3,e_cut3,e_cut3n,e_bns,e_bnn,e_splice,if_true,if_false,ite_true,ite_false,true_or,ne_eq,seval,h_putc,beq_self_eq_true,eq_self,exists_eq_left,exists_eq_left',q5,q6,e3]
      refine ⟨i,by omega,v',fp',by omega,(z8 0 (by decide)).trans p0,(z8 1 (by decide)).trans p1,?_,fun b hb => ?_,by omega,ex_x rfl⟩
      · rw [drop_cons hx]
        simp only [revGo]
        rw [prev_succ hx,l_of] at q1
        rw [hP,of_cons (by simp)]
        exact q1
      · rcases q4 b hb with h | h | h
        · exact hfp b h
        · have:=(hgq b (mem3.2 ((mem3.1 h).imp (hf' b) id))).1; omega
        · omega
    obtain ⟨h,hh⟩ : ∃ y,x.heads.l[j]? = some y:=⟨_,List.getElem?_eq_getElem (by omega)⟩
    have e2 : IntKind.i64.wrap ((j : Int) + 1) = ((j + 1 : Nat) : Int):=by rw [w64 (by omega) (by have:=tx.heads; omega)]; omega
    have eh : ∀ i,x.heads.map (mapTo f i) = some (mapTo f i x.heads.l):=fun i => by cases e : x.heads with
      | none => rw [e] at hh; simp [Sl.l] at hh
      | some l => rfl
    rw [eh] at hB
    obtain ⟨bh,cap,cs,a1,a2,a3,a4,a5,a6,a7,a8,a9,a10⟩:=head_cells hB (k:=j) (x:=h) (by rw [l_some]; exact mapTo_get hh)
    rw [l_some,mapTo_len] at a1
    subst a1
    have jl : j < x.heads.l.length:=by omega
    have hle : j * 5 + 3 + 1 ≤ cs.length:=by omega
    have hle3 : j * 5 + 3 ≤ cs.length:=by omega
    have bhq:=nfq bh a9
    have hBlt:=hB.lt headQ
    simp -implicitDefEqProofs (maxDischargeDepth:=12) only [WW,List.replicate,Option.some_or,s_conv,e_conv,s_slc3,e_cut3,e_cut3n,e_bns,e_bnn,if_true,if_false,ite_true,ite_false,true_or,ne_eq,seval,beq_self_eq_true,eq_self,exists_eq_left,exists_eq_left',sq,c1,jl]
    generalize hH5 : AHeap.put (AHeap.alloc H' _) _ _ = H5
    have n5 : H5.next = H'.next + 1:=by subst hH5; simp only [AHeap.next_put,AHeap.next_alloc]
    have k5 : ∀ b,b < H'.next→H5.cells b = H'.cells b:=fun b hb => by subst hH5; rw [c_put_ne (by omega),c_alloc_ne (by omega)]
    have c5:=congrArg (fun h => AHeap.cells h H'.next) hH5
    simp -implicitDefEqProofs (maxDischargeDepth:=12) only [WW,List.replicate,Option.some_or,s_conv,e_conv,s_slc3,e_cut3,e_cut3n,e_bns,e_bnn,e_splice,if_true,if_false,ite_true,ite_false,true_or,ne_eq,seval,h_putc,beq_self_eq_true,eq_self,exists_eq_left,exists_eq_left'] at c5
    replace c5:=c5.symm
    clear hH5
    have b5:=(k5 bh (by omega)).trans a2
    have hB5:=hB.fr headQ (H':=H5) fun b hb => k5 b (hBlt b hb)
    have s05:=(k5 0 (by omega)).trans s0
    have fin : ∀ (H6 : AHeap) (w : Bool),f h = h.tie w→Keep H5.next H5 H6→H5.next ≤ H6.next→∃ f2,AccQ HeadQ 5 (H6.put bh (some (.cells (splice cs (j * 5 + 3) [.sc (.bool w)])))) (.slice bh 0 x.heads.l.length cap 5) (x.heads.map (mapTo f (j + 1))) f2∧(∀ c ∈ f2,c ∈ fh) ∧
        (∀ c,c < q + 1→c ∉ fh→(H6.put bh (some (.cells (splice cs (j * 5 + 3) [.sc (.bool w)])))).cells c = H4.cells c)∧q + 1 ≤ H6.next:=by
      intro H6 w hw hK6 hn6
      have hB6:=hB5.fr headQ (H':=H6) fun b hb => hK6 b (by have:=hBlt b hb; omega)
      obtain ⟨bh',cap',cs',t1,t2,t3,t4,t5,t6,t7,t8,t9,t10⟩:=head_cells hB6 (k:=j) (x:=h) (by rw [l_some]; exact mapTo_get hh)
      rw [l_some,mapTo_len] at t1
      simp only [AV.slice.injEq,true_and,and_true] at t1
      obtain ⟨rfl,rfl⟩:=t1
      rw [hK6 bh (by omega),b5,Option.some.injEq] at t2
      subst t2
      obtain ⟨f2,u1,u2⟩:=t10 w
      refine ⟨f2,?_,fun c hc => hf' c (u2 c hc),fun c hc hc2 => ?_,by omega⟩
      · rw [l_some,← hw,mapTo_set hh] at u1
        rw [eh]; exact u1
      · rw [c_put_ne (fun e => hc2 (by rw [e]; exact hf' _ a9)),hK6 c (by omega),k5 c (by omega)]
        exact hst c hc hc2
    have hff : f h = h.tie (backTie P h):=by rw [← hf]
    by_cases i0 : (0 : Int) < (i : Int)
    rotate_left
    · have iz : i = 0:=by omega
      have hPn : P = none:=by rw [← hP,iz]; rfl
      simp -implicitDefEqProofs (maxDischargeDepth:=12) only [WW,List.replicate,Option.some_or,s_conv,e_conv,s_slc3,e_cut3,e_cut3n,e_bns,e_bnn,if_true,if_false,ite_true,ite_false,true_or,ne_eq,seval,beq_self_eq_true,eq_self,exists_eq_left,exists_eq_left',c5,i0,b5,hle,e2]
      obtain ⟨f2,u1,u2,u3,u4⟩:=fin H5 false (by rw [hff,hPn]; rfl) Keep.refl (Nat.le_refl _)
      exact ⟨k2 - 1,by omega,j + 1,f2,by omega,u1,u2,u3,by omega,ex_x rfl⟩
    obtain ⟨m,hm⟩ : ∃ y,c.notes.l[i - 1]? = some y:=⟨_,List.getElem?_eq_getElem (by omega)⟩
    have hPm : P = some m:=by rw [← hP]; unfold prevAt; rw [if_neg (by omega),hm]
    have tm:=tc.2 m (List.mem_of_getElem? hm)
    have em : IntKind.i64.wrap ((i : Int) - 1) = ((i - 1 : Nat) : Int):=by rw [w64 (by omega) (by have:=tc.1; omega)]; omega
    simp -implicitDefEqProofs (maxDischargeDepth:=12) only [WW,List.replicate,Option.some_or,s_conv,e_conv,s_slc3,e_cut3,e_cut3n,e_bns,e_bnn,if_true,if_false,ite_true,ite_false,true_or,ne_eq,seval,beq_self_eq_true,eq_self,exists_eq_left,exists_eq_left',c5,i0,s05,em,hm,m.enc_eq]
    refine wA_call rfl ((contains_ok rfl callee29 (asks29 c5 b5 a8 hle3) m.heads tm.heads).mono ?_)
    rintro o H6 ⟨rfl,hK6,hN6⟩
    refine ⟨_,rfl,?_⟩
    have c6:=(hK6 H'.next (by omega)).trans c5
    have b6:=(hK6 bh (by omega)).trans b5
    simp -implicitDefEqProofs (maxDischargeDepth:=12) only [WW,List.replicate,Option.some_or,s_conv,e_conv,s_slc3,e_cut3,e_cut3n,e_bns,e_bnn,if_true,if_false,ite_true,ite_false,true_or,ne_eq,seval,beq_self_eq_true,eq_self,exists_eq_left,exists_eq_left',c5,c6,b6,hle,e2]
    obtain ⟨f2,u1,u2,u3,u4⟩:=fin H6 (m.heads.l.any fun o => o.tied && decide (o.pitch = h.pitch)) (by rw [hff,hPm]; rfl) hK6 hN6
    exact ⟨k2 - 1,by omega,j + 1,f2,by omega,u1,u2,u3,by omega,ex_x rfl⟩
end
end Go.Hem
namespace Go.Hem
noncomputable section
def Note.shift (d : Int) (n : Note) : Note:={ n with at_:=IntKind.i64.wrap (n.at_ + d) }
end
end Go.Hem
namespace Go.Hem
noncomputable section
theorem heads_ne {n : Note} (h : chordE n = 0) : n.heads.l ≠ []:=fun e => by
  have:=(chordE_parts h).1
  rw [e] at this
  unfold headsE at this
  simp at this
theorem untied_one {m n : Note} (h : ∀ k ∈ m.heads.l,k.tied = false) (hm : m.heads.l ≠ []) : oneB m n = false:=by
  unfold oneB headsOne
  have : m.heads.l.all (·.tied) = false:=by
    cases q : m.heads.l with
    | nil => exact absurd q hm
    | cons x t => rw [List.all_cons,h x (by rw [q]; simp),Bool.false_and]
  rw [this]; simp
end
end Go.Hem
namespace Go.Hem
noncomputable section
theorem revN_heads {L : Int} {p : Option Note} {n : Note} : (revN L p n).heads.l = n.heads.l.map fun h => h.tie (backTie p h):=by
  show Sl.l (n.heads.map _) = _
  cases n.heads <;> simp [Sl.l]
theorem revN_fit {L : Int} {p : Option Note} {n : Note} (hL : L ≤ 123863040) (f : NFit L n) : NFit L (revN L p n)∧(revN L p n).at_ = L - (n.at_ + n.len):=by
  have q1:=f.lo; have q2:=f.one; have q3:=f.hi; have q4:=f.fin_eq hL
  have e : (revN L p n).at_ = L - (n.at_ + n.len):=by show IntKind.i64.wrap _ = _; rw [q4]; exact w64 (by omega) (by omega)
  have el : (revN L p n).len = n.len:=rfl
  refine ⟨⟨by omega,by omega,by omega,?_⟩,e⟩
  rw [← f.ok]
  exact chordE_of (by rw [revN_heads,List.map_map]; rfl) (by rw [revN_heads,List.map_map]; rfl) rfl rfl rfl rfl rfl
theorem mem_revGo {L : Int} {x : Note} : ∀ {p : Option Note} {l : List Note},x ∈ revGo L p l→∃ m ∈ l,∃ p',x = revN L p' m
  | _,[],h => by simp [revGo] at h
  | p,n :: t,h => by
    simp only [revGo,List.mem_append,List.mem_singleton] at h
    rcases h with h | rfl
    · obtain ⟨m,hm,p',e⟩:=mem_revGo h
      exact ⟨m,by simp [hm],p',e⟩
    · exact ⟨n,by simp,p,rfl⟩
theorem rev_row {L : Int} (hL : L ≤ 123863040) : ∀ {p : Option Note} {l : List Note},Row L l→Row L (revGo L p l)
  | _,[],_ => row_nil
  | p,n :: t,h => by
    obtain ⟨o1,o2⟩:=List.pairwise_cons.1 h.ord
    have r:=rev_row hL (p:=some n) (l:=t) ⟨fun x hx => h.fit x (by simp [hx]),o2⟩
    have fn:=revN_fit (p:=p) hL (h.fit n (by simp))
    simp only [revGo]
    refine ⟨fun x hx => ?_,?_⟩
    · rcases List.mem_append.1 hx with hx | hx
      · exact r.fit x hx
      · rw [List.mem_singleton.1 hx]; exact fn.1
    · rw [List.pairwise_append]
      refine ⟨r.ord,by simp,fun x hx y hy => ?_⟩
      rw [List.mem_singleton.1 hy]
      obtain ⟨m,hm,p',rfl⟩:=mem_revGo hx
      have fm:=revN_fit (p:=p') hL (h.fit m (by simp [hm]))
      have b:=o1 m hm
      have q:=(h.fit n (by simp)).one
      unfold Before at b ⊢
      rw [fm.2,fn.2]
      show L - (m.at_ + m.len) + m.len ≤ _
      omega
theorem fold_le : ∀ {l L : List Note},(l.foldl stepT L).length ≤ L.length + l.length
  | [],L => by simp
  | x :: l,L => by
    have:=fold_le (l:=l) (L:=stepT L x)
    have h2:=stepT_len (L:=L) (x:=x)
    simp only [List.foldl_cons,List.length_cons] at this ⊢
    omega
theorem revC_good {c : Clip} (h : checkE c = 0) (hl : c.notes.l.length ≤ 4096) : revC c = ⟨c.len,Sl.of (tidyP (revGo c.len none c.notes.l))⟩∧checkE (revC c) = 0:=by
  have e : revC c = ⟨c.len,Sl.of (tidyP (revGo c.len none c.notes.l))⟩:=by unfold revC; rw [if_pos h]
  have g:=good_of h
  refine ⟨e,?_⟩
  rw [e]
  refine check_of ⟨g.lo,g.hi,?_,?_⟩ ?_
  · show Row c.len _
    rw [l_of]; exact tidy_row g.hi (rev_row g.hi g.row)
  · show Neat _
    rw [l_of]; exact neat_tidy
  · rw [l_of]
    have:=fold_le (l:=revGo c.len none c.notes.l) (L:=[])
    unfold tidyP
    rw [untie_len]
    rw [revGo_len,List.length_nil] at this; omega
def Bare (l : List Note) : Prop:=∀ n ∈ l,∀ h ∈ n.heads.l,h.tied = false
def flipN (L : Int) (n : Note) : Note:={ n with at_:=IntKind.i64.wrap (L - n.fin) }
theorem backTie_none {p : Option Note} {h : Head} (hp : ∀ m,p = some m→∀ k ∈ m.heads.l,k.tied = false) : backTie p h = false:=by
  unfold backTie
  cases p with
  | none => rfl
  | some m =>
    simp only [List.any_eq_false,Bool.and_eq_true,not_and]
    intro k hk
    rw [hp m rfl k hk]; simp
theorem tie_none {p : Option Note} (hp : ∀ m,p = some m→∀ k ∈ m.heads.l,k.tied = false) {s : Sl Head} (hs : ∀ k ∈ s.l,k.tied = false) : s.map (List.map fun h => h.tie (backTie p h)) = s:=by
  cases s with
  | none => rfl
  | some l =>
    simp only [Option.map_some,Option.some.injEq]
    have : ∀ h ∈ l,h.tie (backTie p h) = h:=fun h hh => by
      rw [backTie_none hp,← hs h hh]; rfl
    rw [List.map_congr_left this]; simp
theorem revGo_flip {L : Int} : ∀ {p : Option Note} {l : List Note},(∀ m,p = some m→∀ k ∈ m.heads.l,k.tied = false)→Bare l→revGo L p l = (l.map (flipN L)).reverse
  | _,[],_,_ => rfl
  | p,n :: t,hp,hb => by
    simp only [revGo,List.map_cons,List.reverse_cons]
    rw [revGo_flip (p:=some n) (l:=t) (fun m e k hk => by cases e; exact hb n (by simp) k hk) (fun m hm => hb m (by simp [hm]))]
    have : revN L p n = flipN L n:=by
      unfold revN flipN
      rw [tie_none hp (hb n (by simp))]
    rw [this]
theorem bare_neat {L : Int} {l : List Note} (r : Row L l) (h : Bare l) : Neat l:=by
  refine ⟨fun i a b h1 h2 => ?_,fun i n h1 k hk ht => ?_⟩
  · have ha:=List.mem_of_getElem? h1
    exact untied_one (h a ha) (heads_ne (r.fit a ha).ok)
  · have:=h n (List.mem_of_getElem? h1) k hk
    rw [this] at ht; cases ht
theorem flip_flip {L : Int} {n : Note} (hL : L ≤ 123863040) (f : NFit L n) : flipN L (flipN L n) = n:=by
  have q1:=f.lo; have q2:=f.one; have q3:=f.hi; have q4:=f.fin_eq hL
  have e1 : (flipN L n).at_ = L - (n.at_ + n.len):=by show IntKind.i64.wrap _ = _; rw [q4]; exact w64 (by omega) (by omega)
  have e2 : (flipN L n).fin = L - n.at_:=by
    show IntKind.i64.wrap ((flipN L n).at_ + n.len) = _
    rw [e1,w64 (by omega) (by omega)]; omega
  have e3 : IntKind.i64.wrap (L - (flipN L n).fin) = n.at_:=by rw [e2,w64 (by omega) (by omega)]; omega
  show ({ flipN L n with at_:=IntKind.i64.wrap (L - (flipN L n).fin) } : Note) = n
  rw [e3]; rfl
theorem revC_twice {c : Clip} (h : checkE c = 0) (hl : c.notes.l.length ≤ 4096) (hb : Bare c.notes.l) : (revC (revC c)).cn = c.cn:=by
  obtain ⟨e,k⟩:=revC_good h hl
  have g:=good_of h
  have r1:=rev_row (p:=none) g.hi g.row
  have f1:=revGo_flip (L:=c.len) (p:=none) (fun m e => by cases e) hb
  have b1 : Bare (revGo c.len none c.notes.l):=by
    rw [f1]
    intro n hn
    rw [List.mem_reverse,List.mem_map] at hn
    obtain ⟨m,hm,rfl⟩:=hn
    exact hb m hm
  rw [tidy_id (bare_neat r1 b1)] at e
  have hnl : (revC c).notes.l = revGo c.len none c.notes.l:=by rw [e,l_of]
  have hle : (revC c).len = c.len:=by rw [e]
  have e2 : revC (revC c) = ⟨c.len,Sl.of (tidyP (revGo c.len none (revGo c.len none c.notes.l)))⟩:=by
    have : revC (revC c) = ⟨(revC c).len,Sl.of (tidyP (revGo (revC c).len none (revC c).notes.l))⟩:=by
      show (if checkE (revC c) = 0 then _ else _) = _
      rw [if_pos k]
    rw [this,hnl,hle]
  have e3 : revGo c.len none (revGo c.len none c.notes.l) = c.notes.l:=by
    rw [revGo_flip (fun m e => by cases e) b1,f1,List.map_reverse,List.reverse_reverse,List.map_map]
    conv => rhs; rw [← List.map_id c.notes.l]
    exact List.map_congr_left fun n hn => flip_flip g.hi (g.row.fit n hn)
  rw [e2,e3,tidy_id g.neat]
  exact Clip.cn_iff.2 ⟨rfl,by rw [l_of]⟩
def lawN (L : Int) (p : Option Note) (n : Note) : Note:={ n with at_:=IntKind.i64.wrap (IntKind.i64.wrap (L - n.at_) - n.len),heads:=some (n.heads.l.map fun h => h.tie (backTie p h)) }
def lawGo (L : Int) : Option Note→List Note→List Note
  | _,[] => []
  | p,n :: t => lawGo L (some n) t ++ [lawN L p n]
theorem lawN_cn {L : Int} {p : Option Note} {n : Note} (hL : L ≤ 123863040) (f : NFit L n) : (lawN L p n).cn = (revN L p n).cn:=by
  have q1:=f.lo; have q2:=f.one; have q3:=f.hi; have q4:=f.fin_eq hL
  have e : IntKind.i64.wrap (IntKind.i64.wrap (L - n.at_) - n.len) = IntKind.i64.wrap (L - n.fin):=by
    rw [w64 (a:=L - n.at_) (by omega) (by omega),q4,w64 (by omega) (by omega),w64 (by omega) (by omega)]; omega
  have eh:=revN_heads (L:=L) (p:=p) (n:=n)
  unfold Note.cn
  rw [eh]
  unfold lawN revN
  simp only [l_some,e]
theorem lawGo_cn {L : Int} (hL : L ≤ 123863040) : ∀ {p : Option Note} {l : List Note},(∀ n ∈ l,NFit L n)→(lawGo L p l).map Note.cn = (revGo L p l).map Note.cn
  | _,[],_ => rfl
  | p,n :: t,h => by
    simp only [lawGo,revGo,List.map_append,List.map_cons,List.map_nil]
    rw [lawGo_cn hL (fun m hm => h m (by simp [hm])),lawN_cn hL (h n (by simp))]
theorem lawGo_len {L : Int} : ∀ {p : Option Note} {l : List Note},(lawGo L p l).length = l.length
  | _,[] => rfl
  | p,n :: t => by simp only [lawGo,List.length_append,List.length_cons,List.length_nil,lawGo_len]
theorem lawGo_tame {L : Int} : ∀ {p : Option Note} {l : List Note},(∀ y ∈ l,y.tame)→∀ y ∈ lawGo L p l,y.tame
  | _,[],_,y,hy => by simp [lawGo] at hy
  | p,n :: t,h,y,hy => by
    simp only [lawGo,List.mem_append,List.mem_singleton] at hy
    rcases hy with hy | rfl
    · exact lawGo_tame (fun z hz => h z (by simp [hz])) y hy
    · have:=h n (by simp)
      exact ⟨by show (Sl.l (some (List.map _ _))).length < _; rw [l_some,List.length_map]; exact this.heads,this.graces,this.lyrics,this.text⟩
def tiesB (l : List Note) : Bool:=l.any fun n => n.heads.l.any (·.tied)
theorem tiesB_bare {l : List Note} (h : tiesB l = false) : Bare l:=fun n hn k hk => by
  unfold tiesB at h
  rw [List.any_eq_false] at h
  have:=h n hn
  simp only [List.any_eq_true,not_exists,not_and] at this
  have:=this k hk
  simpa using this
end
end Go.Hem
namespace Go.Hem
noncomputable section
theorem revC_tame {c : Clip} (tc : c.tame) : (revC c).tame:=by
  unfold revC
  split
  · have:=tidyP_tame (revGo_tame (L:=c.len) (p:=none) tc.2)
    refine ⟨?_,?_⟩
    · rw [l_of]; have h1:=this.2; rw [revGo_len] at h1; have:=tc.1; omega
    · rw [l_of]; exact this.1
  · exact noClip_tame
theorem revC_len {c : Clip} : (revC c).notes.l.length ≤ c.notes.l.length:=by
  unfold revC
  split
  · rw [l_of]
    have:=fold_le (l:=revGo c.len none c.notes.l) (L:=[])
    unfold tidyP
    rw [untie_len]
    rw [revGo_len,List.length_nil] at this; omega
  · show 0 ≤ _; omega
def prevH (p : Option Note) : List Head:=match p with
  | some m => m.heads.l
  | none => []
theorem set_tie {l : List Head} {j : Nat} {h : Head} {a b : Bool} : (l.set j (h.tie a)).set j ((h.tie a).tie b) = l.set j (h.tie b):=by rw [List.set_set]; rfl
theorem law3_pv (c : Clip) : Pv prog polS 3 [c.enc] (.sc (.bool true)):=by
  refine Pv_of' ok3 (by simp only [AV.closedBs,Clip.enc_closed,Bool.and_self]) ?_
  simp -implicitDefEqProofs (maxDischargeDepth:=12) only [wpF,cf3,WW,List.replicate,Option.some_or,s_conv,e_conv,s_slc3,e_cut3,e_cut3n,e_bns,e_bnn,e_splice,if_true,if_false,ite_true,ite_false,true_or,ne_eq,seval,h_putc,beq_self_eq_true,eq_self,exists_eq_left,exists_eq_left',c.enc_eq]
  refine wA_pure rfl known_pv ?_
  simp -implicitDefEqProofs (maxDischargeDepth:=12) only [WW,List.replicate,Option.some_or,s_conv,e_conv,s_slc3,e_cut3,e_cut3n,e_bns,e_bnn,e_splice,if_true,if_false,ite_true,ite_false,true_or,ne_eq,seval,h_putc,beq_self_eq_true,eq_self,exists_eq_left,exists_eq_left',c.enc_eq]
  rw [← c.enc_eq]
  refine wA_pure rfl (small_pv c) ?_
  cases hc : c.smallB with
  | false =>
    simp -implicitDefEqProofs (maxDischargeDepth:=12) only [WW,List.replicate,Option.some_or,s_conv,e_conv,s_slc3,e_cut3,e_cut3n,e_bns,e_bnn,e_splice,if_true,if_false,ite_true,ite_false,true_or,ne_eq,seval,h_putc,beq_self_eq_true,eq_self,exists_eq_left,exists_eq_left']
    refine wA_pure rfl known_pv ?_
    simp -implicitDefEqProofs (maxDischargeDepth:=12) only [WW,List.replicate,Option.some_or,s_conv,e_conv,s_slc3,e_cut3,e_cut3n,e_bns,e_bnn,e_splice,if_true,if_false,ite_true,ite_false,true_or,ne_eq,seval,h_putc,beq_self_eq_true,eq_self,exists_eq_left,exists_eq_left']
    exact frz_sc
  | true =>
  have tc:=smallB_tame hc
  simp -implicitDefEqProofs (maxDischargeDepth:=12) only [WW,List.replicate,Option.some_or,s_conv,e_conv,s_slc3,e_cut3,e_cut3n,e_bns,e_bnn,e_splice,if_true,if_false,ite_true,ite_false,true_or,ne_eq,seval,h_putc,beq_self_eq_true,eq_self,exists_eq_left,exists_eq_left',c.enc_eq]
  rw [← c.enc_eq]
  have hc4 : c.notes.l.length ≤ 4096:=by unfold Clip.smallB at hc; simp only [Bool.and_eq_true,decide_eq_true_eq] at hc; omega
  refine wA_pure rfl (rev_pv c tc) ?_
  have hX:=revC_tame tc
  have hXl:=revC_len (c:=c)
  have hXd : checkE c ≠ 0→revC c = noClip:=fun h => by unfold revC; rw [if_neg h]
  have hG:=fun h => revC_good (c:=c) h hc4
  have hT:=fun h b => revC_twice (c:=c) h hc4 b
  have hR:=rev_pv (revC c) hX
  generalize revC c = X at hX hXl hXd hG hT hR
  simp -implicitDefEqProofs (maxDischargeDepth:=12) only [WW,List.replicate,Option.some_or,s_conv,e_conv,s_slc3,e_cut3,e_cut3n,e_bns,e_bnn,e_splice,if_true,if_false,ite_true,ite_false,true_or,ne_eq,seval,h_putc,beq_self_eq_true,eq_self,exists_eq_left,exists_eq_left',c.enc_eq,X.enc_eq]
  rw [← c.enc_eq]
  refine wA_pure rfl (rcheck_pv c tc) ?_
  rw [← X.enc_eq]
  by_cases h1 : checkE c = 0
  rotate_left
  · have hXv:=hXd h1
    rw [hXv]
    simp -implicitDefEqProofs (maxDischargeDepth:=12) only [WW,List.replicate,Option.some_or,s_conv,e_conv,s_slc3,e_cut3,e_cut3n,e_bns,e_bnn,e_splice,if_true,if_false,ite_true,ite_false,true_or,ne_eq,seval,h_putc,beq_self_eq_true,eq_self,exists_eq_left,exists_eq_left',h1,noClip_enc,c.enc_eq]
    rw [← noClip_enc]
    refine wA_pure rfl (same_pv noClip noClip noClip_tame.1 (chord_tames noClip_tame)) ?_
    simp -implicitDefEqProofs (maxDischargeDepth:=12) only [WW,List.replicate,Option.some_or,s_conv,e_conv,s_slc3,e_cut3,e_cut3n,e_bns,e_bnn,e_splice,if_true,if_false,ite_true,ite_false,true_or,ne_eq,seval,h_putc,beq_self_eq_true,eq_self,exists_eq_left,exists_eq_left']
    exact frz_sc
  obtain ⟨hXe,hXc⟩:=hG h1
  have g:=good_of h1
  have e0 : IntKind.i64.wrap ((c.notes.l.length : Int) - 1) = (c.notes.l.length : Int) - 1:=w64 (by omega) (by omega)
  simp -implicitDefEqProofs (maxDischargeDepth:=12) only [WW,List.replicate,Option.some_or,s_conv,e_conv,s_slc3,e_cut3,e_cut3n,e_bns,e_bnn,e_splice,if_true,if_false,ite_true,ite_false,true_or,ne_eq,seval,h_putc,beq_self_eq_true,eq_self,exists_eq_left,exists_eq_left',eq_true h1,c.enc_eq,X.enc_eq,e0]
  refine wp_loop (Inv:=fun k t H => ∃ (v : AV) (fp : List Nat),k ≤ c.notes.l.length∧H.cells 0 = some c.enc.cells∧H.cells 1 = some X.enc.cells ∧
    AccQ NoteQ 8 H v (Sl.of (lawGo c.len (prevAt c.notes.l k) (c.notes.l.drop k))) fp∧(∀ b ∈ fp,2 ≤ b)∧2 ≤ H.next ∧
    ∃ y : Nat→AV,t = [c.enc,.ptr 0 0,.sc (.bool false),.ptr 1 0,.sc (.int .i64 (checkE c)),y 5,v,.sc (.bool (tiesB (c.notes.l.drop k))),.sc (.int .i64 ((k : Int) - 1)),y 9,y 10,y 11,y 12,y 13,y 14,y 15,y 16,y 17,y 18,y 19,y 20,y 21,y 22,y 23,y 24,y 25,y 26,y 27,y 28,y 29,y 30,y 31,y 32,y 33,y 34,y 35,y 36,y 37,y 38,y 39,y 40,y 41,y 42,y 43,y 44,y 45,y 46,y 47,y 48,y 49,y 50,y 51,y 52,y 53,y 54,y 55,y 56,y 57,y 58,y 59,y 60,y 61,y 62,y 63,y 64,y 65,y 66,y 67,y 68,y 69,y 70,y 71,y 72,y 73,y 74,y 75,y 76,y 77,y 78,y 79,y 80,y 81,y 82,y 83,y 84,y 85,y 86,y 87,y 88,y 89,y 90,y 91,y 92,y 93,y 94,y 95,y 96,y 97,y 98,y 99,y 100,y 101,y 102,y 103,y 104,y 105,y 106,y 107,y 108,y 109,y 110,y 111,y 112,y 113,y 114,y 115,y 116,y 117,y 118,y 119,y 120,y 121,y 122,y 123,y 124,y 125,y 126,y 127,y 128,y 129,y 130,y 131,y 132,y 133,y 134,y 135,y 136,y 137,y 138,y 139,y 140,y 141,y 142,y 143,y 144,y 145,y 146,y 147,y 148,y 149,y 150,y 151,y 152,y 153,y 154,y 155,y 156,y 157,y 158,y 159,y 160,y 161,y 162,y 163,y 164,y 165,y 166,y 167,y 168,y 169,y 170,y 171,y 172,y 173]) (k:=c.notes.l.length) ?_
    ⟨.sc .nils,[],by omega,?_,?_,?_,by simp,?_,?_⟩
  rotate_left
  · simp -implicitDefEqProofs (maxDischargeDepth:=12) only [WW,List.replicate,Option.some_or,s_conv,e_conv,s_slc3,e_cut3,e_cut3n,e_bns,e_bnn,e_splice,if_true,if_false,ite_true,ite_false,true_or,ne_eq,seval,h_putc,beq_self_eq_true,eq_self,exists_eq_left,exists_eq_left',c.enc_eq]
  · simp -implicitDefEqProofs (maxDischargeDepth:=12) only [WW,List.replicate,Option.some_or,s_conv,e_conv,s_slc3,e_cut3,e_cut3n,e_bns,e_bnn,e_splice,if_true,if_false,ite_true,ite_false,true_or,ne_eq,seval,h_putc,beq_self_eq_true,eq_self,exists_eq_left,exists_eq_left',X.enc_eq]
  · rw [List.drop_of_length_le (by omega)]; exact accQ_none
  · simp only [AHeap.next_put,AHeap.next_alloc]; decide
  · rw [List.drop_of_length_le (by omega)]
    exact ex_x rfl
  rintro k t H ⟨v,fp,hk,p0,p1,hA,hfp,hN,y,rfl⟩
  simp only [c.enc_eq,X.enc_eq,c_agg] at p0 p1
  cases k with
  | zero =>
    have e1 : ((0 : Nat) : Int) - 1 = -1:=by omega
    rw [e1]
    have hp0 : prevAt c.notes.l 0 = none:=rfl
    rw [hp0,List.drop_zero] at hA
    rw [List.drop_zero]
    have hvo:=hA.one
    obtain ⟨f,o1,o2⟩:=hA.own noteQ
    simp -implicitDefEqProofs (maxDischargeDepth:=12) only [WW,List.replicate,Option.some_or,s_conv,e_conv,s_slc3,e_cut3,e_cut3n,e_bns,e_bnn,e_splice,if_true,if_false,ite_true,ite_false,true_or,ne_eq,seval,h_putc,beq_self_eq_true,eq_self,exists_eq_left,exists_eq_left',p0,p1,hvo.1,hvo.2,eq_true h1]
    refine wA_ownA rfl (.cons (o1.mono (by decide)) .nil Apart.nil_right) (rtidy_pv (Sl.of (lawGo c.len none c.notes.l)) (by rw [l_of,lawGo_len]; exact tc.1) (by rw [l_of]; exact lawGo_tame tc.2)) ?_
    intro H1 hL
    have q1:=(cells_of_get (hL 1 (fun h => by have:=hfp 1 (o2 1 (by simpa using h)); omega))).trans p1
    have q0:=(cells_of_get (hL 0 (fun h => by have:=hfp 0 (o2 0 (by simpa using h)); omega))).trans p0
    rw [l_of]
    simp -implicitDefEqProofs (maxDischargeDepth:=12) only [WW,List.replicate,Option.some_or,s_conv,e_conv,s_slc3,e_cut3,e_cut3n,e_bns,e_bnn,e_splice,if_true,if_false,ite_true,ite_false,true_or,ne_eq,seval,h_putc,beq_self_eq_true,eq_self,exists_eq_left,exists_eq_left',p0,p1,q0,q1,eq_true h1]
    rw [← X.enc_eq]
    have eY : X.cn = (⟨c.len,Sl.of (tidyR (lawGo c.len none c.notes.l))⟩ : Clip).cn:=by
      rw [hXe]
      refine Clip.cn_iff.2 ⟨rfl,?_⟩
      rw [l_of,l_of,tidyR_of (lawGo_cn g.hi fun n hn => g.row.fit n hn)]
    refine wA_pure rfl (same_pv X ⟨c.len,Sl.of (tidyR (lawGo c.len none c.notes.l))⟩ hX.1 (chord_tames hX)) ?_
    rw [decide_eq_true eY]
    simp -implicitDefEqProofs (maxDischargeDepth:=12) only [WW,List.replicate,Option.some_or,s_conv,e_conv,s_slc3,e_cut3,e_cut3n,e_bns,e_bnn,e_splice,if_true,if_false,ite_true,ite_false,true_or,ne_eq,seval,h_putc,beq_self_eq_true,eq_self,exists_eq_left,exists_eq_left',q1,eq_true h1]
    rw [← X.enc_eq]
    refine wA_pure rfl (check_pv X hX) ?_
    rw [hXc]
    simp -implicitDefEqProofs (maxDischargeDepth:=12) only [WW,List.replicate,Option.some_or,s_conv,e_conv,s_slc3,e_cut3,e_cut3n,e_bns,e_bnn,e_splice,if_true,if_false,ite_true,ite_false,true_or,ne_eq,seval,h_putc,beq_self_eq_true,eq_self,exists_eq_left,exists_eq_left',q1]
    rw [← X.enc_eq]
    rw [hXc] at hR
    refine wA_pure rfl hR ?_
    have hY:=revC_tame hX
    have hT2:=hT h1
    generalize revC X = Y at hY hT2
    cases ht : tiesB c.notes.l with
    | true =>
      simp -implicitDefEqProofs (maxDischargeDepth:=12) only [WW,List.replicate,Option.some_or,s_conv,e_conv,s_slc3,e_cut3,e_cut3n,e_bns,e_bnn,e_splice,if_true,if_false,ite_true,ite_false,true_or,ne_eq,seval,h_putc,beq_self_eq_true,eq_self,exists_eq_left,exists_eq_left',Y.enc_eq]
      exact frz_sc
    | false =>
      have n0 : ¬ 0 = H1.next:=by have:=h_lt q0; omega
      simp -implicitDefEqProofs (maxDischargeDepth:=12) only [WW,List.replicate,Option.some_or,s_conv,e_conv,s_slc3,e_cut3,e_cut3n,e_bns,e_bnn,e_splice,if_true,if_false,ite_true,ite_false,true_or,ne_eq,seval,h_putc,beq_self_eq_true,eq_self,exists_eq_left,exists_eq_left',Y.enc_eq,q0,n0]
      rw [← Y.enc_eq,← c.enc_eq]
      refine wA_pure rfl (same_pv Y c hY.1 (chord_tames hY)) ?_
      rw [decide_eq_true (hT2 (tiesB_bare ht))]
      simp -implicitDefEqProofs (maxDischargeDepth:=12) only [WW,List.replicate,Option.some_or,s_conv,e_conv,s_slc3,e_cut3,e_cut3n,e_bns,e_bnn,e_splice,if_true,if_false,ite_true,ite_false,true_or,ne_eq,seval,h_putc,beq_self_eq_true,eq_self,exists_eq_left,exists_eq_left']
      exact frz_sc
  | succ i =>
    have e1 : ((i + 1 : Nat) : Int) - 1 = (i : Int):=by omega
    rw [e1]
    obtain ⟨x,hx⟩ : ∃ x,c.notes.l[i]? = some x:=⟨_,List.getElem?_eq_getElem (by omega)⟩
    have tx:=tc.2 x (List.mem_of_getElem? hx)
    have hlt:=hA.lt noteQ
    have i0 : (0 : Int) ≤ (i : Int):=by omega
    simp -implicitDefEqProofs (maxDischargeDepth:=12) only [WW,List.replicate,Option.some_or,s_conv,e_conv,s_slc3,e_cut3,e_cut3n,e_bns,e_bnn,if_true,if_false,ite_true,ite_false,true_or,ne_eq,seval,beq_self_eq_true,eq_self,exists_eq_left,exists_eq_left',p0,hx,x.enc_eq,i0]
    generalize hq : H.next = q at hN hlt
    generalize hH1 : AHeap.put _ q _ = H1
    have n1 : H1.next = q + 1:=by subst hH1; simp only [AHeap.next_put,AHeap.next_alloc,hq]
    have k1 : ∀ b,b < q→H1.cells b = H.cells b:=fun b hb => by subst hH1; rw [c_put_ne (by omega),c_alloc_ne (by omega)]
    have cq1:=congrArg (fun h => AHeap.cells h q) hH1
    simp -implicitDefEqProofs (maxDischargeDepth:=12) only [WW,List.replicate,Option.some_or,s_conv,e_conv,s_slc3,e_cut3,e_cut3n,e_bns,e_bnn,e_splice,if_true,if_false,ite_true,ite_false,true_or,ne_eq,seval,h_putc,beq_self_eq_true,eq_self,exists_eq_left,exists_eq_left',hq] at cq1
    replace cq1:=cq1.symm
    clear hH1
    have z0:=(k1 0 (by omega)).trans p0
    simp -implicitDefEqProofs (maxDischargeDepth:=12) only [WW,List.replicate,Option.some_or,s_conv,e_conv,s_slc3,e_cut3,e_cut3n,e_bns,e_bnn,e_splice,if_true,if_false,ite_true,ite_false,true_or,ne_eq,seval,h_putc,beq_self_eq_true,eq_self,exists_eq_left,exists_eq_left',z0,cq1]
    refine wA_call rfl ((rheads_ok x.heads tx.heads _).mono ?_)
    rintro o H2 ⟨hv,fh,rfl,hh0,hF⟩
    refine ⟨_,rfl,?_⟩
    have hN2:=hF.2.1
    have cq2:=(hF.2.2 q (by omega)).trans cq1
    have z02:=(hF.2.2 0 (by omega)).trans z0
    have hh:=acc_heads hh0
    have hfh : ∀ b ∈ fh,q < b:=fun b hb => by have:=hF.1 b hb; omega
    simp -implicitDefEqProofs (maxDischargeDepth:=12) only [WW,List.replicate,Option.some_or,s_conv,e_conv,s_slc3,e_cut3,e_cut3n,e_bns,e_bnn,e_splice,if_true,if_false,ite_true,ite_false,true_or,ne_eq,seval,h_putc,beq_self_eq_true,eq_self,exists_eq_left,exists_eq_left',z0,cq1,z02,cq2,hh0.one,hh0.cells]
    generalize hH4 : AHeap.put (AHeap.put H2 q _) q _ = H4
    have n4 : H4.next = H2.next:=by subst hH4; simp only [AHeap.next_put]
    have k4 : ∀ b,b ≠ q→H4.cells b = H2.cells b:=fun b hb => by subst hH4; rw [c_put_ne hb,c_put_ne hb]
    have cq4:=congrArg (fun h => AHeap.cells h q) hH4
    simp -implicitDefEqProofs (maxDischargeDepth:=12) only [WW,List.replicate,Option.some_or,s_conv,e_conv,s_slc3,e_cut3,e_cut3n,e_bns,e_bnn,e_splice,if_true,if_false,ite_true,ite_false,true_or,ne_eq,seval,h_putc,beq_self_eq_true,eq_self,exists_eq_left,exists_eq_left',cq2] at cq4
    replace cq4:=cq4.symm
    clear hH4
    have hh4 : AccQ HeadQ 5 H4 hv (some x.heads.l) fh:=hh.fr headQ fun b hb => k4 b (by have:=hfh b hb; omega)
    have k4q : ∀ b,b < q→H4.cells b = H.cells b:=fun b hb => by rw [k4 b (by omega),hF.2.2 b (by omega),k1 b hb]
    generalize hP : prevAt c.notes.l i = P
    generalize hf : (fun h : Head => h.tie (backTie P h)) = f
    generalize hT0 : tiesB (c.notes.l.drop (i + 1)) = T0
    refine wp_loop (Inv:=fun k2 t H' => ∃ (j : Nat) (f' : List Nat),j + k2 = x.heads.l.length∧AccQ HeadQ 5 H' hv (some (mapTo f j x.heads.l)) f'∧(∀ c ∈ f',q < c)∧(∀ c,c ≤ q→H'.cells c = H4.cells c)∧H'.next = H2.next ∧
      ∃ y : Nat→AV,t = [c.enc,.ptr 0 0,.sc (.bool false),.ptr 1 0,.sc (.int .i64 (checkE c)),y 5,v,.sc (.bool (T0 || (x.heads.l.take j).any (·.tied))),.sc (.int .i64 i),.ptr q 0,.sc (.int .i64 j),y 11,y 12,y 13,y 14,y 15,y 16,y 17,y 18,y 19,y 20,y 21,y 22,y 23,y 24,y 25,y 26,y 27,y 28,y 29,y 30,y 31,y 32,y 33,y 34,y 35,y 36,y 37,y 38,y 39,y 40,y 41,y 42,y 43,y 44,y 45,y 46,y 47,y 48,y 49,y 50,y 51,y 52,y 53,y 54,y 55,y 56,y 57,y 58,y 59,y 60,y 61,y 62,y 63,y 64,y 65,y 66,y 67,y 68,y 69,y 70,y 71,y 72,y 73,y 74,y 75,y 76,y 77,y 78,y 79,y 80,y 81,y 82,y 83,y 84,y 85,y 86,y 87,y 88,y 89,y 90,y 91,y 92,y 93,y 94,y 95,y 96,y 97,y 98,y 99,y 100,y 101,y 102,y 103,y 104,y 105,y 106,y 107,y 108,y 109,y 110,y 111,y 112,y 113,y 114,y 115,y 116,y 117,y 118,y 119,y 120,y 121,y 122,y 123,y 124,y 125,y 126,y 127,y 128,y 129,y 130,y 131,y 132,y 133,y 134,y 135,y 136,y 137,y 138,y 139,y 140,y 141,y 142,y 143,y 144,y 145,y 146,y 147,y 148,y 149,y 150,y 151,y 152,y 153,y 154,y 155,y 156,y 157,y 158,y 159,y 160,y 161,y 162,y 163,y 164,y 165,y 166,y 167,y 168,y 169,y 170,y 171,y 172,y 173]) (k:=x.heads.l.length) ?_ ⟨0,fh,by omega,?_,hfh,fun _ _ => rfl,n4,?_⟩
    rotate_left
    · rw [mapTo_zero]; exact hh4
    · rw [List.take_zero,List.any_nil,Bool.or_false]
      exact ex_x rfl
    clear y
    rintro k2 t H' ⟨j,f',hk2,hB,hf',hst,hN',y,rfl⟩
    have s0:=(hst 0 (by omega)).trans ((k4q 0 (by omega)).trans p0)
    have sq:=(hst q (by omega)).trans cq4
    have hl:=hB.length.1
    rw [l_some,mapTo_len] at hl
    by_cases c1 : (j : Int) < (x.heads.l.length : Int)
    rotate_left
    · rw [mapTo_all (by omega)] at hB
      rw [List.take_of_length_le (by omega)]
      have hB1:=hB.one.1
      simp -implicitDefEqProofs (maxDischargeDepth:=12) only [WW,List.replicate,Option.some_or,s_conv,e_conv,s_slc3,e_cut3,e_cut3n,e_bns,e_bnn,e_splice,if_true,if_false,ite_true,ite_false,true_or,ne_eq,seval,h_putc,beq_self_eq_true,eq_self,exists_eq_left,exists_eq_left',sq,hl,c1,hB1]
      generalize hHa : AHeap.alloc H' _ = Ha
      have na : Ha.next = H'.next + 1:=by subst hHa; simp only [AHeap.next_alloc]
      have ka : ∀ b,b < H'.next→Ha.cells b = H'.cells b:=fun b hb => by subst hHa; rw [c_alloc_ne (by omega)]
      have ca:=congrArg (fun h => AHeap.cells h H'.next) hHa
      simp -implicitDefEqProofs (maxDischargeDepth:=12) only [WW,List.replicate,Option.some_or,s_conv,e_conv,s_slc3,e_cut3,e_cut3n,e_bns,e_bnn,e_splice,if_true,if_false,ite_true,ite_false,true_or,ne_eq,seval,h_putc,beq_self_eq_true,eq_self,exists_eq_left,exists_eq_left'] at ca
      replace ca:=ca.symm
      clear hHa
      have kH : ∀ b,b < q→Ha.cells b = H.cells b:=fun b hb => by rw [ka b (by omega),hst b (by omega),k4q b hb]
      have hBlt:=hB.lt headQ
      have hlen : (lawGo c.len (prevAt c.notes.l (i + 1)) (c.notes.l.drop (i + 1))).length < 1000000:=by
        rw [lawGo_len,List.length_drop]; have:=tc.1; omega
      have hrow : NoteQ Ha [.sc (.int .i64 (IntKind.i64.wrap (IntKind.i64.wrap (c.len - x.at_) - x.len))),.sc (.int .i64 x.len),hv,slm Grace.enc x.graces,.sc (.int .i64 x.articulations),.sc (.int .i64 x.ornament),.sc (.int .i64 x.dynamic),slm Syllable.enc x.lyrics] (lawN c.len P x) f':=by
        refine noteQ_heads (x:=lawN c.len P x) ?_
        subst hf
        exact hB.fr headQ fun c hc => ka c (hBlt c hc)
      refine wA_appQ noteQ (H0:=H) hA (y:=lawN c.len P x) (g:=f') (fun b hb => kH b (hlt b hb)) rfl (asrc_one ca rfl) hrow (fun c h1 h2 => by have:=hlt c h1; have:=hf' c h2; omega) (by rw [l_of]; omega) ?_
      intro v' H8 fp' q1 q2 q3 q4 q5 q6
      have z8 : ∀ b,b < 2→H8.cells b = H.cells b:=fun b hb => by rw [q3 b (fun h => by have:=hfp b h; omega) (by omega),kH b (by omega)]
      have e3 : IntKind.i64.wrap ((i : Int) - 1) = (i : Int) - 1:=w64 (by omega) (by have:=tc.1; omega)
      have eT : tiesB (c.notes.l.drop i) = (T0 || x.heads.l.any (·.tied)):=by
        rw [drop_cons hx,← hT0]
        show ((x.heads.l.any (·.tied)) || tiesB _) = _
        rw [Bool.or_comm]
      simp -implicitDefEqProofs (maxDischargeDepth:=12) only [WW,List.replicate,Option.some_or,s_conv,e_conv,s_slc3,e_cut3,e_cut3n,e_bns,e_bnn,e_splice,if_true,if_false,ite_true,ite_false,true_or,ne_eq,seval,h_putc,beq_self_eq_true,eq_self,exists_eq_left,exists_eq_left',q5,q6,e3]
      refine ⟨i,by omega,v',fp',by omega,(z8 0 (by decide)).trans p0,(z8 1 (by decide)).trans p1,?_,fun b hb => ?_,by omega,by rw [eT]; exact ex_x rfl⟩
      · rw [drop_cons hx]
        simp only [lawGo]
        rw [prev_succ hx,l_of] at q1
        rw [hP,of_cons (by simp)]
        exact q1
      · rcases q4 b hb with h | h | h
        · exact hfp b h
        · have:=hf' b h; omega
        · omega
    obtain ⟨h,hj⟩ : ∃ y,x.heads.l[j]? = some y:=⟨_,List.getElem?_eq_getElem (by omega)⟩
    have e2 : IntKind.i64.wrap ((j : Int) + 1) = ((j + 1 : Nat) : Int):=by rw [w64 (by omega) (by have:=tx.heads; omega)]; omega
    obtain ⟨bh,cap,cs,a1,a2,a3,a4,a5,a6,a7,a8,a9,a10⟩:=head_cells hB (k:=j) (x:=h) (by rw [l_some]; exact mapTo_get hj)
    rw [l_some,mapTo_len] at a1
    subst a1
    have jl : j < x.heads.l.length:=by omega
    have hle : j * 5 + 3 + 1 ≤ cs.length:=by omega
    have bhq:=hf' bh a9
    obtain ⟨f2,u1,u2⟩:=a10 false
    rw [l_some] at u1
    have eT : (T0 || (x.heads.l.take (j + 1)).any (·.tied)) = ((T0 || (x.heads.l.take j).any (·.tied)) || h.tied):=by
      rw [List.take_add_one,hj,List.any_append,Bool.or_assoc]; simp
    generalize hTj : (T0 || (x.heads.l.take j).any (·.tied)) = Tj at eT
    have hset : ∀ w,f h = h.tie w→(mapTo f j x.heads.l).set j (h.tie w) = mapTo f (j + 1) x.heads.l:=fun w hw => by rw [← hw,mapTo_set hj]
    have hff : f h = h.tie (backTie P h):=by rw [← hf]
    have tl2 : ∀ (w : Bool),((mapTo f j x.heads.l).set j (h.tie w))[j]? = some (h.tie w):=fun w => List.getElem?_set_self (by rw [mapTo_len]; exact jl)
    cases Tj with
    | true =>
      simp -implicitDefEqProofs (maxDischargeDepth:=12) only [WW,List.replicate,Option.some_or,s_conv,e_conv,s_slc3,e_cut3,e_cut3n,e_bns,e_bnn,if_true,if_false,ite_true,ite_false,true_or,ne_eq,seval,beq_self_eq_true,eq_self,exists_eq_left,exists_eq_left',sq,c1,hl,jl,a2,a7,hle]
      refine wp_loopY 4 (Inv:=fun r t H6 => ∃ (p : Nat) (f3 : List Nat),p + r = (prevH P).length∧AccQ HeadQ 5 H6 (.slice bh 0 x.heads.l.length cap 5) (some ((mapTo f j x.heads.l).set j (h.tie (((prevH P).take p).any fun o => o.tied && decide (o.pitch = h.pitch))))) f3∧(∀ c ∈ f3,q < c)∧(∀ c,c ≤ q→H6.cells c = H4.cells c)∧H6.next = H2.next ∧
          ∃ y : Nat→AV,t = [c.enc,.ptr 0 0,.sc (.bool false),.ptr 1 0,.sc (.int .i64 (checkE c)),y 5,v,.sc (.bool (true)),.sc (.int .i64 i),.ptr q 0,.sc (.int .i64 j),.sc (.int .i64 p),y 12,y 13,y 14,y 15,y 16,y 17,y 18,y 19,y 20,y 21,y 22,y 23,y 24,y 25,y 26,y 27,y 28,y 29,y 30,y 31,y 32,y 33,y 34,y 35,y 36,y 37,y 38,y 39,y 40,y 41,y 42,y 43,y 44,y 45,y 46,y 47,y 48,y 49,y 50,y 51,y 52,y 53,y 54,y 55,y 56,y 57,y 58,y 59,y 60,y 61,y 62,y 63,y 64,y 65,y 66,y 67,y 68,y 69,y 70,y 71,y 72,y 73,y 74,y 75,y 76,y 77,y 78,y 79,y 80,y 81,y 82,y 83,y 84,y 85,y 86,y 87,y 88,y 89,y 90,y 91,y 92,y 93,y 94,y 95,y 96,y 97,y 98,y 99,y 100,y 101,y 102,y 103,y 104,y 105,y 106,y 107,y 108,y 109,y 110,y 111,y 112,y 113,y 114,y 115,y 116,y 117,y 118,y 119,y 120,y 121,y 122,y 123,y 124,y 125,y 126,y 127,y 128,y 129,y 130,y 131,y 132,y 133,y 134,y 135,y 136,y 137,y 138,y 139,y 140,y 141,y 142,y 143,y 144,y 145,y 146,y 147,y 148,y 149,y 150,y 151,y 152,y 153,y 154,y 155,y 156,y 157,y 158,y 159,y 160,y 161,y 162,y 163,y 164,y 165,y 166,y 167,y 168,y 169,y 170,y 171,y 172,y 173])
        (Ex:=fun t H6 => ∃ (f3 : List Nat),AccQ HeadQ 5 H6 (.slice bh 0 x.heads.l.length cap 5) (some (mapTo f (j + 1) x.heads.l)) f3∧(∀ c ∈ f3,q < c)∧(∀ c,c ≤ q→H6.cells c = H4.cells c)∧H6.next = H2.next ∧
          ∃ y : Nat→AV,t = [c.enc,.ptr 0 0,.sc (.bool false),.ptr 1 0,.sc (.int .i64 (checkE c)),y 5,v,.sc (.bool (true)),.sc (.int .i64 i),.ptr q 0,.sc (.int .i64 j),y 11,y 12,y 13,y 14,y 15,y 16,y 17,y 18,y 19,y 20,y 21,y 22,y 23,y 24,y 25,y 26,y 27,y 28,y 29,y 30,y 31,y 32,y 33,y 34,y 35,y 36,y 37,y 38,y 39,y 40,y 41,y 42,y 43,y 44,y 45,y 46,y 47,y 48,y 49,y 50,y 51,y 52,y 53,y 54,y 55,y 56,y 57,y 58,y 59,y 60,y 61,y 62,y 63,y 64,y 65,y 66,y 67,y 68,y 69,y 70,y 71,y 72,y 73,y 74,y 75,y 76,y 77,y 78,y 79,y 80,y 81,y 82,y 83,y 84,y 85,y 86,y 87,y 88,y 89,y 90,y 91,y 92,y 93,y 94,y 95,y 96,y 97,y 98,y 99,y 100,y 101,y 102,y 103,y 104,y 105,y 106,y 107,y 108,y 109,y 110,y 111,y 112,y 113,y 114,y 115,y 116,y 117,y 118,y 119,y 120,y 121,y 122,y 123,y 124,y 125,y 126,y 127,y 128,y 129,y 130,y 131,y 132,y 133,y 134,y 135,y 136,y 137,y 138,y 139,y 140,y 141,y 142,y 143,y 144,y 145,y 146,y 147,y 148,y 149,y 150,y 151,y 152,y 153,y 154,y 155,y 156,y 157,y 158,y 159,y 160,y 161,y 162,y 163,y 164,y 165,y 166,y 167,y 168,y 169,y 170,y 171,y 172,y 173]) (k:=(prevH P).length) ?_ ?_
        ⟨0,f2,by omega,u1,fun c hc => hf' c (u2 c hc),fun c hc => by rw [c_put_ne (by omega)]; exact hst c hc,by rw [AHeap.next_put]; exact hN',ex_x rfl⟩
      · clear y u1 u2 a2 a3 a4 a5 a6 a7 a8 a9 a10 hle sq s0 hst hN' f2
        rintro r t H6 ⟨p,f3,hp,hC,hf3,hst,hN',y,rfl⟩
        have s0:=(hst 0 (by omega)).trans ((k4q 0 (by omega)).trans p0)
        have sq:=(hst q (by omega)).trans cq4
        by_cases i0 : (0 : Int) < (i : Int)
        rotate_left
        · have iz : i = 0:=by omega
          have hPn : P = none:=by rw [← hP,iz]; rfl
          subst hPn
          have e : ((prevH none).take p).any (fun o => o.tied && decide (o.pitch = h.pitch)) = backTie none h:=by simp [prevH,backTie]
          rw [e,hset _ hff] at hC
          simp -implicitDefEqProofs (maxDischargeDepth:=12) only [WW,List.replicate,Option.some_or,s_conv,e_conv,s_slc3,e_cut3,e_cut3n,e_bns,e_bnn,if_true,if_false,ite_true,ite_false,true_or,ne_eq,seval,beq_self_eq_true,eq_self,exists_eq_left,exists_eq_left',i0]
          exact ⟨f3,hC,hf3,hst,hN',ex_x rfl⟩
        obtain ⟨m,hm⟩ : ∃ y,c.notes.l[i - 1]? = some y:=⟨_,List.getElem?_eq_getElem (by omega)⟩
        have hPm : P = some m:=by rw [← hP]; unfold prevAt; rw [if_neg (by omega),hm]
        subst hPm
        have hPH : prevH (some m) = m.heads.l:=rfl
        have em : IntKind.i64.wrap ((i : Int) - 1) = ((i - 1 : Nat) : Int):=by rw [w64 (by omega) (by have:=tc.1; omega)]; omega
        have tm:=tc.2 m (List.mem_of_getElem? hm)
        rw [hPH] at hp hC
        by_cases p1 : (p : Int) < (m.heads.l.length : Int)
        rotate_left
        · rw [List.take_of_length_le (by omega)] at hC
          have e : (m.heads.l.any fun o => o.tied && decide (o.pitch = h.pitch)) = backTie (some m) h:=rfl
          rw [e,hset _ hff] at hC
          simp -implicitDefEqProofs (maxDischargeDepth:=12) only [WW,List.replicate,Option.some_or,s_conv,e_conv,s_slc3,e_cut3,e_cut3n,e_bns,e_bnn,if_true,if_false,ite_true,ite_false,true_or,ne_eq,seval,beq_self_eq_true,eq_self,exists_eq_left,exists_eq_left',i0,s0,em,hm,m.enc_eq,p1]
          exact ⟨f3,hC,hf3,hst,hN',ex_x rfl⟩
        obtain ⟨o,ho⟩ : ∃ y,m.heads.l[p]? = some y:=⟨_,List.getElem?_eq_getElem (by omega)⟩
        have e3 : IntKind.i64.wrap ((p : Int) + 1) = ((p + 1 : Nat) : Int):=by rw [w64 (by omega) (by have:=tm.heads; omega)]; omega
        have eany : ((m.heads.l.take (p + 1)).any fun o => o.tied && decide (o.pitch = h.pitch)) = (((m.heads.l.take p).any fun o => o.tied && decide (o.pitch = h.pitch)) || (o.tied && decide (o.pitch = h.pitch))):=by
          rw [List.take_add_one,ho,List.any_append]; simp
        obtain ⟨b',cap',cs,a1,a2,a3,a4,a5,a6,a7,a8,a9,a10⟩:=head_cells hC (k:=j) (x:=h.tie ((m.heads.l.take p).any fun o => o.tied && decide (o.pitch = h.pitch))) (by rw [l_some]; exact tl2 _)
        rw [l_some,List.length_set,mapTo_len] at a1
        simp only [AV.slice.injEq,true_and,and_true] at a1
        obtain ⟨rfl,rfl⟩:=a1
        have hle : j * 5 + 3 + 1 ≤ cs.length:=by omega
        have hle3 : j * 5 + 3 ≤ cs.length:=by omega
        have a8' : (cs.drop (j * 5)).take 3 = [.sc (.int .i64 h.pitch.step),.sc (.int .i64 h.pitch.alter),.sc (.int .i64 h.pitch.octave)]:=a8
        cases ht : o.tied with
        | false =>
          rw [ht,Bool.false_and,Bool.or_false] at eany
          simp -implicitDefEqProofs (maxDischargeDepth:=12) only [WW,List.replicate,Option.some_or,s_conv,e_conv,s_slc3,e_cut3,e_cut3n,e_bns,e_bnn,if_true,if_false,ite_true,ite_false,true_or,ne_eq,seval,beq_self_eq_true,eq_self,exists_eq_left,exists_eq_left',i0,s0,em,hm,m.enc_eq,p1,ho,o.enc_eq,ht,e3]
          exact ⟨r - 1,by omega,p + 1,f3,by rw [hPH]; omega,by rw [hPH,eany]; exact hC,hf3,hst,hN',ex_x rfl⟩
        | true =>
          rw [ht,Bool.true_and] at eany
          have pl : p < m.heads.l.length:=by omega
          by_cases pe : o.pitch = h.pitch
          · rw [decide_eq_true pe,Bool.or_true] at eany
            simp -implicitDefEqProofs (maxDischargeDepth:=12) only [WW,List.replicate,Option.some_or,s_conv,e_conv,s_slc3,e_cut3,e_cut3n,e_bns,e_bnn,if_true,if_false,ite_true,ite_false,true_or,ne_eq,seval,beq_self_eq_true,eq_self,exists_eq_left,exists_eq_left',i0,s0,em,hm,m.enc_eq,p1,pl,ho,o.enc_eq,ht,sq,jl,a2,a8',hle,hle3,pitch_cmp,pe,e3]
            obtain ⟨f4,w1,w2⟩:=a10 true
            rw [l_some,set_tie] at w1
            exact ⟨r - 1,by omega,p + 1,f4,by rw [hPH]; omega,by rw [hPH,eany]; exact w1,fun c hc => hf3 c (w2 c hc),fun c hc => by rw [c_put_ne (by have:=hf3 bh a9; omega)]; exact hst c hc,hN',ex_x rfl⟩
          · rw [decide_eq_false pe,Bool.or_false] at eany
            simp -implicitDefEqProofs (maxDischargeDepth:=12) only [WW,List.replicate,Option.some_or,s_conv,e_conv,s_slc3,e_cut3,e_cut3n,e_bns,e_bnn,if_true,if_false,ite_true,ite_false,true_or,ne_eq,seval,beq_self_eq_true,eq_self,exists_eq_left,exists_eq_left',i0,s0,em,hm,m.enc_eq,p1,pl,ho,o.enc_eq,ht,sq,jl,a2,a8',hle,hle3,pitch_cmp,pe,e3]
            exact ⟨r - 1,by omega,p + 1,f3,by rw [hPH]; omega,by rw [hPH,eany]; exact hC,hf3,hst,hN',ex_x rfl⟩
      · rintro t H6 ⟨f3,hC,hf3,hst,hN',y,rfl⟩
        simp -implicitDefEqProofs (maxDischargeDepth:=12) only [WW,List.replicate,Option.some_or,s_conv,e_conv,s_slc3,e_cut3,e_cut3n,e_bns,e_bnn,if_true,if_false,ite_true,ite_false,true_or,ne_eq,seval,beq_self_eq_true,eq_self,exists_eq_left,exists_eq_left',e2]
        exact ⟨k2 - 1,by omega,j + 1,f3,by omega,hC,hf3,hst,hN',by rw [eT]; exact ex_x rfl⟩
    | false =>
      simp -implicitDefEqProofs (maxDischargeDepth:=12) only [WW,List.replicate,Option.some_or,s_conv,e_conv,s_slc3,e_cut3,e_cut3n,e_bns,e_bnn,if_true,if_false,ite_true,ite_false,true_or,ne_eq,seval,beq_self_eq_true,eq_self,exists_eq_left,exists_eq_left',sq,c1,hl,jl,a2,a7,hle]
      refine wp_loopY 4 (Inv:=fun r t H6 => ∃ (p : Nat) (f3 : List Nat),p + r = (prevH P).length∧AccQ HeadQ 5 H6 (.slice bh 0 x.heads.l.length cap 5) (some ((mapTo f j x.heads.l).set j (h.tie (((prevH P).take p).any fun o => o.tied && decide (o.pitch = h.pitch))))) f3∧(∀ c ∈ f3,q < c)∧(∀ c,c ≤ q→H6.cells c = H4.cells c)∧H6.next = H2.next ∧
          ∃ y : Nat→AV,t = [c.enc,.ptr 0 0,.sc (.bool false),.ptr 1 0,.sc (.int .i64 (checkE c)),y 5,v,.sc (.bool (h.tied)),.sc (.int .i64 i),.ptr q 0,.sc (.int .i64 j),.sc (.int .i64 p),y 12,y 13,y 14,y 15,y 16,y 17,y 18,y 19,y 20,y 21,y 22,y 23,y 24,y 25,y 26,y 27,y 28,y 29,y 30,y 31,y 32,y 33,y 34,y 35,y 36,y 37,y 38,y 39,y 40,y 41,y 42,y 43,y 44,y 45,y 46,y 47,y 48,y 49,y 50,y 51,y 52,y 53,y 54,y 55,y 56,y 57,y 58,y 59,y 60,y 61,y 62,y 63,y 64,y 65,y 66,y 67,y 68,y 69,y 70,y 71,y 72,y 73,y 74,y 75,y 76,y 77,y 78,y 79,y 80,y 81,y 82,y 83,y 84,y 85,y 86,y 87,y 88,y 89,y 90,y 91,y 92,y 93,y 94,y 95,y 96,y 97,y 98,y 99,y 100,y 101,y 102,y 103,y 104,y 105,y 106,y 107,y 108,y 109,y 110,y 111,y 112,y 113,y 114,y 115,y 116,y 117,y 118,y 119,y 120,y 121,y 122,y 123,y 124,y 125,y 126,y 127,y 128,y 129,y 130,y 131,y 132,y 133,y 134,y 135,y 136,y 137,y 138,y 139,y 140,y 141,y 142,y 143,y 144,y 145,y 146,y 147,y 148,y 149,y 150,y 151,y 152,y 153,y 154,y 155,y 156,y 157,y 158,y 159,y 160,y 161,y 162,y 163,y 164,y 165,y 166,y 167,y 168,y 169,y 170,y 171,y 172,y 173])
        (Ex:=fun t H6 => ∃ (f3 : List Nat),AccQ HeadQ 5 H6 (.slice bh 0 x.heads.l.length cap 5) (some (mapTo f (j + 1) x.heads.l)) f3∧(∀ c ∈ f3,q < c)∧(∀ c,c ≤ q→H6.cells c = H4.cells c)∧H6.next = H2.next ∧
          ∃ y : Nat→AV,t = [c.enc,.ptr 0 0,.sc (.bool false),.ptr 1 0,.sc (.int .i64 (checkE c)),y 5,v,.sc (.bool (h.tied)),.sc (.int .i64 i),.ptr q 0,.sc (.int .i64 j),y 11,y 12,y 13,y 14,y 15,y 16,y 17,y 18,y 19,y 20,y 21,y 22,y 23,y 24,y 25,y 26,y 27,y 28,y 29,y 30,y 31,y 32,y 33,y 34,y 35,y 36,y 37,y 38,y 39,y 40,y 41,y 42,y 43,y 44,y 45,y 46,y 47,y 48,y 49,y 50,y 51,y 52,y 53,y 54,y 55,y 56,y 57,y 58,y 59,y 60,y 61,y 62,y 63,y 64,y 65,y 66,y 67,y 68,y 69,y 70,y 71,y 72,y 73,y 74,y 75,y 76,y 77,y 78,y 79,y 80,y 81,y 82,y 83,y 84,y 85,y 86,y 87,y 88,y 89,y 90,y 91,y 92,y 93,y 94,y 95,y 96,y 97,y 98,y 99,y 100,y 101,y 102,y 103,y 104,y 105,y 106,y 107,y 108,y 109,y 110,y 111,y 112,y 113,y 114,y 115,y 116,y 117,y 118,y 119,y 120,y 121,y 122,y 123,y 124,y 125,y 126,y 127,y 128,y 129,y 130,y 131,y 132,y 133,y 134,y 135,y 136,y 137,y 138,y 139,y 140,y 141,y 142,y 143,y 144,y 145,y 146,y 147,y 148,y 149,y 150,y 151,y 152,y 153,y 154,y 155,y 156,y 157,y 158,y 159,y 160,y 161,y 162,y 163,y 164,y 165,y 166,y 167,y 168,y 169,y 170,y 171,y 172,y 173]) (k:=(prevH P).length) ?_ ?_
        ⟨0,f2,by omega,u1,fun c hc => hf' c (u2 c hc),fun c hc => by rw [c_put_ne (by omega)]; exact hst c hc,by rw [AHeap.next_put]; exact hN',ex_x rfl⟩
      · clear y u1 u2 a2 a3 a4 a5 a6 a7 a8 a9 a10 hle sq s0 hst hN' f2
        rintro r t H6 ⟨p,f3,hp,hC,hf3,hst,hN',y,rfl⟩
        have s0:=(hst 0 (by omega)).trans ((k4q 0 (by omega)).trans p0)
        have sq:=(hst q (by omega)).trans cq4
        by_cases i0 : (0 : Int) < (i : Int)
        rotate_left
        · have iz : i = 0:=by omega
          have hPn : P = none:=by rw [← hP,iz]; rfl
          subst hPn
          have e : ((prevH none).take p).any (fun o => o.tied && decide (o.pitch = h.pitch)) = backTie none h:=by simp [prevH,backTie]
          rw [e,hset _ hff] at hC
          simp -implicitDefEqProofs (maxDischargeDepth:=12) only [WW,List.replicate,Option.some_or,s_conv,e_conv,s_slc3,e_cut3,e_cut3n,e_bns,e_bnn,if_true,if_false,ite_true,ite_false,true_or,ne_eq,seval,beq_self_eq_true,eq_self,exists_eq_left,exists_eq_left',i0]
          exact ⟨f3,hC,hf3,hst,hN',ex_x rfl⟩
        obtain ⟨m,hm⟩ : ∃ y,c.notes.l[i - 1]? = some y:=⟨_,List.getElem?_eq_getElem (by omega)⟩
        have hPm : P = some m:=by rw [← hP]; unfold prevAt; rw [if_neg (by omega),hm]
        subst hPm
        have hPH : prevH (some m) = m.heads.l:=rfl
        have em : IntKind.i64.wrap ((i : Int) - 1) = ((i - 1 : Nat) : Int):=by rw [w64 (by omega) (by have:=tc.1; omega)]; omega
        have tm:=tc.2 m (List.mem_of_getElem? hm)
        rw [hPH] at hp hC
        by_cases p1 : (p : Int) < (m.heads.l.length : Int)
        rotate_left
        · rw [List.take_of_length_le (by omega)] at hC
          have e : (m.heads.l.any fun o => o.tied && decide (o.pitch = h.pitch)) = backTie (some m) h:=rfl
          rw [e,hset _ hff] at hC
          simp -implicitDefEqProofs (maxDischargeDepth:=12) only [WW,List.replicate,Option.some_or,s_conv,e_conv,s_slc3,e_cut3,e_cut3n,e_bns,e_bnn,if_true,if_false,ite_true,ite_false,true_or,ne_eq,seval,beq_self_eq_true,eq_self,exists_eq_left,exists_eq_left',i0,s0,em,hm,m.enc_eq,p1]
          exact ⟨f3,hC,hf3,hst,hN',ex_x rfl⟩
        obtain ⟨o,ho⟩ : ∃ y,m.heads.l[p]? = some y:=⟨_,List.getElem?_eq_getElem (by omega)⟩
        have e3 : IntKind.i64.wrap ((p : Int) + 1) = ((p + 1 : Nat) : Int):=by rw [w64 (by omega) (by have:=tm.heads; omega)]; omega
        have eany : ((m.heads.l.take (p + 1)).any fun o => o.tied && decide (o.pitch = h.pitch)) = (((m.heads.l.take p).any fun o => o.tied && decide (o.pitch = h.pitch)) || (o.tied && decide (o.pitch = h.pitch))):=by
          rw [List.take_add_one,ho,List.any_append]; simp
        obtain ⟨b',cap',cs,a1,a2,a3,a4,a5,a6,a7,a8,a9,a10⟩:=head_cells hC (k:=j) (x:=h.tie ((m.heads.l.take p).any fun o => o.tied && decide (o.pitch = h.pitch))) (by rw [l_some]; exact tl2 _)
        rw [l_some,List.length_set,mapTo_len] at a1
        simp only [AV.slice.injEq,true_and,and_true] at a1
        obtain ⟨rfl,rfl⟩:=a1
        have hle : j * 5 + 3 + 1 ≤ cs.length:=by omega
        have hle3 : j * 5 + 3 ≤ cs.length:=by omega
        have a8' : (cs.drop (j * 5)).take 3 = [.sc (.int .i64 h.pitch.step),.sc (.int .i64 h.pitch.alter),.sc (.int .i64 h.pitch.octave)]:=a8
        cases ht : o.tied with
        | false =>
          rw [ht,Bool.false_and,Bool.or_false] at eany
          simp -implicitDefEqProofs (maxDischargeDepth:=12) only [WW,List.replicate,Option.some_or,s_conv,e_conv,s_slc3,e_cut3,e_cut3n,e_bns,e_bnn,if_true,if_false,ite_true,ite_false,true_or,ne_eq,seval,beq_self_eq_true,eq_self,exists_eq_left,exists_eq_left',i0,s0,em,hm,m.enc_eq,p1,ho,o.enc_eq,ht,e3]
          exact ⟨r - 1,by omega,p + 1,f3,by rw [hPH]; omega,by rw [hPH,eany]; exact hC,hf3,hst,hN',ex_x rfl⟩
        | true =>
          rw [ht,Bool.true_and] at eany
          have pl : p < m.heads.l.length:=by omega
          by_cases pe : o.pitch = h.pitch
          · rw [decide_eq_true pe,Bool.or_true] at eany
            simp -implicitDefEqProofs (maxDischargeDepth:=12) only [WW,List.replicate,Option.some_or,s_conv,e_conv,s_slc3,e_cut3,e_cut3n,e_bns,e_bnn,if_true,if_false,ite_true,ite_false,true_or,ne_eq,seval,beq_self_eq_true,eq_self,exists_eq_left,exists_eq_left',i0,s0,em,hm,m.enc_eq,p1,pl,ho,o.enc_eq,ht,sq,jl,a2,a8',hle,hle3,pitch_cmp,pe,e3]
            obtain ⟨f4,w1,w2⟩:=a10 true
            rw [l_some,set_tie] at w1
            exact ⟨r - 1,by omega,p + 1,f4,by rw [hPH]; omega,by rw [hPH,eany]; exact w1,fun c hc => hf3 c (w2 c hc),fun c hc => by rw [c_put_ne (by have:=hf3 bh a9; omega)]; exact hst c hc,hN',ex_x rfl⟩
          · rw [decide_eq_false pe,Bool.or_false] at eany
            simp -implicitDefEqProofs (maxDischargeDepth:=12) only [WW,List.replicate,Option.some_or,s_conv,e_conv,s_slc3,e_cut3,e_cut3n,e_bns,e_bnn,if_true,if_false,ite_true,ite_false,true_or,ne_eq,seval,beq_self_eq_true,eq_self,exists_eq_left,exists_eq_left',i0,s0,em,hm,m.enc_eq,p1,pl,ho,o.enc_eq,ht,sq,jl,a2,a8',hle,hle3,pitch_cmp,pe,e3]
            exact ⟨r - 1,by omega,p + 1,f3,by rw [hPH]; omega,by rw [hPH,eany]; exact hC,hf3,hst,hN',ex_x rfl⟩
      · rintro t H6 ⟨f3,hC,hf3,hst,hN',y,rfl⟩
        simp -implicitDefEqProofs (maxDischargeDepth:=12) only [WW,List.replicate,Option.some_or,s_conv,e_conv,s_slc3,e_cut3,e_cut3n,e_bns,e_bnn,if_true,if_false,ite_true,ite_false,true_or,ne_eq,seval,beq_self_eq_true,eq_self,exists_eq_left,exists_eq_left',e2]
        exact ⟨k2 - 1,by omega,j + 1,f3,by omega,hC,hf3,hst,hN',by rw [eT]; exact ex_x rfl⟩
end
end Go.Hem
