/- Walks. -/
import Derived.Test.YtipbkcegnkpcmaaWalks0
set_option maxRecDepth 10000
set_option maxHeartbeats 4000000
set_option linter.unusedSimpArgs false
set_option linter.unusedVariables false
namespace Go.Hem
noncomputable section
open Classical in
def sylE (s : Syllable) : Int:=if h : ∃ e : Int,Pv prog polS 84 [s.enc] (.sc (.int .i64 e)) then h.choose else 0
theorem sylE_pv {s : Syllable} (hs : s.text.size < 1000000) : Pv prog polS 84 [s.enc] (.sc (.int .i64 (sylE s))):=by
  have h:=syl_pv s hs
  unfold sylE
  rw [dif_pos h]
  exact h.choose_spec
def Syllable.absentB (s : Syllable) : Bool:=decide (s = ⟨⟨#[]⟩,0⟩)
theorem absent_pv (s : Syllable) : Pv prog polS 85 [s.enc] (.sc (.bool s.absentB)):=by
  refine Pv_of' ok85 (by simp only [AV.closedBs,Syllable.enc_closed,Bool.and_self]) ?_
  have e:=syl_eq (a:=s) (b:=⟨⟨#[]⟩,0⟩)
  simp -implicitDefEqProofs (maxDischargeDepth:=12) only [wpF,cf85,WW,List.replicate,Option.some_or,s_conv,e_conv,s_slc3,e_cut3,e_cut3n,e_bns,e_bnn,e_splice,if_true,if_false,ite_true,ite_false,true_or,ne_eq,seval,h_putc,beq_self_eq_true,eq_self,exists_eq_left,exists_eq_left',s.enc_eq,e]
  exact frz_sc
def lastE (l : List Syllable) : Int:=match l.getLast? with
  | some x => if x.absentB = true then 3 else 0
  | none => 0
def lyricsE (l : List Syllable) : Int:=if 4 < l.length then 9 else if firstE (l.map sylE) ≠ 0 then firstE (l.map sylE) else lastE l
theorem getLast_at' {α : Type} {l : List α} (h : 0 < l.length) : ∃ a,l.getLast? = some a∧l[l.length - 1]? = some a:=by
  obtain ⟨a,ha⟩ : ∃ a,l.getLast? = some a:=by
    cases e : l.getLast? with
    | none => rw [List.getLast?_eq_none_iff] at e; subst e; simp at h
    | some a => exact ⟨a,rfl⟩
  exact ⟨a,ha,getLast_at ha⟩
theorem lyrics_pv (s : Sl Syllable) (hs : s.l.length < 1000000) (ht : ∀ x ∈ s.l,x.text.size < 1000000) : Pv prog polS 64 [slm Syllable.enc s] (.sc (.int .i64 (lyricsE s.l))):=by
  refine Pv_of' ok64 (by simp only [AV.closedBs,closedB_slm Syllable.enc_closed,Bool.and_self]) ?_
  generalize hr : lyricsE s.l = r
  unfold lyricsE at hr
  by_cases h2 : 4 < s.l.length
  · rw [if_pos h2] at hr; subst hr
    have h2' : (4 : Int) < (s.l.length : Int):=by omega
    simp -implicitDefEqProofs (maxDischargeDepth:=12) only [wpF,cf64,WW,List.replicate,Option.some_or,s_conv,e_conv,s_slc3,e_cut3,e_cut3n,e_bns,e_bnn,e_splice,if_true,if_false,ite_true,ite_false,true_or,ne_eq,seval,h_putc,beq_self_eq_true,eq_self,exists_eq_left,exists_eq_left',h2']
    exact frz_sc
  rw [if_neg h2] at hr
  have h2' : ¬ (4 : Int) < (s.l.length : Int):=by omega
  simp -implicitDefEqProofs (maxDischargeDepth:=12) only [wpF,cf64,WW,List.replicate,Option.some_or,s_conv,e_conv,s_slc3,e_cut3,e_cut3n,e_bns,e_bnn,e_splice,if_true,if_false,ite_true,ite_false,true_or,ne_eq,seval,h_putc,beq_self_eq_true,eq_self,exists_eq_left,exists_eq_left',h2']
  refine wp_loop (Inv:=fun k t H => ∃ (i : Nat),i + k = s.l.length∧firstE ((s.l.drop i).map sylE) = firstE (s.l.map sylE) ∧
    ∃ x : Nat→AV,t = [slm Syllable.enc s,x 1,x 2,x 3,x 4,x 5,x 6,x 7,x 8,x 9,slm Syllable.enc s,.sc (.int .i64 s.l.length),.sc (.int .i64 i),x 13,x 14,x 15,x 16,x 17,x 18,x 19,x 20,x 21,x 22,x 23,x 24,x 25,x 26,x 27,x 28,x 29,x 30,x 31,x 32,x 33]) (k:=s.l.length) ?_
    ⟨0,by omega,rfl,ex_x rfl⟩
  rintro k t H ⟨i,hk,hf,x,rfl⟩
  by_cases c1 : (i : Int) < (s.l.length : Int)
  · obtain ⟨y,hy⟩ : ∃ y,s.l[i]? = some y:=⟨_,List.getElem?_eq_getElem (by omega)⟩
    have e2 : IntKind.i64.wrap ((i : Int) + 1) = ((i + 1 : Nat) : Int):=by rw [w64 (by omega) (by omega)]; omega
    rw [drop_cons hy,List.map_cons] at hf
    simp only [firstE] at hf
    simp -implicitDefEqProofs (maxDischargeDepth:=12) only [WW,List.replicate,Option.some_or,s_conv,e_conv,s_slc3,e_cut3,e_cut3n,e_bns,e_bnn,e_splice,if_true,if_false,ite_true,ite_false,true_or,ne_eq,seval,h_putc,beq_self_eq_true,eq_self,exists_eq_left,exists_eq_left',c1,hy,y.enc_eq]
    rw [← y.enc_eq]
    refine wA_pure rfl (sylE_pv (ht y (List.mem_of_getElem? hy))) ?_
    by_cases c2 : sylE y = 0
    · rw [if_pos c2] at hf
      simp -implicitDefEqProofs (maxDischargeDepth:=12) only [WW,List.replicate,Option.some_or,s_conv,e_conv,s_slc3,e_cut3,e_cut3n,e_bns,e_bnn,e_splice,if_true,if_false,ite_true,ite_false,true_or,ne_eq,seval,h_putc,beq_self_eq_true,eq_self,exists_eq_left,exists_eq_left',c2,e2]
      exact ⟨k - 1,by omega,i + 1,by omega,hf,ex_x rfl⟩
    · rw [if_neg c2] at hf
      rw [← hf,if_pos c2] at hr; subst hr
      simp -implicitDefEqProofs (maxDischargeDepth:=12) only [WW,List.replicate,Option.some_or,s_conv,e_conv,s_slc3,e_cut3,e_cut3n,e_bns,e_bnn,e_splice,if_true,if_false,ite_true,ite_false,true_or,ne_eq,seval,h_putc,beq_self_eq_true,eq_self,exists_eq_left,exists_eq_left',c2]
      exact frz_sc
  · rw [drop_end c1] at hf
    have hf0 : firstE (s.l.map sylE) = 0:=hf.symm
    rw [hf0,if_neg (by simp)] at hr
    by_cases h0 : 0 < s.l.length
    · obtain ⟨a,ha,hat⟩:=getLast_at' h0
      have hr' : (if a.absentB = true then (3 : Int) else 0) = r:=by rw [← hr]; unfold lastE; rw [ha]
      have ei : IntKind.i64.wrap ((s.l.length : Int) - 1) = ((s.l.length - 1 : Nat) : Int):=by rw [w64 (by omega) (by omega)]; omega
      have h0' : (0 : Int) < (s.l.length : Int):=by omega
      simp -implicitDefEqProofs (maxDischargeDepth:=12) only [WW,List.replicate,Option.some_or,s_conv,e_conv,s_slc3,e_cut3,e_cut3n,e_bns,e_bnn,e_splice,if_true,if_false,ite_true,ite_false,true_or,ne_eq,seval,h_putc,beq_self_eq_true,eq_self,exists_eq_left,exists_eq_left',c1,h0',ei,hat,a.enc_eq]
      rw [← a.enc_eq]
      refine wA_pure rfl (absent_pv a) ?_
      cases hab : a.absentB with
      | true =>
        rw [hab,if_pos rfl] at hr'; subst hr'
        simp -implicitDefEqProofs (maxDischargeDepth:=12) only [WW,List.replicate,Option.some_or,s_conv,e_conv,s_slc3,e_cut3,e_cut3n,e_bns,e_bnn,e_splice,if_true,if_false,ite_true,ite_false,true_or,ne_eq,seval,h_putc,beq_self_eq_true,eq_self,exists_eq_left,exists_eq_left']
        exact frz_sc
      | false =>
        rw [hab,if_neg (by simp)] at hr'; subst hr'
        simp -implicitDefEqProofs (maxDischargeDepth:=12) only [WW,List.replicate,Option.some_or,s_conv,e_conv,s_slc3,e_cut3,e_cut3n,e_bns,e_bnn,e_splice,if_true,if_false,ite_true,ite_false,true_or,ne_eq,seval,h_putc,beq_self_eq_true,eq_self,exists_eq_left,exists_eq_left']
        exact frz_sc
    · have hl : s.l = []:=List.length_eq_zero_iff.1 (by omega)
      have h0' : ¬ (0 : Int) < (s.l.length : Int):=by omega
      rw [hl] at hr
      have hr' : (0 : Int) = r:=hr
      subst hr'
      simp -implicitDefEqProofs (maxDischargeDepth:=12) only [WW,List.replicate,Option.some_or,s_conv,e_conv,s_slc3,e_cut3,e_cut3n,e_bns,e_bnn,e_splice,if_true,if_false,ite_true,ite_false,true_or,ne_eq,seval,h_putc,beq_self_eq_true,eq_self,exists_eq_left,exists_eq_left',c1,h0']
      exact frz_sc
def chordE (x : Note) : Int :=
  if firstE [headsE x.heads.l,gracesE x.graces.l,lyricsE x.lyrics.l] ≠ 0 then firstE [headsE x.heads.l,gracesE x.graces.l,lyricsE x.lyrics.l]
  else firstE [within x.articulations 31,within x.ornament 4,within x.dynamic 9,within 0 2,within 0 2]
theorem exists_pv : Pv prog polS 58 [.sc (.int .i64 1)] (.sc (.bool true)):=by
  refine Pv_of' ok58 rfl ?_
  simp -implicitDefEqProofs (maxDischargeDepth:=12) only [wpF,cf58,WW,List.replicate,Option.some_or,s_conv,e_conv,s_slc3,e_cut3,e_cut3n,e_bns,e_bnn,e_splice,if_true,if_false,ite_true,ite_false,true_or,ne_eq,seval,h_putc,beq_self_eq_true,eq_self,exists_eq_left,exists_eq_left']
  exact frz_sc
theorem dur_pv : Pv prog polS 61 [.agg [.sc (.int .i64 0),.sc (.int .i64 0)]] (.sc (.int .i64 0)):=by
  refine Pv_of' ok61 rfl ?_
  simp -implicitDefEqProofs (maxDischargeDepth:=12) only [wpF,cf61,WW,List.replicate,Option.some_or,s_conv,e_conv,s_slc3,e_cut3,e_cut3n,e_bns,e_bnn,e_splice,if_true,if_false,ite_true,ite_false,true_or,ne_eq,seval,h_putc,beq_self_eq_true,eq_self,exists_eq_left,exists_eq_left']
  exact frz_sc
theorem strip_pv (x : Note) : Pv prog polS 60 [x.chord.enc] x.chord.enc:=by
  refine Pv_of' ok60 (by simp only [AV.closedBs,Event.enc_closed,Bool.and_self]) ?_
  have ec : x.chord.enc = .agg [.sc (.int .i64 0),.sc (.int .i64 0),.sc (.int .i64 1),.sc (.int .i64 0),.sc (.int .i64 0),slm Head.enc x.heads,slm Grace.enc x.graces,.sc (.int .i64 x.articulations),.sc (.int .i64 x.ornament),.sc (.int .i64 x.dynamic),slm Syllable.enc x.lyrics,.sc (.int .i64 0),.sc (.int .i64 0)]:=rfl
  have hp : AV.plain x.chord.enc = true:=Event.enc_plain x.chord
  rw [ec] at hp
  simp -implicitDefEqProofs (maxDischargeDepth:=12) only [wpF,cf60,WW,List.replicate,Option.some_or,s_conv,e_conv,s_slc3,e_cut3,e_cut3n,e_bns,e_bnn,e_splice,if_true,if_false,ite_true,ite_false,true_or,ne_eq,seval,h_putc,beq_self_eq_true,eq_self,exists_eq_left,exists_eq_left',ec]
  exact frz_plain rfl hp
theorem echeck_pv (x : Note) (tx : x.tame) : Pv prog polS 31 [x.chord.enc] (.sc (.int .i64 (chordE x))):=by
  refine Pv_of' ok31 (by simp only [AV.closedBs,Event.enc_closed,Bool.and_self]) ?_
  generalize hr : chordE x = r
  unfold chordE at hr
  have ec : x.chord.enc = .agg [.sc (.int .i64 0),.sc (.int .i64 0),.sc (.int .i64 1),.sc (.int .i64 0),.sc (.int .i64 0),slm Head.enc x.heads,slm Grace.enc x.graces,.sc (.int .i64 x.articulations),.sc (.int .i64 x.ornament),.sc (.int .i64 x.dynamic),slm Syllable.enc x.lyrics,.sc (.int .i64 0),.sc (.int .i64 0)]:=rfl
  have w0 : within 0 99 = 0:=rfl
  have w1 : within 0 1073741824 = 0:=rfl
  have f0 : firstE [0,0] = 0:=rfl
  simp -implicitDefEqProofs (maxDischargeDepth:=12) only [wpF,cf31,WW,List.replicate,Option.some_or,s_conv,e_conv,s_slc3,e_cut3,e_cut3n,e_bns,e_bnn,e_splice,if_true,if_false,ite_true,ite_false,true_or,ne_eq,seval,h_putc,beq_self_eq_true,eq_self,exists_eq_left,exists_eq_left',ec]
  refine wA_pure rfl (within_pv _ _) ?_
  simp -implicitDefEqProofs (maxDischargeDepth:=12) only [WW,List.replicate,Option.some_or,s_conv,e_conv,s_slc3,e_cut3,e_cut3n,e_bns,e_bnn,e_splice,if_true,if_false,ite_true,ite_false,true_or,ne_eq,seval,h_putc,beq_self_eq_true,eq_self,exists_eq_left,exists_eq_left',ec]
  refine wA_pure rfl (within_pv _ _) ?_
  simp -implicitDefEqProofs (maxDischargeDepth:=12) only [WW,List.replicate,Option.some_or,s_conv,e_conv,s_slc3,e_cut3,e_cut3n,e_bns,e_bnn,e_splice,if_true,if_false,ite_true,ite_false,true_or,ne_eq,seval,h_putc,beq_self_eq_true,eq_self,exists_eq_left,exists_eq_left',ec,w0,w1]
  refine wA_first (l:=[0,0]) rfl ?_ (by simp) ?_
  · simp -implicitDefEqProofs (maxDischargeDepth:=12) only [WW,List.replicate,Option.some_or,s_conv,e_conv,s_slc3,e_cut3,e_cut3n,e_bns,e_bnn,e_splice,if_true,if_false,ite_true,ite_false,true_or,ne_eq,seval,h_putc,beq_self_eq_true,eq_self,exists_eq_left,exists_eq_left']; rfl
  simp -implicitDefEqProofs (maxDischargeDepth:=12) only [WW,List.replicate,Option.some_or,s_conv,e_conv,s_slc3,e_cut3,e_cut3n,e_bns,e_bnn,e_splice,if_true,if_false,ite_true,ite_false,true_or,ne_eq,seval,h_putc,beq_self_eq_true,eq_self,exists_eq_left,exists_eq_left',ec,f0]
  refine wA_pure rfl exists_pv ?_
  simp -implicitDefEqProofs (maxDischargeDepth:=12) only [WW,List.replicate,Option.some_or,s_conv,e_conv,s_slc3,e_cut3,e_cut3n,e_bns,e_bnn,e_splice,if_true,if_false,ite_true,ite_false,true_or,ne_eq,seval,h_putc,beq_self_eq_true,eq_self,exists_eq_left,exists_eq_left',ec]
  rw [← ec]
  refine wA_pure rfl (strip_pv x) ?_
  simp -implicitDefEqProofs (maxDischargeDepth:=12) only [WW,List.replicate,Option.some_or,s_conv,e_conv,s_slc3,e_cut3,e_cut3n,e_bns,e_bnn,e_splice,if_true,if_false,ite_true,ite_false,true_or,ne_eq,seval,h_putc,beq_self_eq_true,eq_self,exists_eq_left,exists_eq_left',ec]
  rw [← ec]
  refine wA_pure rfl (eSame_pv x.chord x.chord (Note.chord_tame tx)) ?_
  have es : decide (x.chord.noid = x.chord.noid) = true:=decide_eq_true rfl
  simp -implicitDefEqProofs (maxDischargeDepth:=12) only [WW,List.replicate,Option.some_or,s_conv,e_conv,s_slc3,e_cut3,e_cut3n,e_bns,e_bnn,e_splice,if_true,if_false,ite_true,ite_false,true_or,ne_eq,seval,h_putc,beq_self_eq_true,eq_self,exists_eq_left,exists_eq_left',ec,es]
  refine wA_pure rfl dur_pv ?_
  simp -implicitDefEqProofs (maxDischargeDepth:=12) only [WW,List.replicate,Option.some_or,s_conv,e_conv,s_slc3,e_cut3,e_cut3n,e_bns,e_bnn,e_splice,if_true,if_false,ite_true,ite_false,true_or,ne_eq,seval,h_putc,beq_self_eq_true,eq_self,exists_eq_left,exists_eq_left',ec]
  refine wA_pure rfl (heads_pv x.heads tx.heads) ?_
  simp -implicitDefEqProofs (maxDischargeDepth:=12) only [WW,List.replicate,Option.some_or,s_conv,e_conv,s_slc3,e_cut3,e_cut3n,e_bns,e_bnn,e_splice,if_true,if_false,ite_true,ite_false,true_or,ne_eq,seval,h_putc,beq_self_eq_true,eq_self,exists_eq_left,exists_eq_left',ec]
  refine wA_pure rfl (graces_pv x.graces tx.graces) ?_
  simp -implicitDefEqProofs (maxDischargeDepth:=12) only [WW,List.replicate,Option.some_or,s_conv,e_conv,s_slc3,e_cut3,e_cut3n,e_bns,e_bnn,e_splice,if_true,if_false,ite_true,ite_false,true_or,ne_eq,seval,h_putc,beq_self_eq_true,eq_self,exists_eq_left,exists_eq_left',ec]
  refine wA_pure rfl (lyrics_pv x.lyrics tx.lyrics tx.text) ?_
  simp -implicitDefEqProofs (maxDischargeDepth:=12) only [WW,List.replicate,Option.some_or,s_conv,e_conv,s_slc3,e_cut3,e_cut3n,e_bns,e_bnn,e_splice,if_true,if_false,ite_true,ite_false,true_or,ne_eq,seval,h_putc,beq_self_eq_true,eq_self,exists_eq_left,exists_eq_left',ec]
  refine wA_first (l:=[headsE x.heads.l,gracesE x.graces.l,lyricsE x.lyrics.l]) rfl ?_ (by simp) ?_
  · simp -implicitDefEqProofs (maxDischargeDepth:=12) only [WW,List.replicate,Option.some_or,s_conv,e_conv,s_slc3,e_cut3,e_cut3n,e_bns,e_bnn,e_splice,if_true,if_false,ite_true,ite_false,true_or,ne_eq,seval,h_putc,beq_self_eq_true,eq_self,exists_eq_left,exists_eq_left']; rfl
  generalize firstE [headsE x.heads.l,gracesE x.graces.l,lyricsE x.lyrics.l] = e at hr ⊢
  by_cases he : e = 0
  rotate_left
  · rw [if_pos he] at hr; subst hr
    simp -implicitDefEqProofs (maxDischargeDepth:=12) only [WW,List.replicate,Option.some_or,s_conv,e_conv,s_slc3,e_cut3,e_cut3n,e_bns,e_bnn,e_splice,if_true,if_false,ite_true,ite_false,true_or,ne_eq,seval,h_putc,beq_self_eq_true,eq_self,exists_eq_left,exists_eq_left',he]
    exact frz_sc
  rw [if_neg (by simpa using he)] at hr
  simp -implicitDefEqProofs (maxDischargeDepth:=12) only [WW,List.replicate,Option.some_or,s_conv,e_conv,s_slc3,e_cut3,e_cut3n,e_bns,e_bnn,e_splice,if_true,if_false,ite_true,ite_false,true_or,ne_eq,seval,h_putc,beq_self_eq_true,eq_self,exists_eq_left,exists_eq_left',ec,eq_true he]
  refine wA_pure rfl (within_pv _ _) ?_
  simp -implicitDefEqProofs (maxDischargeDepth:=12) only [WW,List.replicate,Option.some_or,s_conv,e_conv,s_slc3,e_cut3,e_cut3n,e_bns,e_bnn,e_splice,if_true,if_false,ite_true,ite_false,true_or,ne_eq,seval,h_putc,beq_self_eq_true,eq_self,exists_eq_left,exists_eq_left',ec]
  refine wA_pure rfl (within_pv _ _) ?_
  simp -implicitDefEqProofs (maxDischargeDepth:=12) only [WW,List.replicate,Option.some_or,s_conv,e_conv,s_slc3,e_cut3,e_cut3n,e_bns,e_bnn,e_splice,if_true,if_false,ite_true,ite_false,true_or,ne_eq,seval,h_putc,beq_self_eq_true,eq_self,exists_eq_left,exists_eq_left',ec]
  refine wA_pure rfl (within_pv _ _) ?_
  simp -implicitDefEqProofs (maxDischargeDepth:=12) only [WW,List.replicate,Option.some_or,s_conv,e_conv,s_slc3,e_cut3,e_cut3n,e_bns,e_bnn,e_splice,if_true,if_false,ite_true,ite_false,true_or,ne_eq,seval,h_putc,beq_self_eq_true,eq_self,exists_eq_left,exists_eq_left',ec]
  refine wA_pure rfl (within_pv _ _) ?_
  simp -implicitDefEqProofs (maxDischargeDepth:=12) only [WW,List.replicate,Option.some_or,s_conv,e_conv,s_slc3,e_cut3,e_cut3n,e_bns,e_bnn,e_splice,if_true,if_false,ite_true,ite_false,true_or,ne_eq,seval,h_putc,beq_self_eq_true,eq_self,exists_eq_left,exists_eq_left',ec]
  refine wA_pure rfl (within_pv _ _) ?_
  simp -implicitDefEqProofs (maxDischargeDepth:=12) only [WW,List.replicate,Option.some_or,s_conv,e_conv,s_slc3,e_cut3,e_cut3n,e_bns,e_bnn,e_splice,if_true,if_false,ite_true,ite_false,true_or,ne_eq,seval,h_putc,beq_self_eq_true,eq_self,exists_eq_left,exists_eq_left',ec]
  refine wA_first (l:=[within x.articulations 31,within x.ornament 4,within x.dynamic 9,within 0 2,within 0 2]) rfl ?_ (by simp) ?_
  · simp -implicitDefEqProofs (maxDischargeDepth:=12) only [WW,List.replicate,Option.some_or,s_conv,e_conv,s_slc3,e_cut3,e_cut3n,e_bns,e_bnn,e_splice,if_true,if_false,ite_true,ite_false,true_or,ne_eq,seval,h_putc,beq_self_eq_true,eq_self,exists_eq_left,exists_eq_left']; rfl
  rw [hr]
  simp -implicitDefEqProofs (maxDischargeDepth:=12) only [WW,List.replicate,Option.some_or,s_conv,e_conv,s_slc3,e_cut3,e_cut3n,e_bns,e_bnn,e_splice,if_true,if_false,ite_true,ite_false,true_or,ne_eq,seval,h_putc,beq_self_eq_true,eq_self,exists_eq_left,exists_eq_left',ec]
  exact frz_sc
end
end Go.Hem
namespace Go.Hem
noncomputable section
def outR (len : Int) (n : Note) : Prop:=n.at_ < 0 ∨ n.len < 1 ∨ len < n.at_ ∨ IntKind.i64.wrap (len - n.at_) < n.len
instance (len : Int) (n : Note) : Decidable (outR len n):=by unfold outR; exact inferInstance
def early (p : Option Note) (n : Note) : Prop:=match p with
  | some m => n.at_ < m.fin
  | none => False
instance (p : Option Note) (n : Note) : Decidable (early p n):=by unfold early; split <;> exact inferInstance
def checkL (len : Int) : Option Note→List Note→Int
  | _,[] => 0
  | p,n :: t => if outR len n then 2 else if early p n then 25 else if chordE n ≠ 0 then chordE n else checkL len (some n) t
def prevAt (l : List Note) (i : Nat) : Option Note:=if i = 0 then none else l[i - 1]?
theorem prev_succ {l : List Note} {i : Nat} {n : Note} (h : l[i]? = some n) : prevAt l (i + 1) = some n:=by
  unfold prevAt; rw [if_neg (by omega),Nat.add_sub_cancel,h]
def checkE (c : Clip) : Int :=
  if c.len < 0 ∨ 123863040 < c.len then 5 else if 4096 < c.notes.l.length then 9 else if checkL c.len none c.notes.l ≠ 0 then checkL c.len none c.notes.l
  else if (tidyP c.notes.l).map Note.cn = c.notes.l.map Note.cn then 0 else 22
theorem untieN_tame {n : Note} {nx : Option Note} (h : n.tame) : (untieN n nx).tame:=by
  rw [← untieTo_all (j:=n.heads.l.length) (by omega)]; exact untieTo_tame h
theorem untie_tame : ∀ {l : List Note},(∀ y ∈ l,y.tame)→∀ y ∈ untie l,y.tame
  | [],_,y,hy => by simp [untie] at hy
  | n :: t,h,y,hy => by
    simp only [untie,List.mem_cons] at hy
    rcases hy with rfl | hy
    · exact untieN_tame (h n (by simp))
    · exact untie_tame (fun y hy => h y (by simp [hy])) y hy
theorem tidyP_tame {l : List Note} (h : ∀ y ∈ l,y.tame) : (∀ y ∈ tidyP l,y.tame)∧(tidyP l).length ≤ l.length:=by
  obtain ⟨a,b⟩:=fold_tame h [] (by simp)
  refine ⟨untie_tame a,?_⟩
  unfold tidyP
  rw [untie_len]; simpa using b
theorem check_pv (c : Clip) (tc : c.tame) : Pv prog polS 16 [c.enc] (.sc (.int .i64 (checkE c))):=by
  refine Pv_of' ok16 (by simp only [AV.closedBs,Clip.enc_closed,Bool.and_self]) ?_
  obtain ⟨t1,t2⟩:=tc
  generalize hr : checkE c = r
  unfold checkE at hr
  by_cases b1 : c.len < 0
  · rw [if_pos (.inl b1)] at hr; subst hr
    simp -implicitDefEqProofs (maxDischargeDepth:=12) only [wpF,cf16,WW,List.replicate,Option.some_or,s_conv,e_conv,s_slc3,e_cut3,e_cut3n,e_bns,e_bnn,e_splice,if_true,if_false,ite_true,ite_false,true_or,ne_eq,seval,h_putc,beq_self_eq_true,eq_self,exists_eq_left,exists_eq_left',c.enc_eq,b1]
    exact frz_sc
  by_cases b2 : 123863040 < c.len
  · rw [if_pos (.inr b2)] at hr; subst hr
    simp -implicitDefEqProofs (maxDischargeDepth:=12) only [wpF,cf16,WW,List.replicate,Option.some_or,s_conv,e_conv,s_slc3,e_cut3,e_cut3n,e_bns,e_bnn,e_splice,if_true,if_false,ite_true,ite_false,true_or,ne_eq,seval,h_putc,beq_self_eq_true,eq_self,exists_eq_left,exists_eq_left',c.enc_eq,b1,b2]
    exact frz_sc
  rw [if_neg (by rintro (h | h) <;> contradiction)] at hr
  by_cases b3 : 4096 < c.notes.l.length
  · rw [if_pos b3] at hr; subst hr
    have b3' : (4096 : Int) < (c.notes.l.length : Int):=by omega
    simp -implicitDefEqProofs (maxDischargeDepth:=12) only [wpF,cf16,WW,List.replicate,Option.some_or,s_conv,e_conv,s_slc3,e_cut3,e_cut3n,e_bns,e_bnn,e_splice,if_true,if_false,ite_true,ite_false,true_or,ne_eq,seval,h_putc,beq_self_eq_true,eq_self,exists_eq_left,exists_eq_left',c.enc_eq,b1,b2,b3']
    exact frz_sc
  rw [if_neg b3] at hr
  have b3' : ¬ (4096 : Int) < (c.notes.l.length : Int):=by omega
  simp -implicitDefEqProofs (maxDischargeDepth:=12) only [wpF,cf16,WW,List.replicate,Option.some_or,s_conv,e_conv,s_slc3,e_cut3,e_cut3n,e_bns,e_bnn,e_splice,if_true,if_false,ite_true,ite_false,true_or,ne_eq,seval,h_putc,beq_self_eq_true,eq_self,exists_eq_left,exists_eq_left',c.enc_eq,b1,b2,b3']
  refine wp_loop (Inv:=fun k t H => ∃ (i : Nat),i + k = c.notes.l.length∧checkL c.len (prevAt c.notes.l i) (c.notes.l.drop i) = checkL c.len none c.notes.l∧H.cells 0 = some c.enc.cells∧1 ≤ H.next ∧
    ∃ x : Nat→AV,t = [c.enc,.ptr 0 0,x 2,x 3,x 4,x 5,x 6,x 7,x 8,x 9,x 10,x 11,x 12,x 13,x 14,x 15,x 16,x 17,x 18,slm Note.enc c.notes,.sc (.int .i64 c.notes.l.length),.sc (.int .i64 i),x 22,x 23,x 24,x 25,x 26,x 27,x 28,x 29,x 30,x 31,x 32,x 33,x 34,x 35,x 36,x 37,x 38,x 39,x 40,x 41,x 42,x 43,x 44,x 45,x 46,x 47,x 48,x 49,x 50,x 51,x 52,x 53,x 54,x 55,x 56,x 57,x 58,x 59,x 60,x 61,x 62,x 63,x 64,x 65,x 66,x 67,x 68,x 69,x 70,x 71,x 72,x 73,x 74,x 75,x 76,x 77,x 78]) (k:=c.notes.l.length) ?_
    ⟨0,by omega,rfl,?_,by simp,ex_x rfl⟩
  rotate_left
  · simp -implicitDefEqProofs (maxDischargeDepth:=12) only [WW,List.replicate,Option.some_or,s_conv,e_conv,s_slc3,e_cut3,e_cut3n,e_bns,e_bnn,e_splice,if_true,if_false,ite_true,ite_false,true_or,ne_eq,seval,h_putc,beq_self_eq_true,eq_self,exists_eq_left,exists_eq_left']; rfl
  rintro k t H ⟨i,hk,hf,hA,hN,x,rfl⟩
  simp only [c.enc_eq,c_agg] at hA
  by_cases c1 : (i : Int) < (c.notes.l.length : Int)
  · obtain ⟨y,hy⟩ : ∃ y,c.notes.l[i]? = some y:=⟨_,List.getElem?_eq_getElem (by omega)⟩
    have ty:=t2 y (List.mem_of_getElem? hy)
    have e2 : IntKind.i64.wrap ((i : Int) + 1) = ((i + 1 : Nat) : Int):=by rw [w64 (by omega) (by omega)]; omega
    have q0 : ¬ 0 = H.next:=by omega
    have q1 : ¬ H.next = 0:=by omega
    rw [drop_cons hy] at hf
    simp only [checkL] at hf
    generalize hrr : checkL c.len none c.notes.l = rr at hf hr
    have hrr2 : rr ≠ 0→r = rr:=fun h => by rw [if_pos h] at hr; exact hr.symm
    by_cases c3 : y.at_ < 0
    · rw [if_pos (.inl c3)] at hf; rw [hrr2 (by rw [← hf]; decide),← hf]
      simp -implicitDefEqProofs (maxDischargeDepth:=12) only [WW,List.replicate,Option.some_or,s_conv,e_conv,s_slc3,e_cut3,e_cut3n,e_bns,e_bnn,e_splice,if_true,if_false,ite_true,ite_false,true_or,ne_eq,seval,h_putc,beq_self_eq_true,eq_self,exists_eq_left,exists_eq_left',hA,c1,hy,y.enc_eq,q0,q1,c3]
      exact frz_sc
    by_cases c4 : y.len < 1
    · rw [if_pos (.inr (.inl c4))] at hf; rw [hrr2 (by rw [← hf]; decide),← hf]
      simp -implicitDefEqProofs (maxDischargeDepth:=12) only [WW,List.replicate,Option.some_or,s_conv,e_conv,s_slc3,e_cut3,e_cut3n,e_bns,e_bnn,e_splice,if_true,if_false,ite_true,ite_false,true_or,ne_eq,seval,h_putc,beq_self_eq_true,eq_self,exists_eq_left,exists_eq_left',hA,c1,hy,y.enc_eq,q0,q1,c3,c4]
      exact frz_sc
    by_cases c5 : c.len < y.at_
    · rw [if_pos (.inr (.inr (.inl c5)))] at hf; rw [hrr2 (by rw [← hf]; decide),← hf]
      simp -implicitDefEqProofs (maxDischargeDepth:=12) only [WW,List.replicate,Option.some_or,s_conv,e_conv,s_slc3,e_cut3,e_cut3n,e_bns,e_bnn,e_splice,if_true,if_false,ite_true,ite_false,true_or,ne_eq,seval,h_putc,beq_self_eq_true,eq_self,exists_eq_left,exists_eq_left',hA,c1,hy,y.enc_eq,q0,q1,c3,c4,c5]
      exact frz_sc
    by_cases c6 : IntKind.i64.wrap (c.len - y.at_) < y.len
    · rw [if_pos (.inr (.inr (.inr c6)))] at hf; rw [hrr2 (by rw [← hf]; decide),← hf]
      simp -implicitDefEqProofs (maxDischargeDepth:=12) only [WW,List.replicate,Option.some_or,s_conv,e_conv,s_slc3,e_cut3,e_cut3n,e_bns,e_bnn,e_splice,if_true,if_false,ite_true,ite_false,true_or,ne_eq,seval,h_putc,beq_self_eq_true,eq_self,exists_eq_left,exists_eq_left',hA,c1,hy,y.enc_eq,q0,q1,c3,c4,c5,c6]
      exact frz_sc
    rw [if_neg (by unfold outR; rintro (h | h | h | h) <;> contradiction)] at hf
    by_cases i0 : (0 : Int) < (i : Int)
    · obtain ⟨m,hm⟩ : ∃ y,c.notes.l[i - 1]? = some y:=⟨_,List.getElem?_eq_getElem (by omega)⟩
      have hp : prevAt c.notes.l i = some m:=by unfold prevAt; rw [if_neg (by omega),hm]
      have em : IntKind.i64.wrap ((i : Int) - 1) = ((i - 1 : Nat) : Int):=by rw [w64 (by omega) (by omega)]; omega
      rw [hp] at hf
      simp -implicitDefEqProofs (maxDischargeDepth:=12) only [WW,List.replicate,Option.some_or,s_conv,e_conv,s_slc3,e_cut3,e_cut3n,e_bns,e_bnn,e_splice,if_true,if_false,ite_true,ite_false,true_or,ne_eq,seval,h_putc,beq_self_eq_true,eq_self,exists_eq_left,exists_eq_left',hA,c1,hy,y.enc_eq,q0,q1,c3,c4,c5,c6,i0,em,hm,m.enc_eq]
      rw [← m.enc_eq]
      refine wA_pure rfl (end_pv m) ?_
      by_cases c7 : y.at_ < m.fin
      · rw [if_pos (show early (some m) y from c7)] at hf
        rw [hrr2 (by rw [← hf]; decide),← hf]
        simp -implicitDefEqProofs (maxDischargeDepth:=12) only [WW,List.replicate,Option.some_or,s_conv,e_conv,s_slc3,e_cut3,e_cut3n,e_bns,e_bnn,e_splice,if_true,if_false,ite_true,ite_false,true_or,ne_eq,seval,h_putc,beq_self_eq_true,eq_self,exists_eq_left,exists_eq_left',hA,q0,q1,c7]
        exact frz_sc
      rw [if_neg (show ¬ early (some m) y from c7)] at hf
      simp -implicitDefEqProofs (maxDischargeDepth:=12) only [WW,List.replicate,Option.some_or,s_conv,e_conv,s_slc3,e_cut3,e_cut3n,e_bns,e_bnn,e_splice,if_true,if_false,ite_true,ite_false,true_or,ne_eq,seval,h_putc,beq_self_eq_true,eq_self,exists_eq_left,exists_eq_left',hA,q0,q1,c7]
      rw [← y.enc_eq]
      refine wA_pure rfl (chord_pv y ty) ?_
      simp -implicitDefEqProofs (maxDischargeDepth:=12) only [WW,List.replicate,Option.some_or,s_conv,e_conv,s_slc3,e_cut3,e_cut3n,e_bns,e_bnn,e_splice,if_true,if_false,ite_true,ite_false,true_or,ne_eq,seval,h_putc,beq_self_eq_true,eq_self,exists_eq_left,exists_eq_left']
      refine wA_pure rfl (echeck_pv y ty) ?_
      by_cases c8 : chordE y = 0
      · rw [if_neg (by simpa using c8)] at hf
        simp -implicitDefEqProofs (maxDischargeDepth:=12) only [WW,List.replicate,Option.some_or,s_conv,e_conv,s_slc3,e_cut3,e_cut3n,e_bns,e_bnn,e_splice,if_true,if_false,ite_true,ite_false,true_or,ne_eq,seval,h_putc,beq_self_eq_true,eq_self,exists_eq_left,exists_eq_left',c8,e2]
        exact ⟨k - 1,by omega,i + 1,by omega,by rw [prev_succ hy]; exact hf,by rw [if_neg q0,if_neg q0,hA]; rfl,ex_x rfl⟩
      · rw [if_pos c8] at hf
        rw [hrr2 (by rw [← hf]; exact c8),← hf]
        simp -implicitDefEqProofs (maxDischargeDepth:=12) only [WW,List.replicate,Option.some_or,s_conv,e_conv,s_slc3,e_cut3,e_cut3n,e_bns,e_bnn,e_splice,if_true,if_false,ite_true,ite_false,true_or,ne_eq,seval,h_putc,beq_self_eq_true,eq_self,exists_eq_left,exists_eq_left',c8]
        exact frz_sc
    · have hp : prevAt c.notes.l i = none:=by unfold prevAt; rw [if_pos (by omega)]
      rw [hp,if_neg (show ¬ early none y from fun h => h)] at hf
      simp -implicitDefEqProofs (maxDischargeDepth:=12) only [WW,List.replicate,Option.some_or,s_conv,e_conv,s_slc3,e_cut3,e_cut3n,e_bns,e_bnn,e_splice,if_true,if_false,ite_true,ite_false,true_or,ne_eq,seval,h_putc,beq_self_eq_true,eq_self,exists_eq_left,exists_eq_left',hA,c1,hy,y.enc_eq,q0,q1,c3,c4,c5,c6,i0]
      rw [← y.enc_eq]
      refine wA_pure rfl (chord_pv y ty) ?_
      simp -implicitDefEqProofs (maxDischargeDepth:=12) only [WW,List.replicate,Option.some_or,s_conv,e_conv,s_slc3,e_cut3,e_cut3n,e_bns,e_bnn,e_splice,if_true,if_false,ite_true,ite_false,true_or,ne_eq,seval,h_putc,beq_self_eq_true,eq_self,exists_eq_left,exists_eq_left']
      refine wA_pure rfl (echeck_pv y ty) ?_
      by_cases c8 : chordE y = 0
      · rw [if_neg (by simpa using c8)] at hf
        simp -implicitDefEqProofs (maxDischargeDepth:=12) only [WW,List.replicate,Option.some_or,s_conv,e_conv,s_slc3,e_cut3,e_cut3n,e_bns,e_bnn,e_splice,if_true,if_false,ite_true,ite_false,true_or,ne_eq,seval,h_putc,beq_self_eq_true,eq_self,exists_eq_left,exists_eq_left',c8,e2]
        exact ⟨k - 1,by omega,i + 1,by omega,by rw [prev_succ hy]; exact hf,by rw [if_neg q0,if_neg q0,hA]; rfl,ex_x rfl⟩
      · rw [if_pos c8] at hf
        rw [hrr2 (by rw [← hf]; exact c8),← hf]
        simp -implicitDefEqProofs (maxDischargeDepth:=12) only [WW,List.replicate,Option.some_or,s_conv,e_conv,s_slc3,e_cut3,e_cut3n,e_bns,e_bnn,e_splice,if_true,if_false,ite_true,ite_false,true_or,ne_eq,seval,h_putc,beq_self_eq_true,eq_self,exists_eq_left,exists_eq_left',c8]
        exact frz_sc
  · rw [drop_end c1] at hf
    have hf0 : checkL c.len none c.notes.l = 0:=hf.symm
    rw [hf0,if_neg (by simp)] at hr
    simp -implicitDefEqProofs (maxDischargeDepth:=12) only [WW,List.replicate,Option.some_or,s_conv,e_conv,s_slc3,e_cut3,e_cut3n,e_bns,e_bnn,e_splice,if_true,if_false,ite_true,ite_false,true_or,ne_eq,seval,h_putc,beq_self_eq_true,eq_self,exists_eq_left,exists_eq_left',hA,c1]
    refine wA_pure rfl (tidy_pv c.notes t1 t2) ?_
    have tt:=tidyP_tame t2
    simp -implicitDefEqProofs (maxDischargeDepth:=12) only [WW,List.replicate,Option.some_or,s_conv,e_conv,s_slc3,e_cut3,e_cut3n,e_bns,e_bnn,e_splice,if_true,if_false,ite_true,ite_false,true_or,ne_eq,seval,h_putc,beq_self_eq_true,eq_self,exists_eq_left,exists_eq_left',hA]
    have eg : ∀ (x : AV) t,aev (x :: t) (.func 37) = .func (.func 37) [] []:=fun _ _ => rfl
    simp only [eg]
    refine wA_pure rfl (eqNotes_pv (Sl.of (tidyP c.notes.l)) c.notes (by rw [l_of]; omega) (by rw [l_of]; exact tt.1) t2) ?_
    rw [l_of]
    by_cases d1 : (tidyP c.notes.l).map Note.cn = c.notes.l.map Note.cn
    · rw [if_pos d1] at hr; subst hr
      simp -implicitDefEqProofs (maxDischargeDepth:=12) only [WW,List.replicate,Option.some_or,s_conv,e_conv,s_slc3,e_cut3,e_cut3n,e_bns,e_bnn,e_splice,if_true,if_false,ite_true,ite_false,true_or,ne_eq,seval,h_putc,beq_self_eq_true,eq_self,exists_eq_left,exists_eq_left',eq_true d1]
      exact frz_sc
    · rw [if_neg d1] at hr; subst hr
      simp -implicitDefEqProofs (maxDischargeDepth:=12) only [WW,List.replicate,Option.some_or,s_conv,e_conv,s_slc3,e_cut3,e_cut3n,e_bns,e_bnn,e_splice,if_true,if_false,ite_true,ite_false,true_or,ne_eq,seval,h_putc,beq_self_eq_true,eq_self,exists_eq_left,exists_eq_left',d1]
      exact frz_sc
end
end Go.Hem
namespace Go.Hem
theorem rheads_ok (a : Sl Head) (ha : a.l.length < 1000000) (H0 : AHeap) : Ev prog polS (.call 14 [slm Head.enc a]) H0 fun o H' => ∃ v fp,o = .val v∧AccX false 1 5 Head.enc H' v (some a.l) fp∧Fresh H0 H' fp:=by
  refine (wpF_ok ok14 (Q:=fun v H' => ∃ fp,AccX false 1 5 Head.enc H' v (some a.l) fp∧Fresh H0 H' fp) ?_).mono ?_
  rotate_left
  · rintro o H' ⟨v,rfl,fp,h⟩; exact ⟨v,fp,rfl,h⟩
  simp -implicitDefEqProofs (maxDischargeDepth:=12) only [wpF,cf14,WW,List.replicate,Option.some_or,s_conv,e_conv,s_slc3,e_cut3,e_cut3n,e_bns,e_bnn,e_splice,if_true,if_false,ite_true,ite_false,true_or,ne_eq,seval,h_putc,beq_self_eq_true,eq_self,exists_eq_left,exists_eq_left']
  refine wA_app3 (f:=Head.enc) (bytes:=40) row_Head (I:=false) (d:=1) (l:=[]) (fp:=[H0.next]) (ys:=a.l) (.inr ⟨H0.next,0,[],[],[],[],rfl,rfl,Nat.le_refl _,?_,rfl,by simp,.nil,by simp,rfl⟩) Keep.refl (Nat.le_refl _) e_alenm (by rw [e_srcm Head.enc_len (Nat.le_refl _),List.take_length]) (OwnL.scal (by
    simp only [List.all_eq_true]
    intro v hv
    obtain ⟨x,_,hx⟩:=List.mem_flatMap.1 hv
    have : (Head.enc x).cells.all AV.isSc = true:=rfl
    exact List.all_eq_true.1 this v hx)) Apart.nil_right (by simp only [List.length_nil]; omega) ?_
  · simp -implicitDefEqProofs (maxDischargeDepth:=12) only [WW,List.replicate,Option.some_or,s_conv,e_conv,s_slc3,e_cut3,e_cut3n,e_bns,e_bnn,e_splice,if_true,if_false,ite_true,ite_false,true_or,ne_eq,seval,h_putc,beq_self_eq_true,eq_self,exists_eq_left,exists_eq_left']
  intro v' H' fp' h1 h2 h3 h4 h5 h6
  simp only [AHeap.next_alloc] at h2 h3
  simp -implicitDefEqProofs (maxDischargeDepth:=12) only [WW,List.replicate,Option.some_or,s_conv,e_conv,s_slc3,e_cut3,e_cut3n,e_bns,e_bnn,e_splice,if_true,if_false,ite_true,ite_false,true_or,ne_eq,seval,h_putc,beq_self_eq_true,eq_self,exists_eq_left,exists_eq_left']
  refine ⟨fp',h1,fun b hb => ?_,by omega,fun b hb => ?_⟩
  · rcases h4 b hb with h | h | h
    · simp at h; omega
    · simp at h
    · simp only [AHeap.next_alloc] at h; omega
  · rw [h3 b (by simp; omega) (by omega),c_alloc_ne (by omega)]
def Note.own (x : Note) : Note:={ x with heads:=some x.heads.l }
theorem Note.own_tame {x : Note} (h : x.tame) : x.own.tame:=⟨h.heads,h.graces,h.lyrics,h.text⟩
theorem noteQ_heads {H : AHeap} {x : Note} {hv : AV} {fh : List Nat} (h : AccQ HeadQ 5 H hv x.heads fh) : NoteQ H [intE x.at_,intE x.len,hv,slm Grace.enc x.graces,intE x.articulations,intE x.ornament,intE x.dynamic,slm Syllable.enc x.lyrics] x fh :=
  ⟨hv,_,_,fh,[],[],rfl,h,own_imm Grace.enc_closed,own_imm Syllable.enc_closed,o_slm,o_slm,Apart.nil_right,Apart.nil_right,Apart.nil_left,by simp⟩
def foldR (l : List Note) : List Note:=(l.map Note.own).foldl stepT []
theorem foldR_take {l : List Note} {i : Nat} {x : Note} (h : l[i]? = some x) : foldR (l.take (i + 1)) = stepT (foldR (l.take i)) x.own:=by
  unfold foldR
  rw [List.take_add_one,h,List.map_append,List.foldl_append]; rfl
theorem foldR_tame {l : List Note} (h : ∀ y ∈ l,y.tame) : (∀ y ∈ foldR l,y.tame)∧(foldR l).length ≤ l.length:=by
  have:=fold_tame (l:=l.map Note.own) (fun y hy => by
    obtain ⟨z,hz,rfl⟩:=List.mem_map.1 hy
    exact Note.own_tame (h z hz)) [] (by simp)
  simpa [foldR] using this
def Note.mergeTo (a x : Note) (j : Nat) : Note:={ a with len:=IntKind.i64.wrap (a.len + x.len),heads:=a.heads.map fun l => tieUpTo j l x.heads.l }
theorem mergeTo_zero {a x : Note} : a.mergeTo x 0 = { a with len:=IntKind.i64.wrap (a.len + x.len) }:=by
  unfold Note.mergeTo
  have : a.heads.map (fun l => tieUpTo 0 l x.heads.l) = a.heads:=by cases a.heads <;> simp [tieUp_zero]
  rw [this]
theorem mergeTo_all {a x : Note} {j : Nat} (hlen : a.heads.l.length = x.heads.l.length) (h : ¬ j < a.heads.l.length) : a.mergeTo x j = merge a x:=by
  unfold Note.mergeTo merge
  have : a.heads.map (fun l => tieUpTo j l x.heads.l) = a.heads.map fun l => tieTo l x.heads.l:=by
    cases e : a.heads with
    | none => rfl
    | some l =>
      rw [e] at hlen h
      simp only [Option.map_some,Option.some.injEq]
      exact tieUp_all hlen (by rw [l_some] at h; exact h)
  rw [this]
theorem mergeTo_heads {a x : Note} {j : Nat} (hlen : a.heads.l.length = x.heads.l.length) : (a.mergeTo x j).heads.l = tieUpTo j a.heads.l x.heads.l:=by
  show Sl.l (a.heads.map _) = _
  cases e : a.heads with
  | none => rw [e] at hlen; simp [Sl.l,tieUpTo,tieTo]
  | some l => rfl
theorem mergeTo_succ {a x : Note} {j : Nat} {u w : Head} (hlen : a.heads.l.length = x.heads.l.length) (hu : a.heads.l[j]? = some u) (hw : x.heads.l[j]? = some w) : { a.mergeTo x j with heads:=some ((a.mergeTo x j).heads.l.set j (u.tie w.tied)) } = a.mergeTo x (j + 1):=by
  rw [mergeTo_heads hlen,tieUp_set hlen hu hw]
  unfold Note.mergeTo
  have : a.heads.map (fun l => tieUpTo (j + 1) l x.heads.l) = some (tieUpTo (j + 1) a.heads.l x.heads.l):=by
    cases e : a.heads with
    | none => rw [e] at hu; simp [Sl.l] at hu
    | some l => rfl
  rw [this]
end Go.Hem
namespace Go.Hem
def tidyR (l : List Note) : List Note:=untie (foldR l)
theorem rtidy_pv (s : Sl Note) (hs : s.l.length < 1000000) (ts : ∀ y ∈ s.l,y.tame) : Pv prog polS 15 [slm Note.enc s] (slm Note.enc (Sl.of (tidyR s.l))):=by
  refine Pv_of' ok15 (by simp only [AV.closedBs,closedB_slm Note.enc_closed,Bool.and_self]) ?_
  simp -implicitDefEqProofs (maxDischargeDepth:=12) only [wpF,cf15,WW,List.replicate,Option.some_or,s_conv,e_conv,s_slc3,e_cut3,e_cut3n,e_bns,e_bnn,e_splice,if_true,if_false,ite_true,ite_false,true_or,ne_eq,seval,h_putc,beq_self_eq_true,eq_self,exists_eq_left,exists_eq_left']
  refine wp_loop (Inv:=fun k t H => ∃ (i : Nat) (v : AV) (fp : List Nat),i + k = s.l.length∧AccQ NoteQ 8 H v (Sl.of (foldR (s.l.take i))) fp ∧
    ∃ y : Nat→AV,t = [slm Note.enc s,y 1,y 2,v,.sc (.int .i64 i),y 5,y 6,y 7,y 8,y 9,y 10,y 11,y 12,y 13,y 14,y 15,y 16,y 17,y 18,y 19,y 20,y 21,y 22,y 23,y 24,y 25,y 26,y 27,y 28,y 29,y 30,y 31,y 32,y 33,y 34,y 35,y 36,y 37,y 38,y 39,y 40,y 41,y 42,y 43,y 44,y 45,y 46,y 47,y 48,y 49,y 50,y 51,y 52,y 53,y 54,y 55,y 56,y 57,y 58,y 59,y 60,y 61,y 62,y 63,y 64,y 65,y 66,y 67,y 68,y 69,y 70,y 71,y 72,y 73,y 74,y 75,y 76,y 77,y 78,y 79,y 80,y 81,y 82,y 83,y 84,y 85,y 86,y 87,y 88,y 89,y 90,y 91,y 92,y 93,y 94,y 95,y 96,y 97,y 98,y 99,y 100,y 101,y 102,y 103,y 104,y 105,y 106,y 107,y 108,y 109,y 110,y 111,y 112,y 113,y 114,y 115,y 116,y 117,y 118,y 119,y 120,y 121,y 122,y 123,y 124,y 125,y 126,y 127,y 128,y 129,y 130,y 131,y 132,y 133,y 134,y 135,y 136,y 137,y 138,y 139,y 140,y 141,y 142,y 143,y 144,y 145,y 146,y 147,y 148,y 149,y 150,y 151,y 152,y 153,y 154,y 155,y 156,y 157,y 158,y 159,y 160,y 161,y 162,y 163,y 164,y 165,y 166,y 167,y 168,y 169,y 170]) (k:=s.l.length) ?_
    ⟨0,_,[],by omega,accQ_none,ex_x rfl⟩
  rintro k t H0 ⟨i,v,fp,hk,hA,y,rfl⟩
  by_cases c1 : (i : Int) < (s.l.length : Int)
  rotate_left
  · rw [List.take_of_length_le (by omega)] at hA
    simp -implicitDefEqProofs (maxDischargeDepth:=12) only [WW,List.replicate,Option.some_or,s_conv,e_conv,s_slc3,e_cut3,e_cut3n,e_bns,e_bnn,e_splice,if_true,if_false,ite_true,ite_false,true_or,ne_eq,seval,h_putc,beq_self_eq_true,eq_self,exists_eq_left,exists_eq_left',c1]
    have tF:=foldR_tame ts
    unfold tidyR
    generalize foldR s.l = F at hA tF
    obtain ⟨tF,lF⟩:=tF
    clear hk c1
    refine wp_loop (Inv:=fun k t H => ∃ (i : Nat) (f2 : List Nat),i + k = F.length∧AccQ NoteQ 8 H v (Sl.of (untieUpTo i F)) f2 ∧
      ∃ y : Nat→AV,t = [slm Note.enc s,y 1,y 2,v,y 4,y 5,y 6,y 7,.sc (.int .i64 i),y 9,y 10,y 11,y 12,y 13,y 14,y 15,y 16,y 17,y 18,y 19,y 20,y 21,y 22,y 23,y 24,y 25,y 26,y 27,y 28,y 29,y 30,y 31,y 32,y 33,y 34,y 35,y 36,y 37,y 38,y 39,y 40,y 41,y 42,y 43,y 44,y 45,y 46,y 47,y 48,y 49,y 50,y 51,y 52,y 53,y 54,y 55,y 56,y 57,y 58,y 59,y 60,y 61,y 62,y 63,y 64,y 65,y 66,y 67,y 68,y 69,y 70,y 71,y 72,y 73,y 74,y 75,y 76,y 77,y 78,y 79,y 80,y 81,y 82,y 83,y 84,y 85,y 86,y 87,y 88,y 89,y 90,y 91,y 92,y 93,y 94,y 95,y 96,y 97,y 98,y 99,y 100,y 101,y 102,y 103,y 104,y 105,y 106,y 107,y 108,y 109,y 110,y 111,y 112,y 113,y 114,y 115,y 116,y 117,y 118,y 119,y 120,y 121,y 122,y 123,y 124,y 125,y 126,y 127,y 128,y 129,y 130,y 131,y 132,y 133,y 134,y 135,y 136,y 137,y 138,y 139,y 140,y 141,y 142,y 143,y 144,y 145,y 146,y 147,y 148,y 149,y 150,y 151,y 152,y 153,y 154,y 155,y 156,y 157,y 158,y 159,y 160,y 161,y 162,y 163,y 164,y 165,y 166,y 167,y 168,y 169,y 170]) (k:=F.length) ?_
      ⟨0,fp,by omega,by rw [untieUp_zero]; exact hA,ex_x rfl⟩
    clear hA fp H0 y i
    rintro k t H ⟨i,fp,hk,hA,y,rfl⟩
    have hl:=hA.length.1
    rw [l_of,untieUp_len] at hl
    by_cases c1 : (i : Int) < (F.length : Int)
    rotate_left
    · rw [untieUp_all (by omega)] at hA
      simp -implicitDefEqProofs (maxDischargeDepth:=12) only [WW,List.replicate,Option.some_or,s_conv,e_conv,s_slc3,e_cut3,e_cut3n,e_bns,e_bnn,e_splice,if_true,if_false,ite_true,ite_false,true_or,ne_eq,seval,h_putc,beq_self_eq_true,eq_self,exists_eq_left,exists_eq_left',c1,hl]
      exact hA.frz noteQ (by decide)
    have hil : i < F.length:=by omega
    obtain ⟨n,hn⟩ : ∃ y,F[i]? = some y:=⟨_,List.getElem?_eq_getElem hil⟩
    have e2 : IntKind.i64.wrap ((i : Int) + 1) = ((i + 1 : Nat) : Int):=by rw [w64 (by omega) (by omega)]; omega
    have tn:=tF n (List.mem_of_getElem? hn)
    rw [of_isSome (by rw [untieUp_len]; omega)] at hA
    obtain ⟨b,cap,cs,r,g,hv,a1,a2,a3,a4,a5,a6,a7,a8,a9,a10,a11,a12,a13⟩:=note_cells hA (i:=i) (x:=n) (by rw [l_some,untieUp_ge (Nat.le_refl _) hil]; exact hn)
    simp only [l_some,untieUp_len] at a1
    subst a1
    simp -implicitDefEqProofs (maxDischargeDepth:=12) only [WW,List.replicate,Option.some_or,s_conv,e_conv,s_slc3,e_cut3,e_cut3n,e_bns,e_bnn,e_splice,if_true,if_false,ite_true,ite_false,true_or,ne_eq,seval,h_putc,beq_self_eq_true,eq_self,exists_eq_left,exists_eq_left',c1,hil]
    refine wp_loop (Inv:=fun k' t H => ∃ (j : Nat) (f2 : List Nat),j + k' = n.heads.l.length∧AccQ NoteQ 8 H (.slice b 0 F.length cap 8) (some ((untieUpTo i F).set i (n.untieTo F[i + 1]? j))) f2 ∧
      ∃ y : Nat→AV,t = [slm Note.enc s,y 1,y 2,.slice b 0 F.length cap 8,y 4,y 5,y 6,y 7,.sc (.int .i64 i),.sc (.int .i64 j),y 10,y 11,y 12,y 13,y 14,y 15,y 16,y 17,y 18,y 19,y 20,y 21,y 22,y 23,y 24,y 25,y 26,y 27,y 28,y 29,y 30,y 31,y 32,y 33,y 34,y 35,y 36,y 37,y 38,y 39,y 40,y 41,y 42,y 43,y 44,y 45,y 46,y 47,y 48,y 49,y 50,y 51,y 52,y 53,y 54,y 55,y 56,y 57,y 58,y 59,y 60,y 61,y 62,y 63,y 64,y 65,y 66,y 67,y 68,y 69,y 70,y 71,y 72,y 73,y 74,y 75,y 76,y 77,y 78,y 79,y 80,y 81,y 82,y 83,y 84,y 85,y 86,y 87,y 88,y 89,y 90,y 91,y 92,y 93,y 94,y 95,y 96,y 97,y 98,y 99,y 100,y 101,y 102,y 103,y 104,y 105,y 106,y 107,y 108,y 109,y 110,y 111,y 112,y 113,y 114,y 115,y 116,y 117,y 118,y 119,y 120,y 121,y 122,y 123,y 124,y 125,y 126,y 127,y 128,y 129,y 130,y 131,y 132,y 133,y 134,y 135,y 136,y 137,y 138,y 139,y 140,y 141,y 142,y 143,y 144,y 145,y 146,y 147,y 148,y 149,y 150,y 151,y 152,y 153,y 154,y 155,y 156,y 157,y 158,y 159,y 160,y 161,y 162,y 163,y 164,y 165,y 166,y 167,y 168,y 169,y 170]) (k:=n.heads.l.length) ?_
      ⟨0,fp,by omega,?_,ex_x rfl⟩
    rotate_left
    · rw [untieTo_zero]
      have : (untieUpTo i F).set i n = untieUpTo i F:=by
        apply List.ext_getElem?
        intro q
        rw [List.getElem?_set]
        split
        · rename_i e; subst e
          rw [untieUp_len,if_pos hil,untieUp_ge (Nat.le_refl _) hil,hn]
        · rfl
      rw [this]; exact hA
    clear hA hl a2 a3 a4 a5 a6 a7 a8 a9 a10 a11 a12 a13 y H fp
    rintro k' t H ⟨j,fp,hk',hA,y,rfl⟩
    obtain ⟨b',cap',cs,r,g,hv',a1,a2,a3,a4,a5,a6,a7,a8,a9,a10,a11,a12,a13⟩:=note_cells hA (i:=i) (x:=n.untieTo F[i + 1]? j) (by rw [l_some,List.getElem?_set_self (by rw [untieUp_len]; exact hil)])
    simp only [l_some,AV.slice.injEq,true_and,and_true] at a1
    obtain ⟨rfl,_,rfl⟩:=a1
    rw [untieTo_heads,mapTo_len] at a11
    by_cases d1 : (j : Int) < (n.heads.l.length : Int)
    rotate_left
    · rw [untieTo_all (by omega),untieUp_set hn] at hA
      simp -implicitDefEqProofs (maxDischargeDepth:=12) only [WW,List.replicate,Option.some_or,s_conv,e_conv,s_slc3,e_cut3,e_cut3n,e_bns,e_bnn,e_splice,if_true,if_false,ite_true,ite_false,true_or,ne_eq,seval,h_putc,beq_self_eq_true,eq_self,exists_eq_left,exists_eq_left',d1,e2,hil,a2,a6,a11]
      exact ⟨k - 1,by omega,i + 1,fp,by omega,by rw [of_isSome (by rw [untieUp_len]; omega)]; exact hA,ex_x rfl⟩
    have hjl : j < n.heads.l.length:=by omega
    obtain ⟨h,hh⟩ : ∃ y,n.heads.l[j]? = some y:=⟨_,List.getElem?_eq_getElem hjl⟩
    have e3 : IntKind.i64.wrap ((j : Int) + 1) = ((j + 1 : Nat) : Int):=by rw [w64 (by omega) (by have:=tn.heads; omega)]; omega
    obtain ⟨bh,caph,ch,c2,c3,c4,c5,c6,c7,c8,c9⟩:=a13 j h (by rw [untieTo_heads]; exact mapTo_get hh)
    rw [untieTo_heads,mapTo_len] at c2
    subst c2
    have hle : j * 5 + 3 + 1 ≤ ch.length:=by omega
    have hle2 : j * 5 + 3 ≤ ch.length:=by omega
    have fin : ∀ H',H' = H.put bh (some (.cells (splice ch (j * 5 + 3) [.sc (.bool (keepTie n F[i + 1]? h))])))→∃ f3,AccQ NoteQ 8 H' (.slice b 0 F.length cap 8) (some ((untieUpTo i F).set i (n.untieTo F[i + 1]? (j + 1)))) f3:=by
      rintro H' rfl
      obtain ⟨f3,p1,p2⟩:=c9 (keepTie n F[i + 1]? h)
      rw [untieTo_succ hh,l_some,List.set_set] at p1
      exact ⟨f3,p1⟩
    cases ht : h.tied with
    | false =>
      have hkt : h.tie (keepTie n F[i + 1]? h) = h:=by unfold keepTie; rw [ht]; cases h; simp only at ht; subst ht; rfl
      have hsame : n.untieTo F[i + 1]? (j + 1) = n.untieTo F[i + 1]? j:=by
        have e:=untieTo_succ (nx:=F[i + 1]?) hh
        rw [hkt] at e
        rw [← e]
        have e4 : (n.untieTo F[i + 1]? j).heads.l.set j h = (n.untieTo F[i + 1]? j).heads.l:=by
          apply List.ext_getElem?
          intro q
          rw [List.getElem?_set]
          split
          · rename_i e; subst e
            rw [untieTo_heads,mapTo_len,if_pos hjl,mapTo_get hh]
          · rfl
        rw [e4]
        have e5 : (n.untieTo F[i + 1]? j).heads = some (n.untieTo F[i + 1]? j).heads.l:=by
          have : (n.untieTo F[i + 1]? j).heads = n.heads.map (mapTo (fun h => h.tie (keepTie n F[i + 1]? h)) j):=rfl
          rw [this]
          cases e6 : n.heads with
          | none => rw [e6] at hjl; simp [Sl.l] at hjl
          | some l => rfl
        generalize n.untieTo F[i + 1]? j = z at e5
        cases z; simp only at e5; rw [e5]; rfl
      simp -implicitDefEqProofs (maxDischargeDepth:=12) only [WW,List.replicate,Option.some_or,s_conv,e_conv,s_slc3,e_cut3,e_cut3n,e_bns,e_bnn,if_true,if_false,ite_true,ite_false,true_or,ne_eq,seval,beq_self_eq_true,eq_self,exists_eq_left,exists_eq_left',d1,hil,hjl,a2,a6,a11,c3,c5,ht,e3]
      exact ⟨k' - 1,by omega,j + 1,fp,by omega,by rw [hsame]; exact hA,ex_x rfl⟩
    | true =>
      by_cases n1 : i + 1 < F.length
      rotate_left
      · have hkt : keepTie n F[i + 1]? h = false:=by unfold keepTie; rw [ht,List.getElem?_eq_none (by omega)]; rfl
        rw [hkt] at fin
        have n1' : ¬ ((i + 1 : Nat) : Int) < (F.length : Int):=by omega
        simp -implicitDefEqProofs (maxDischargeDepth:=12) only [WW,List.replicate,Option.some_or,s_conv,e_conv,s_slc3,e_cut3,e_cut3n,e_bns,e_bnn,if_true,if_false,ite_true,ite_false,true_or,ne_eq,seval,beq_self_eq_true,eq_self,exists_eq_left,exists_eq_left',d1,hil,hjl,a2,a6,a11,c3,c5,ht,hle,e2,e3,n1']
        obtain ⟨f3,p1⟩:=fin _ rfl
        exact ⟨k' - 1,by omega,j + 1,f3,by omega,p1,ex_x rfl⟩
      have n1' : ((i + 1 : Nat) : Int) < (F.length : Int):=by omega
      obtain ⟨m,hm⟩ : ∃ y,F[i + 1]? = some y:=⟨_,List.getElem?_eq_getElem n1⟩
      have tm:=tF m (List.mem_of_getElem? hm)
      obtain ⟨b',cap',cs',r2,g2,hv2,q1,q2,q3,q4,q5,q6,q7,q8,q9,q10,q11,_,q13⟩:=note_cells hA (i:=i + 1) (x:=m) (by rw [l_some,List.getElem?_set_ne (by omega),untieUp_ge (by omega) n1]; exact hm)
      simp only [l_some,AV.slice.injEq,true_and,and_true] at q1
      obtain ⟨rfl,_,rfl⟩:=q1
      rw [a2,Option.some.injEq] at q2
      subst q2
      have hkt : keepTie n F[i + 1]? h = (decide (m.at_ = n.fin) && m.hasB h.pitch):=by unfold keepTie; rw [ht,hm]; rfl
      rw [hkt] at fin
      simp only [intE] at a4 a5 q4
      have a4' : cs[i * 8]? = some (.sc (.int .i64 n.at_)):=a4
      have a5' : cs[i * 8 + 1]? = some (.sc (.int .i64 n.len)):=a5
      have hfin : IntKind.i64.wrap (n.at_ + n.len) = n.fin:=rfl
      by_cases h1 : n.fin = m.at_
      rotate_left
      · rw [decide_eq_false (fun e => h1 e.symm),Bool.false_and] at fin
        simp -implicitDefEqProofs (maxDischargeDepth:=12) only [WW,List.replicate,Option.some_or,s_conv,e_conv,s_slc3,e_cut3,e_cut3n,e_bns,e_bnn,if_true,if_false,ite_true,ite_false,true_or,ne_eq,seval,beq_self_eq_true,eq_self,exists_eq_left,exists_eq_left',d1,hil,hjl,a2,a4',a5',hfin,a6,a11,c3,c5,ht,hle,e2,e3,n1,n1',q4,h1]
        obtain ⟨f3,p1⟩:=fin _ rfl
        exact ⟨k' - 1,by omega,j + 1,f3,by omega,p1,ex_x rfl⟩
      rw [decide_eq_true h1.symm,Bool.true_and] at fin
      simp -implicitDefEqProofs (maxDischargeDepth:=12) only [WW,List.replicate,Option.some_or,s_conv,e_conv,s_slc3,e_cut3,e_cut3n,e_bns,e_bnn,if_true,if_false,ite_true,ite_false,true_or,ne_eq,seval,beq_self_eq_true,eq_self,exists_eq_left,exists_eq_left',d1,hil,hjl,a2,a4',a5',hfin,a6,a11,c3,c5,ht,hle,e2,e3,n1,n1',q4,eq_true h1]
      refine wp_loop (Inv:=fun k2 t H2 => H2 = H∧∃ (p : Nat),p + k2 = m.heads.l.length ∧
        ∃ y : Nat→AV,t = [slm Note.enc s,y 1,y 2,.slice b 0 F.length cap 8,y 4,y 5,y 6,y 7,.sc (.int .i64 i),.sc (.int .i64 j),.sc (.bool ((m.heads.l.take p).any fun x => decide (x.pitch = h.pitch))),.sc (.int .i64 p),y 12,y 13,y 14,y 15,y 16,y 17,y 18,y 19,y 20,y 21,y 22,y 23,y 24,y 25,y 26,y 27,y 28,y 29,y 30,y 31,y 32,y 33,y 34,y 35,y 36,y 37,y 38,y 39,y 40,y 41,y 42,y 43,y 44,y 45,y 46,y 47,y 48,y 49,y 50,y 51,y 52,y 53,y 54,y 55,y 56,y 57,y 58,y 59,y 60,y 61,y 62,y 63,y 64,y 65,y 66,y 67,y 68,y 69,y 70,y 71,y 72,y 73,y 74,y 75,y 76,y 77,y 78,y 79,y 80,y 81,y 82,y 83,y 84,y 85,y 86,y 87,y 88,y 89,y 90,y 91,y 92,y 93,y 94,y 95,y 96,y 97,y 98,y 99,y 100,y 101,y 102,y 103,y 104,y 105,y 106,y 107,y 108,y 109,y 110,y 111,y 112,y 113,y 114,y 115,y 116,y 117,y 118,y 119,y 120,y 121,y 122,y 123,y 124,y 125,y 126,y 127,y 128,y 129,y 130,y 131,y 132,y 133,y 134,y 135,y 136,y 137,y 138,y 139,y 140,y 141,y 142,y 143,y 144,y 145,y 146,y 147,y 148,y 149,y 150,y 151,y 152,y 153,y 154,y 155,y 156,y 157,y 158,y 159,y 160,y 161,y 162,y 163,y 164,y 165,y 166,y 167,y 168,y 169,y 170]) (k:=m.heads.l.length) ?_
        ⟨rfl,0,by omega,ex_x rfl⟩
      clear y
      rintro k2 t H2 ⟨rfl,p,hp,y,rfl⟩
      by_cases g1 : (p : Int) < (m.heads.l.length : Int)
      rotate_left
      · rw [List.take_of_length_le (by omega)]
        have hb : (m.heads.l.any fun x => decide (x.pitch = h.pitch)) = m.hasB h.pitch:=rfl
        rw [hb]
        simp -implicitDefEqProofs (maxDischargeDepth:=12) only [WW,List.replicate,Option.some_or,s_conv,e_conv,s_slc3,e_cut3,e_cut3n,e_bns,e_bnn,if_true,if_false,ite_true,ite_false,true_or,ne_eq,seval,beq_self_eq_true,eq_self,exists_eq_left,exists_eq_left',g1,hil,hjl,a2,a6,c3,hle,e2,e3,n1,n1',q6,q11]
        obtain ⟨f3,p1⟩:=fin _ rfl
        exact ⟨k' - 1,by omega,j + 1,f3,by omega,p1,ex_x rfl⟩
      have hpl : p < m.heads.l.length:=by omega
      obtain ⟨u,hu⟩ : ∃ y,m.heads.l[p]? = some y:=⟨_,List.getElem?_eq_getElem hpl⟩
      have e4 : IntKind.i64.wrap ((p : Int) + 1) = ((p + 1 : Nat) : Int):=by rw [w64 (by omega) (by have:=tm.heads; omega)]; omega
      have hany : (m.heads.l.take (p + 1)).any (fun x => decide (x.pitch = h.pitch)) = ((m.heads.l.take p).any (fun x => decide (x.pitch = h.pitch)) || decide (u.pitch = h.pitch)):=by
        rw [List.take_add_one,hu,List.any_append]; simp
      obtain ⟨bx,capx,cx,x2,x3,x4,x5,x6,x7,x8,x9⟩:=q13 p u hu
      subst x2
      have hle3 : p * 5 + 3 ≤ cx.length:=by omega
      cases hf : (m.heads.l.take p).any (fun x => decide (x.pitch = h.pitch)) with
      | true =>
        simp -implicitDefEqProofs (maxDischargeDepth:=12) only [WW,List.replicate,Option.some_or,s_conv,e_conv,s_slc3,e_cut3,e_cut3n,e_bns,e_bnn,if_true,if_false,ite_true,ite_false,true_or,ne_eq,seval,beq_self_eq_true,eq_self,exists_eq_left,exists_eq_left',g1,hil,hjl,a2,a6,c3,hle,e2,e3,e4,n1,n1',q6,q11,hpl]
        exact ⟨k2 - 1,by omega,p + 1,by omega,by rw [hany,hf,Bool.true_or]; exact ex_x rfl⟩
      | false =>
        simp -implicitDefEqProofs (maxDischargeDepth:=12) only [WW,List.replicate,Option.some_or,s_conv,e_conv,s_slc3,e_cut3,e_cut3n,e_bns,e_bnn,if_true,if_false,ite_true,ite_false,true_or,ne_eq,seval,beq_self_eq_true,eq_self,exists_eq_left,exists_eq_left',g1,hil,hjl,a2,a6,c3,hle,hle2,e2,e3,e4,n1,n1',q6,q11,hpl,x3,x6,hle3,c6,u.pitch.enc_eq,h.pitch.enc_eq,pitch_cmp]
        exact ⟨k2 - 1,by omega,p + 1,by omega,by rw [hany,hf,Bool.false_or]; exact ex_x rfl⟩
  obtain ⟨x,hx⟩ : ∃ y,s.l[i]? = some y:=⟨_,List.getElem?_eq_getElem (by omega)⟩
  have tx:=ts x (List.mem_of_getElem? hx)
  have e2 : IntKind.i64.wrap ((i : Int) + 1) = ((i + 1 : Nat) : Int):=by rw [w64 (by omega) (by omega)]; omega
  have tL:=foldR_tame (l:=s.l.take i) (fun y hy => ts y (List.mem_of_mem_take hy))
  have hL : (foldR (s.l.take i)).length < 1000000:=by have:=tL.2; simp only [List.length_take] at this; omega
  have ef:=foldR_take hx
  generalize foldR (s.l.take i) = L at hA tL hL ef
  have hlt:=hA.lt noteQ
  generalize hq : H0.next = q at hlt
  have nqq : ∀ {z : List AV},(H0.alloc (.cells z)).cells q = some z:=by intro z; rw [h_alloc,if_pos hq.symm]
  simp -implicitDefEqProofs (maxDischargeDepth:=12) only [WW,List.replicate,Option.some_or,s_conv,e_conv,s_slc3,e_cut3,e_cut3n,e_bns,e_bnn,e_splice,if_true,if_false,ite_true,ite_false,true_or,ne_eq,seval,h_putc,beq_self_eq_true,eq_self,exists_eq_left,exists_eq_left',c1,hx,x.enc_eq,hq]
  generalize hH1 : AHeap.put _ q _ = H1
  have n1 : H1.next = q + 1:=by subst hH1; simp only [AHeap.next_put,AHeap.next_alloc,hq]
  have kp : Keep q H0 H1:=by subst hH1; exact fun b hb => by rw [c_put_ne (by omega),c_alloc_ne (by omega)]
  have cq:=congrArg (fun H => AHeap.cells H q) hH1
  simp -implicitDefEqProofs (maxDischargeDepth:=12) only [WW,List.replicate,Option.some_or,s_conv,e_conv,s_slc3,e_cut3,e_cut3n,e_bns,e_bnn,e_splice,if_true,if_false,ite_true,ite_false,true_or,ne_eq,seval,h_putc,beq_self_eq_true,eq_self,exists_eq_left,exists_eq_left',hq] at cq
  replace cq:=cq.symm
  clear hH1
  refine wA_call rfl ((rheads_ok x.heads tx.heads _).mono ?_)
  rintro o H2 ⟨hv,fh,rfl,hh0,hF⟩
  refine ⟨_,rfl,?_⟩
  have hN:=hF.2.1
  have cq2:=(hF.2.2 q (by omega)).trans cq
  have hh:=acc_heads hh0
  simp -implicitDefEqProofs (maxDischargeDepth:=12) only [WW,List.replicate,Option.some_or,s_conv,e_conv,s_slc3,e_cut3,e_cut3n,e_bns,e_bnn,e_splice,if_true,if_false,ite_true,ite_false,true_or,ne_eq,seval,h_putc,beq_self_eq_true,eq_self,exists_eq_left,exists_eq_left',cq,cq2,hh0.one,hh0.cells]
  generalize hH3 : AHeap.put H2 q _ = H3
  have n3 : H3.next = H2.next:=by subst hH3; simp only [AHeap.next_put]
  have k3 : ∀ b,b ≠ q→H3.cells b = H2.cells b:=fun b hb => by subst hH3; rw [c_put_ne hb]
  have cq3:=congrArg (fun H => AHeap.cells H q) hH3
  simp -implicitDefEqProofs (maxDischargeDepth:=12) only [WW,List.replicate,Option.some_or,s_conv,e_conv,s_slc3,e_cut3,e_cut3n,e_bns,e_bnn,e_splice,if_true,if_false,ite_true,ite_false,true_or,ne_eq,seval,h_putc,beq_self_eq_true,eq_self,exists_eq_left,exists_eq_left',cq2] at cq3
  replace cq3:=cq3.symm
  clear hH3
  have hh3 : AccQ HeadQ 5 H3 hv x.own.heads fh:=hh.fr headQ fun b hb => k3 b (by have:=hF.1 b hb; omega)
  have hrow:=noteQ_heads (x:=x.own) hh3
  have hA3 : AccQ NoteQ 8 H3 v (Sl.of L) fp:=hA.fr noteQ fun b hb => by have:=hlt b hb; rw [k3 b (by omega),hF.2.2 b (by omega),kp b (by omega)]
  have hfh : ∀ b ∈ fh,q < b:=fun b hb => by have:=hF.1 b hb; omega
  have hl:=hA3.length.1
  rw [l_of] at hl
  have hlt3:=hA3.lt noteQ
  have hap : Apart fp fh:=fun b h1 h2 => by have:=hlt b h1; have:=hfh b h2; omega
  clear hh hh0 hA cq cq2 hF kp n1 k3
  cases hlast : L.getLast? with
  | none =>
    have hL0 : L = []:=List.getLast?_eq_none_iff.1 hlast
    subst hL0
    have es : stepT [] x.own = [x.own]:=rfl
    have e5 : IntKind.i64.wrap (-1) = -1:=by decide
    simp -implicitDefEqProofs (maxDischargeDepth:=12) only [WW,List.replicate,Option.some_or,s_conv,e_conv,s_slc3,e_cut3,e_cut3n,e_bns,e_bnn,e_splice,if_true,if_false,ite_true,ite_false,true_or,ne_eq,seval,h_putc,beq_self_eq_true,eq_self,exists_eq_left,exists_eq_left',hl,e5]
    simp -implicitDefEqProofs (maxDischargeDepth:=12) only [WW,List.replicate,Option.some_or,s_conv,e_conv,s_slc3,e_cut3,e_cut3n,e_bns,e_bnn,e_splice,if_true,if_false,ite_true,ite_false,true_or,ne_eq,seval,h_putc,beq_self_eq_true,eq_self,exists_eq_left,exists_eq_left',cq3,hh3.one.1,hh3.one.2]
    refine wA_appQ noteQ (H0:=H3) hA3 (y:=x.own) (g:=fh) (fun c hc => c_alloc_ne (by have:=hlt3 c hc; omega)) rfl (asrc_one (by simp -implicitDefEqProofs (maxDischargeDepth:=12) only [WW,List.replicate,Option.some_or,s_conv,e_conv,s_slc3,e_cut3,e_cut3n,e_bns,e_bnn,e_splice,if_true,if_false,ite_true,ite_false,true_or,ne_eq,seval,h_putc,beq_self_eq_true,eq_self,exists_eq_left,exists_eq_left']; rfl) rfl) (noteQ.fr hrow fun b hb => c_alloc_ne (by have:=hh3.lt headQ b hb; omega)) hap (by rw [l_of]; omega) ?_
    intro v' H4 fp' h1 h2 h3 h4 h5 h6
    simp -implicitDefEqProofs (maxDischargeDepth:=12) only [WW,List.replicate,Option.some_or,s_conv,e_conv,s_slc3,e_cut3,e_cut3n,e_bns,e_bnn,e_splice,if_true,if_false,ite_true,ite_false,true_or,ne_eq,seval,h_putc,beq_self_eq_true,eq_self,exists_eq_left,exists_eq_left',e2]
    rw [l_of] at h1
    exact ⟨k - 1,by omega,i + 1,v',fp',by omega,by rw [ef,es,of_cons (by simp)]; exact h1,ex_x rfl⟩
  | some a =>
    have hne : L ≠ []:=fun e => by subst e; cases hlast
    have hat:=getLast_at hlast
    have hpos : 0 < L.length:=by rcases Nat.eq_zero_or_pos L.length with h | h; exact absurd (List.length_eq_zero_iff.1 h) hne; exact h
    have ta:=tL.1 a (List.mem_of_getElem? hat)
    rw [of_cons hne] at hA3
    have es : stepT L x.own = if oneB a x.own then L.set (L.length - 1) (merge a x.own) else L ++ [x.own]:=by unfold stepT; rw [hlast]
    rw [es] at ef
    have ei : IntKind.i64.wrap ((L.length : Int) - 1) = ((L.length - 1 : Nat) : Int):=by rw [w64 (by omega) (by omega)]; omega
    generalize hi : L.length - 1 = m at hat ef ei
    have hil : m < L.length:=by omega
    have hm0 : (0 : Int) ≤ (m : Int):=by omega
    obtain ⟨b,cap,cs,r,g,hv',a1,a2,a3,a4,a5,a6,a7,a8,a9,a10,a11,a12,a13⟩:=note_cells hA3 hat
    simp only [l_some] at a1 a12 a13
    subst a1
    obtain ⟨g',o1,o2⟩:=noteQ_own a8
    obtain ⟨g3,o3,o4⟩:=noteQ_own hrow
    simp -implicitDefEqProofs (maxDischargeDepth:=12) only [WW,List.replicate,Option.some_or,s_conv,e_conv,s_slc3,e_cut3,e_cut3n,e_bns,e_bnn,e_splice,if_true,if_false,ite_true,ite_false,true_or,ne_eq,seval,h_putc,beq_self_eq_true,eq_self,exists_eq_left,exists_eq_left',ei,hm0,hil,a2,a3,a7,cq3]
    refine wA_own rfl (OwnL.cons o1 (.cons o3 .nil Apart.nil_right) (by rw [List.append_nil]; exact fun c h1 h2 => hap c (a10 c (o2 c h1)) (o4 c h2))) (rone_pv a x.own ta.heads tx.heads) ?_
    cases h1 : oneB a x.own with
    | false =>
      rw [h1,if_neg (by simp)] at ef
      rw [← of_cons hne] at hA3
      simp -implicitDefEqProofs (maxDischargeDepth:=12) only [WW,List.replicate,Option.some_or,s_conv,e_conv,s_slc3,e_cut3,e_cut3n,e_bns,e_bnn,e_splice,if_true,if_false,ite_true,ite_false,true_or,ne_eq,seval,h_putc,beq_self_eq_true,eq_self,exists_eq_left,exists_eq_left',cq3,hh3.one.1,hh3.one.2]
      refine wA_appQ noteQ (H0:=H3) hA3 (y:=x.own) (g:=fh) (fun c hc => c_alloc_ne (by have:=hlt3 c hc; omega)) rfl (asrc_one (by simp -implicitDefEqProofs (maxDischargeDepth:=12) only [WW,List.replicate,Option.some_or,s_conv,e_conv,s_slc3,e_cut3,e_cut3n,e_bns,e_bnn,e_splice,if_true,if_false,ite_true,ite_false,true_or,ne_eq,seval,h_putc,beq_self_eq_true,eq_self,exists_eq_left,exists_eq_left']; rfl) rfl) (noteQ.fr hrow fun b hb => c_alloc_ne (by have:=hh3.lt headQ b hb; omega)) hap (by rw [l_of]; omega) ?_
      intro v' H4 fp' h1 h2 h3 h4 h5 h6
      simp -implicitDefEqProofs (maxDischargeDepth:=12) only [WW,List.replicate,Option.some_or,s_conv,e_conv,s_slc3,e_cut3,e_cut3n,e_bns,e_bnn,e_splice,if_true,if_false,ite_true,ite_false,true_or,ne_eq,seval,h_putc,beq_self_eq_true,eq_self,exists_eq_left,exists_eq_left',e2]
      rw [l_of] at h1
      exact ⟨k - 1,by omega,i + 1,v',fp',by omega,by rw [ef,of_cons (by simp)]; exact h1,ex_x rfl⟩
    | true =>
      rw [h1,if_pos rfl] at ef
      have hlen:=oneB_len h1
      have nb : ¬ b = q:=by have:=hlt b a9; omega
      have nb' : ¬ q = b:=fun e => nb e.symm
      have hle : m * 8 + 1 + 1 ≤ cs.length:=by omega
      obtain ⟨fp',p1,p2⟩:=a12 (IntKind.i64.wrap (a.len + x.len))
      simp only [intE] at a4 a5 p1
      simp -implicitDefEqProofs (maxDischargeDepth:=12) only [WW,List.replicate,Option.some_or,s_conv,e_conv,s_slc3,e_cut3,e_cut3n,e_bns,e_bnn,if_true,if_false,ite_true,ite_false,true_or,ne_eq,seval,beq_self_eq_true,eq_self,exists_eq_left,exists_eq_left',cq3,ei,hil,a2,a5,hle]
      generalize hH4 : AHeap.put H3 b _ = H4 at p1 ⊢
      have k4 : ∀ c,c ≠ b→H4.cells c = H3.cells c:=fun c hc => by subst hH4; rw [c_put_ne hc]
      have cq4:=(k4 q nb').trans cq3
      have hh4 : AccQ HeadQ 5 H4 hv x.own.heads fh:=hh3.fr headQ fun c hc => k4 c fun e => hap b a9 (e ▸ hc)
      refine wp_loop (Inv:=fun k' t H => ∃ (j : Nat) (f2 : List Nat),j + k' = x.heads.l.length∧H.cells q = some [intE x.at_,intE x.len,hv,slm Grace.enc x.graces,intE x.articulations,intE x.ornament,intE x.dynamic,slm Syllable.enc x.lyrics]∧AccQ HeadQ 5 H hv x.own.heads fh ∧
        AccQ NoteQ 8 H (.slice b 0 L.length cap 8) (some (L.set m (a.mergeTo x.own j))) f2∧(∀ c ∈ f2,c ∈ fp) ∧
        ∃ y : Nat→AV,t = [slm Note.enc s,y 1,y 2,.slice b 0 L.length cap 8,.sc (.int .i64 i),.ptr q 0,.sc (.int .i64 m),.sc (.int .i64 j),y 8,y 9,y 10,y 11,y 12,y 13,y 14,y 15,y 16,y 17,y 18,y 19,y 20,y 21,y 22,y 23,y 24,y 25,y 26,y 27,y 28,y 29,y 30,y 31,y 32,y 33,y 34,y 35,y 36,y 37,y 38,y 39,y 40,y 41,y 42,y 43,y 44,y 45,y 46,y 47,y 48,y 49,y 50,y 51,y 52,y 53,y 54,y 55,y 56,y 57,y 58,y 59,y 60,y 61,y 62,y 63,y 64,y 65,y 66,y 67,y 68,y 69,y 70,y 71,y 72,y 73,y 74,y 75,y 76,y 77,y 78,y 79,y 80,y 81,y 82,y 83,y 84,y 85,y 86,y 87,y 88,y 89,y 90,y 91,y 92,y 93,y 94,y 95,y 96,y 97,y 98,y 99,y 100,y 101,y 102,y 103,y 104,y 105,y 106,y 107,y 108,y 109,y 110,y 111,y 112,y 113,y 114,y 115,y 116,y 117,y 118,y 119,y 120,y 121,y 122,y 123,y 124,y 125,y 126,y 127,y 128,y 129,y 130,y 131,y 132,y 133,y 134,y 135,y 136,y 137,y 138,y 139,y 140,y 141,y 142,y 143,y 144,y 145,y 146,y 147,y 148,y 149,y 150,y 151,y 152,y 153,y 154,y 155,y 156,y 157,y 158,y 159,y 160,y 161,y 162,y 163,y 164,y 165,y 166,y 167,y 168,y 169,y 170]) (k:=x.heads.l.length) ?_
        ⟨0,fp',by omega,cq4,hh4,by rw [mergeTo_zero]; exact p1,p2,ex_x rfl⟩
      clear hH4 k4 cq4 hh4 p1 p2 fp' hA3 a2 a3 a4 a5 a6 a7 a8 a10 a11 a12 a13 hh3 hrow cq3 o1 o2 o3 o4 g' g3 hlt3 n3 H4 hv' hle y
      rintro k' t H ⟨j,f2,hk',hB,hh,p1,p2,y,rfl⟩
      have hhl:=hh.length.1
      have exl : x.own.heads.l = x.heads.l:=rfl
      rw [exl] at hhl
      simp only [intE] at hB
      by_cases d1 : (j : Int) < (x.heads.l.length : Int)
      rotate_left
      · rw [mergeTo_all hlen (by rw [hlen,exl]; omega)] at p1
        simp -implicitDefEqProofs (maxDischargeDepth:=12) only [WW,List.replicate,Option.some_or,s_conv,e_conv,s_slc3,e_cut3,e_cut3n,e_bns,e_bnn,if_true,if_false,ite_true,ite_false,true_or,ne_eq,seval,beq_self_eq_true,eq_self,exists_eq_left,exists_eq_left',hB,d1,hhl,e2]
        exact ⟨k - 1,by omega,i + 1,_,f2,by omega,by rw [ef,of_cons (by simpa using hne)]; exact p1,ex_x rfl⟩
      have hjx : j < x.heads.l.length:=by omega
      have hja : j < a.heads.l.length:=by rw [hlen,exl]; exact hjx
      obtain ⟨u,hu⟩ : ∃ y,a.heads.l[j]? = some y:=⟨_,List.getElem?_eq_getElem hja⟩
      obtain ⟨w,hw⟩ : ∃ y,x.heads.l[j]? = some y:=⟨_,List.getElem?_eq_getElem hjx⟩
      have e3 : IntKind.i64.wrap ((j : Int) + 1) = ((j + 1 : Nat) : Int):=by rw [w64 (by omega) (by have:=tx.heads; omega)]; omega
      obtain ⟨b',cap',cs3,r',g2,hv',b1,b2,b3,b4,b5,b6,b7,b8,b9,b10,b11,b12,b13⟩:=note_cells p1 (i:=m) (x:=a.mergeTo x.own j) (by rw [l_some,List.getElem?_set_self hil])
      simp only [l_some,AV.slice.injEq,true_and,and_true,List.length_set] at b1
      obtain ⟨rfl,rfl⟩:=b1
      obtain ⟨bh,caph,ch,c2,c3,c4,c5,c6,c7,c8,c9⟩:=b13 j u (by rw [mergeTo_heads hlen]; exact tieUp_get hlen hu)
      rw [mergeTo_heads hlen,tieUp_len hlen] at c2
      subst c2
      obtain ⟨bx,capx,cx,x1,x2,x3,x4,x5,x6,x7,_,x9,_⟩:=head_cells hh (k:=j) (x:=w) hw
      rw [exl] at x1
      subst x1
      obtain ⟨f3,q1,q2⟩:=c9 w.tied
      have hbh : bh < q:=hlt _ (p2 _ c7)
      have hle : j * 5 + 3 + 1 ≤ ch.length:=by omega
      simp -implicitDefEqProofs (maxDischargeDepth:=12) only [WW,List.replicate,Option.some_or,s_conv,e_conv,s_slc3,e_cut3,e_cut3n,e_bns,e_bnn,if_true,if_false,ite_true,ite_false,true_or,ne_eq,seval,beq_self_eq_true,eq_self,exists_eq_left,exists_eq_left',hB,d1,hhl,hil,hjx,hja,b2,b6,c3,hle,x2,x7,e3]
      refine ⟨k' - 1,by omega,j + 1,f3,by omega,?_,?_,?_,fun c hc => p2 c (q2 c hc),ex_x rfl⟩
      · rw [c_put_ne (by omega)]; exact hB
      · exact hh.fr headQ fun c hc => c_put_ne fun e => hap bh (p2 _ c7) (e ▸ hc)
      · rw [mergeTo_succ hlen hu (show x.own.heads.l[j]? = some w from hw),l_some,List.set_set] at q1
        exact q1
end Go.Hem
namespace Go.Hem
theorem Note.cn_cn {x : Note} : x.cn.cn = x.cn:=by
  unfold Note.cn; simp only [l_of]
theorem tailB_cn {x : Note} : x.cn.tailB = x.tailB:=by
  unfold Note.tailB Note.cn; simp only [l_of]
theorem oneB_cn {a x : Note} : oneB a.cn x.cn = oneB a x:=by
  unfold oneB Note.plainB headsOne
  rw [tailB_cn]
  unfold Note.fin Note.cn; simp only [l_of]
theorem tieTo_nil {m : List Head} : tieTo [] m = []:=rfl
theorem merge_cn {a x : Note} : (merge a.cn x.cn).cn = (merge a x).cn:=by
  unfold merge Note.cn
  simp only [l_of,l_map (g:=fun l => tieTo l x.heads.l) tieTo_nil]
theorem stepT_cn {L : List Note} {x : Note} : (stepT (L.map Note.cn) x.cn).map Note.cn = (stepT L x).map Note.cn:=by
  unfold stepT
  rw [List.getLast?_map]
  cases L.getLast? with
  | none => simp [Note.cn_cn]
  | some a =>
    simp only [Option.map_some,oneB_cn]
    have e : Note.cn ∘ Note.cn = Note.cn:=by funext y; exact Note.cn_cn
    split
    · rw [List.map_set,List.map_set,merge_cn,List.map_map,e,List.length_map]
    · rw [List.map_append,List.map_append,List.map_map,e]; simp [Note.cn_cn]
theorem fold_cn : ∀ {l : List Note} {L L' : List Note},L.map Note.cn = L'.map Note.cn→((l.map Note.cn).foldl stepT L').map Note.cn = (l.foldl stepT L).map Note.cn
  | [],L,L',h => h.symm
  | x :: l,L,L',h => by
    simp only [List.map_cons,List.foldl_cons]
    refine fold_cn ?_
    rw [← stepT_cn,h,← stepT_cn (L:=L') (x:=x.cn),Note.cn_cn]
theorem hasB_cn {m : Note} {p : Pitch} : m.cn.hasB p = m.hasB p:=by
  unfold Note.hasB Note.cn; simp only [l_of]
theorem keepTie_cn {n : Note} {nx : Option Note} {h : Head} : keepTie n.cn (nx.map Note.cn) h = keepTie n nx h:=by
  unfold keepTie
  cases nx with
  | none => rfl
  | some m => simp only [Option.map_some,hasB_cn]; rfl
theorem untieN_cn {n : Note} {nx : Option Note} : (untieN n.cn (nx.map Note.cn)).cn = (untieN n nx).cn:=by
  unfold untieN
  simp only [keepTie_cn]
  unfold Note.cn
  simp only [l_of,l_map (g:=List.map fun h : Head => h.tie (keepTie n nx h)) List.map_nil]
theorem untie_cn : ∀ {l : List Note},(untie (l.map Note.cn)).map Note.cn = (untie l).map Note.cn
  | [] => rfl
  | n :: t => by
    simp only [List.map_cons,untie]
    rw [List.head?_map,untieN_cn,untie_cn]
theorem tidyP_cn {l : List Note} : (tidyP (l.map Note.cn)).map Note.cn = (tidyP l).map Note.cn:=by
  unfold tidyP
  rw [← untie_cn,fold_cn (l:=l) (L:=[]) (L':=[]) rfl,untie_cn]
theorem tidyP_of {l m : List Note} (h : l.map Note.cn = m.map Note.cn) : (tidyP l).map Note.cn = (tidyP m).map Note.cn:=by
  rw [← tidyP_cn,h,tidyP_cn]
theorem tidyR_eq {l : List Note} : (tidyR l).map Note.cn = (tidyP l).map Note.cn:=by
  show (tidyP (l.map Note.own)).map Note.cn = _
  refine tidyP_of ?_
  rw [List.map_map]; rfl
end Go.Hem
namespace Go.Hem
noncomputable section
theorem tidyR_tame {l : List Note} (h : ∀ y ∈ l,y.tame) : (∀ y ∈ tidyR l,y.tame)∧(tidyR l).length ≤ l.length:=by
  obtain ⟨a,b⟩:=foldR_tame h
  refine ⟨untie_tame a,?_⟩
  unfold tidyR
  rw [untie_len]; exact b
theorem rcheck_pv (c : Clip) (tc : c.tame) : Pv prog polS 12 [c.enc] (.sc (.int .i64 (checkE c))):=by
  refine Pv_of' ok12 (by simp only [AV.closedBs,Clip.enc_closed,Bool.and_self]) ?_
  obtain ⟨t1,t2⟩:=tc
  generalize hr : checkE c = r
  unfold checkE at hr
  by_cases b1 : c.len < 0
  · rw [if_pos (.inl b1)] at hr; subst hr
    simp -implicitDefEqProofs (maxDischargeDepth:=12) only [wpF,cf12,WW,List.replicate,Option.some_or,s_conv,e_conv,s_slc3,e_cut3,e_cut3n,e_bns,e_bnn,e_splice,if_true,if_false,ite_true,ite_false,true_or,ne_eq,seval,h_putc,beq_self_eq_true,eq_self,exists_eq_left,exists_eq_left',c.enc_eq,b1]
    exact frz_sc
  by_cases b2 : 123863040 < c.len
  · rw [if_pos (.inr b2)] at hr; subst hr
    simp -implicitDefEqProofs (maxDischargeDepth:=12) only [wpF,cf12,WW,List.replicate,Option.some_or,s_conv,e_conv,s_slc3,e_cut3,e_cut3n,e_bns,e_bnn,e_splice,if_true,if_false,ite_true,ite_false,true_or,ne_eq,seval,h_putc,beq_self_eq_true,eq_self,exists_eq_left,exists_eq_left',c.enc_eq,b1,b2]
    exact frz_sc
  rw [if_neg (by rintro (h | h) <;> contradiction)] at hr
  by_cases b3 : 4096 < c.notes.l.length
  · rw [if_pos b3] at hr; subst hr
    have b3' : (4096 : Int) < (c.notes.l.length : Int):=by omega
    simp -implicitDefEqProofs (maxDischargeDepth:=12) only [wpF,cf12,WW,List.replicate,Option.some_or,s_conv,e_conv,s_slc3,e_cut3,e_cut3n,e_bns,e_bnn,e_splice,if_true,if_false,ite_true,ite_false,true_or,ne_eq,seval,h_putc,beq_self_eq_true,eq_self,exists_eq_left,exists_eq_left',c.enc_eq,b1,b2,b3']
    exact frz_sc
  rw [if_neg b3] at hr
  have b3' : ¬ (4096 : Int) < (c.notes.l.length : Int):=by omega
  simp -implicitDefEqProofs (maxDischargeDepth:=12) only [wpF,cf12,WW,List.replicate,Option.some_or,s_conv,e_conv,s_slc3,e_cut3,e_cut3n,e_bns,e_bnn,e_splice,if_true,if_false,ite_true,ite_false,true_or,ne_eq,seval,h_putc,beq_self_eq_true,eq_self,exists_eq_left,exists_eq_left',c.enc_eq,b1,b2,b3']
  refine wp_loop (Inv:=fun k t H => ∃ (i : Nat),i + k = c.notes.l.length∧checkL c.len (prevAt c.notes.l i) (c.notes.l.drop i) = checkL c.len none c.notes.l∧H.cells 0 = some c.enc.cells∧1 ≤ H.next ∧
    ∃ x : Nat→AV,t = [c.enc,.ptr 0 0,x 2,.sc (.int .i64 i),x 4,x 5,x 6,x 7,x 8,x 9,x 10,x 11,x 12,x 13,x 14,x 15,x 16,x 17,x 18,x 19,x 20,x 21,x 22,x 23,x 24,x 25,x 26,x 27,x 28,x 29,x 30,x 31,x 32,x 33,x 34,x 35,x 36,x 37,x 38,x 39,x 40,x 41,x 42,x 43,x 44,x 45,x 46,x 47,x 48,x 49,x 50,x 51,x 52,x 53,x 54,x 55,x 56,x 57,x 58,x 59,x 60,x 61,x 62,x 63,x 64,x 65,x 66,x 67,x 68,x 69,x 70,x 71,x 72,x 73,x 74,x 75,x 76,x 77,x 78,x 79,x 80,x 81,x 82,x 83,x 84,x 85,x 86,x 87,x 88,x 89,x 90,x 91]) (k:=c.notes.l.length) ?_
    ⟨0,by omega,rfl,?_,by simp,ex_x rfl⟩
  rotate_left
  · simp -implicitDefEqProofs (maxDischargeDepth:=12) only [WW,List.replicate,Option.some_or,s_conv,e_conv,s_slc3,e_cut3,e_cut3n,e_bns,e_bnn,e_splice,if_true,if_false,ite_true,ite_false,true_or,ne_eq,seval,h_putc,beq_self_eq_true,eq_self,exists_eq_left,exists_eq_left']; rfl
  rintro k t H ⟨i,hk,hf,hA,hN,x,rfl⟩
  simp only [c.enc_eq,c_agg] at hA
  by_cases c1 : (i : Int) < (c.notes.l.length : Int)
  · obtain ⟨y,hy⟩ : ∃ y,c.notes.l[i]? = some y:=⟨_,List.getElem?_eq_getElem (by omega)⟩
    have ty:=t2 y (List.mem_of_getElem? hy)
    have e2 : IntKind.i64.wrap ((i : Int) + 1) = ((i + 1 : Nat) : Int):=by rw [w64 (by omega) (by omega)]; omega
    have q0 : ¬ 0 = H.next:=by omega
    have q1 : ¬ H.next = 0:=by omega
    rw [drop_cons hy] at hf
    simp only [checkL] at hf
    generalize hrr : checkL c.len none c.notes.l = rr at hf hr
    have hrr2 : rr ≠ 0→r = rr:=fun h => by rw [if_pos h] at hr; exact hr.symm
    by_cases c3 : y.at_ < 0
    · rw [if_pos (.inl c3)] at hf; rw [hrr2 (by rw [← hf]; decide),← hf]
      simp -implicitDefEqProofs (maxDischargeDepth:=12) only [WW,List.replicate,Option.some_or,s_conv,e_conv,s_slc3,e_cut3,e_cut3n,e_bns,e_bnn,e_splice,if_true,if_false,ite_true,ite_false,true_or,ne_eq,seval,h_putc,beq_self_eq_true,eq_self,exists_eq_left,exists_eq_left',hA,c1,hy,y.enc_eq,q0,q1,c3]
      exact frz_sc
    by_cases c4 : y.len < 1
    · rw [if_pos (.inr (.inl c4))] at hf; rw [hrr2 (by rw [← hf]; decide),← hf]
      simp -implicitDefEqProofs (maxDischargeDepth:=12) only [WW,List.replicate,Option.some_or,s_conv,e_conv,s_slc3,e_cut3,e_cut3n,e_bns,e_bnn,e_splice,if_true,if_false,ite_true,ite_false,true_or,ne_eq,seval,h_putc,beq_self_eq_true,eq_self,exists_eq_left,exists_eq_left',hA,c1,hy,y.enc_eq,q0,q1,c3,c4]
      exact frz_sc
    by_cases c5 : c.len < y.at_
    · rw [if_pos (.inr (.inr (.inl c5)))] at hf; rw [hrr2 (by rw [← hf]; decide),← hf]
      simp -implicitDefEqProofs (maxDischargeDepth:=12) only [WW,List.replicate,Option.some_or,s_conv,e_conv,s_slc3,e_cut3,e_cut3n,e_bns,e_bnn,e_splice,if_true,if_false,ite_true,ite_false,true_or,ne_eq,seval,h_putc,beq_self_eq_true,eq_self,exists_eq_left,exists_eq_left',hA,c1,hy,y.enc_eq,q0,q1,c3,c4,c5]
      exact frz_sc
    by_cases c6 : IntKind.i64.wrap (c.len - y.at_) < y.len
    · rw [if_pos (.inr (.inr (.inr c6)))] at hf; rw [hrr2 (by rw [← hf]; decide),← hf]
      simp -implicitDefEqProofs (maxDischargeDepth:=12) only [WW,List.replicate,Option.some_or,s_conv,e_conv,s_slc3,e_cut3,e_cut3n,e_bns,e_bnn,e_splice,if_true,if_false,ite_true,ite_false,true_or,ne_eq,seval,h_putc,beq_self_eq_true,eq_self,exists_eq_left,exists_eq_left',hA,c1,hy,y.enc_eq,q0,q1,c3,c4,c5,c6]
      exact frz_sc
    rw [if_neg (by unfold outR; rintro (h | h | h | h) <;> contradiction)] at hf
    by_cases i0 : (0 : Int) < (i : Int)
    · obtain ⟨m,hm⟩ : ∃ y,c.notes.l[i - 1]? = some y:=⟨_,List.getElem?_eq_getElem (by omega)⟩
      have hp : prevAt c.notes.l i = some m:=by unfold prevAt; rw [if_neg (by omega),hm]
      have em : IntKind.i64.wrap ((i : Int) - 1) = ((i - 1 : Nat) : Int):=by rw [w64 (by omega) (by omega)]; omega
      have hfin : IntKind.i64.wrap (m.at_ + m.len) = m.fin:=rfl
      rw [hp] at hf
      by_cases c7 : y.at_ < m.fin
      · rw [if_pos (show early (some m) y from c7)] at hf
        rw [hrr2 (by rw [← hf]; decide),← hf]
        simp -implicitDefEqProofs (maxDischargeDepth:=12) only [WW,List.replicate,Option.some_or,s_conv,e_conv,s_slc3,e_cut3,e_cut3n,e_bns,e_bnn,e_splice,if_true,if_false,ite_true,ite_false,true_or,ne_eq,seval,h_putc,beq_self_eq_true,eq_self,exists_eq_left,exists_eq_left',hA,c1,hy,y.enc_eq,q0,q1,c3,c4,c5,c6,i0,em,hm,m.enc_eq,hfin,c7]
        exact frz_sc
      rw [if_neg (show ¬ early (some m) y from c7)] at hf
      simp -implicitDefEqProofs (maxDischargeDepth:=12) only [WW,List.replicate,Option.some_or,s_conv,e_conv,s_slc3,e_cut3,e_cut3n,e_bns,e_bnn,e_splice,if_true,if_false,ite_true,ite_false,true_or,ne_eq,seval,h_putc,beq_self_eq_true,eq_self,exists_eq_left,exists_eq_left',hA,c1,hy,y.enc_eq,q0,q1,c3,c4,c5,c6,i0,em,hm,m.enc_eq,hfin,c7]
      rw [← y.enc_eq]
      refine wA_pure rfl (rchord_pv y) ?_
      simp -implicitDefEqProofs (maxDischargeDepth:=12) only [WW,List.replicate,Option.some_or,s_conv,e_conv,s_slc3,e_cut3,e_cut3n,e_bns,e_bnn,e_splice,if_true,if_false,ite_true,ite_false,true_or,ne_eq,seval,h_putc,beq_self_eq_true,eq_self,exists_eq_left,exists_eq_left']
      refine wA_pure rfl (echeck_pv y ty) ?_
      by_cases c8 : chordE y = 0
      · rw [if_neg (by simpa using c8)] at hf
        simp -implicitDefEqProofs (maxDischargeDepth:=12) only [WW,List.replicate,Option.some_or,s_conv,e_conv,s_slc3,e_cut3,e_cut3n,e_bns,e_bnn,e_splice,if_true,if_false,ite_true,ite_false,true_or,ne_eq,seval,h_putc,beq_self_eq_true,eq_self,exists_eq_left,exists_eq_left',c8,e2]
        exact ⟨k - 1,by omega,i + 1,by omega,by rw [prev_succ hy]; exact hf,by rw [if_neg q0,if_neg q0,hA]; rfl,ex_x rfl⟩
      · rw [if_pos c8] at hf
        rw [hrr2 (by rw [← hf]; exact c8),← hf]
        simp -implicitDefEqProofs (maxDischargeDepth:=12) only [WW,List.replicate,Option.some_or,s_conv,e_conv,s_slc3,e_cut3,e_cut3n,e_bns,e_bnn,e_splice,if_true,if_false,ite_true,ite_false,true_or,ne_eq,seval,h_putc,beq_self_eq_true,eq_self,exists_eq_left,exists_eq_left',c8]
        exact frz_sc
    · have hp : prevAt c.notes.l i = none:=by unfold prevAt; rw [if_pos (by omega)]
      rw [hp,if_neg (show ¬ early none y from fun h => h)] at hf
      simp -implicitDefEqProofs (maxDischargeDepth:=12) only [WW,List.replicate,Option.some_or,s_conv,e_conv,s_slc3,e_cut3,e_cut3n,e_bns,e_bnn,e_splice,if_true,if_false,ite_true,ite_false,true_or,ne_eq,seval,h_putc,beq_self_eq_true,eq_self,exists_eq_left,exists_eq_left',hA,c1,hy,y.enc_eq,q0,q1,c3,c4,c5,c6,i0]
      rw [← y.enc_eq]
      refine wA_pure rfl (rchord_pv y) ?_
      simp -implicitDefEqProofs (maxDischargeDepth:=12) only [WW,List.replicate,Option.some_or,s_conv,e_conv,s_slc3,e_cut3,e_cut3n,e_bns,e_bnn,e_splice,if_true,if_false,ite_true,ite_false,true_or,ne_eq,seval,h_putc,beq_self_eq_true,eq_self,exists_eq_left,exists_eq_left']
      refine wA_pure rfl (echeck_pv y ty) ?_
      by_cases c8 : chordE y = 0
      · rw [if_neg (by simpa using c8)] at hf
        simp -implicitDefEqProofs (maxDischargeDepth:=12) only [WW,List.replicate,Option.some_or,s_conv,e_conv,s_slc3,e_cut3,e_cut3n,e_bns,e_bnn,e_splice,if_true,if_false,ite_true,ite_false,true_or,ne_eq,seval,h_putc,beq_self_eq_true,eq_self,exists_eq_left,exists_eq_left',c8,e2]
        exact ⟨k - 1,by omega,i + 1,by omega,by rw [prev_succ hy]; exact hf,by rw [if_neg q0,if_neg q0,hA]; rfl,ex_x rfl⟩
      · rw [if_pos c8] at hf
        rw [hrr2 (by rw [← hf]; exact c8),← hf]
        simp -implicitDefEqProofs (maxDischargeDepth:=12) only [WW,List.replicate,Option.some_or,s_conv,e_conv,s_slc3,e_cut3,e_cut3n,e_bns,e_bnn,e_splice,if_true,if_false,ite_true,ite_false,true_or,ne_eq,seval,h_putc,beq_self_eq_true,eq_self,exists_eq_left,exists_eq_left',c8]
        exact frz_sc
  · rw [drop_end c1] at hf
    have hf0 : checkL c.len none c.notes.l = 0:=hf.symm
    rw [hf0,if_neg (by simp)] at hr
    simp -implicitDefEqProofs (maxDischargeDepth:=12) only [WW,List.replicate,Option.some_or,s_conv,e_conv,s_slc3,e_cut3,e_cut3n,e_bns,e_bnn,e_splice,if_true,if_false,ite_true,ite_false,true_or,ne_eq,seval,h_putc,beq_self_eq_true,eq_self,exists_eq_left,exists_eq_left',hA,c1]
    refine wA_pure rfl (rtidy_pv c.notes t1 t2) ?_
    have tt:=tidyR_tame t2
    simp -implicitDefEqProofs (maxDischargeDepth:=12) only [WW,List.replicate,Option.some_or,s_conv,e_conv,s_slc3,e_cut3,e_cut3n,e_bns,e_bnn,e_splice,if_true,if_false,ite_true,ite_false,true_or,ne_eq,seval,h_putc,beq_self_eq_true,eq_self,exists_eq_left,exists_eq_left',hA]
    refine wA_pure rfl (same_pv ⟨0,Sl.of (tidyR c.notes.l)⟩ ⟨0,c.notes⟩ (by rw [l_of]; omega) (by rw [l_of]; exact fun y hy => Note.chord_tame (tt.1 y hy))) ?_
    have e : ((⟨0,Sl.of (tidyR c.notes.l)⟩ : Clip).cn = (⟨0,c.notes⟩ : Clip).cn) = ((tidyP c.notes.l).map Note.cn = c.notes.l.map Note.cn):=by
      rw [← tidyR_eq]
      refine propext ⟨fun k => ?_,fun k => Clip.cn_iff.2 ⟨rfl,by rw [l_of]; exact k⟩⟩
      have:=(Clip.cn_iff.1 k).2
      rwa [l_of] at this
    simp only [e]
    by_cases d1 : (tidyP c.notes.l).map Note.cn = c.notes.l.map Note.cn
    · rw [if_pos d1] at hr; subst hr
      simp -implicitDefEqProofs (maxDischargeDepth:=12) only [WW,List.replicate,Option.some_or,s_conv,e_conv,s_slc3,e_cut3,e_cut3n,e_bns,e_bnn,e_splice,if_true,if_false,ite_true,ite_false,true_or,ne_eq,seval,h_putc,beq_self_eq_true,eq_self,exists_eq_left,exists_eq_left',eq_true d1]
      exact frz_sc
    · rw [if_neg d1] at hr; subst hr
      simp -implicitDefEqProofs (maxDischargeDepth:=12) only [WW,List.replicate,Option.some_or,s_conv,e_conv,s_slc3,e_cut3,e_cut3n,e_bns,e_bnn,e_splice,if_true,if_false,ite_true,ite_false,true_or,ne_eq,seval,h_putc,beq_self_eq_true,eq_self,exists_eq_left,exists_eq_left',d1]
      exact frz_sc
end
end Go.Hem
namespace Go.Hem
noncomputable section
def NoOne (L : List Note) : Prop:=∀ i a b,L[i]? = some a→L[i + 1]? = some b→oneB a b = false
def Ties (L : List Note) : Prop:=∀ i n,L[i]? = some n→∀ h ∈ n.heads.l,h.tied = true→keepTie n L[i + 1]? h = true
def Neat (L : List Note) : Prop:=NoOne L∧Ties L
end
end Go.Hem
namespace Go.Hem
noncomputable section
structure NFit (L : Int) (n : Note) : Prop where
  lo : 0 ≤ n.at_
  one : 1 ≤ n.len
  hi : n.at_ + n.len ≤ L
  ok : chordE n = 0
def Before (m n : Note) : Prop:=m.at_ + m.len ≤ n.at_
structure Row (L : Int) (l : List Note) : Prop where
  fit : ∀ n ∈ l,NFit L n
  ord : l.Pairwise Before
structure Good (c : Clip) : Prop where
  lo : 0 ≤ c.len
  hi : c.len ≤ 123863040
  row : Row c.len c.notes.l
  neat : Neat c.notes.l
inductive Same2 : List Note→List Note→Prop
  | nil : Same2 [] []
  | cons {a b : Note} {l m : List Note} : (a.at_ = b.at_∧a.len = b.len∧chordE a = chordE b)→Same2 l m→Same2 (a :: l) (b :: m)
end
end Go.Hem
namespace Go.Hem
noncomputable section
def strQ (num den v : Int) : Int:=IntKind.i64.wrap ((IntKind.i64.wrap (v * num)).tdiv den)
def strW (num den v : Int) : Bool:=decide ((IntKind.i64.wrap (v * num)).tmod den = 0)
def Note.str (num den : Int) (n : Note) : Note:={ n with at_:=strQ num den n.at_,len:=strQ num den n.len }
def Note.strOk (num den : Int) (n : Note) : Bool:=strW num den n.at_ && strW num den n.len
def ratio (num den : Int) : Prop:=1 ≤ num∧num ≤ 64∧1 ≤ den∧den ≤ 64
def wholeC (c : Clip) (num den : Int) : Bool:=strW num den c.len && c.notes.l.all (Note.strOk num den)
instance {num den : Int} : Decidable (ratio num den):=by unfold ratio; exact inferInstance
def strE (c : Clip) (num den : Int) : Int :=
  if checkE c ≠ 0 then checkE c else if ¬ ratio num den then 2 else if wholeC c num den = false then 16 else if 123863040 < strQ num den c.len then 5 else 0
def strC (c : Clip) (num den : Int) : Clip:=if strE c num den = 0 then ⟨strQ num den c.len,Sl.of (c.notes.l.map (Note.str num den))⟩ else ⟨0,none⟩
theorem callee38 (args : List AV) : acallee prog 38 args = some (.call 38 args):=by kernel_rfl
theorem times_ok {H : AHeap} {q qn qd : Nat} {num den v : Int} {w : Bool} (hd : den ≠ 0) (hq : H.cells q = some [.sc (.bool w)]) (hn : H.cells qn = some [.sc (.int .i64 num)]) (hdd : H.cells qd = some [.sc (.int .i64 den)]) (n1 : ¬ qn = q) (n2 : ¬ qd = q) :
    Ev prog polS (.call 38 [.sc (.int .i64 v),.ptr q 0,.ptr qn 0,.ptr qd 0]) H fun o H' => o = .val (.sc (.int .i64 (strQ num den v)))∧H'.cells q = some [.sc (.bool (w && strW num den v))]∧(∀ b,b ≠ q→H'.cells b = H.cells b)∧H'.next = H.next:=by
  refine (wpF_ok ok38 (Q:=fun v' H' => v' = .sc (.int .i64 (strQ num den v))∧H'.cells q = some [.sc (.bool (w && strW num den v))]∧(∀ b,b ≠ q→H'.cells b = H.cells b)∧H'.next = H.next) ?_).mono ?_
  rotate_left
  · rintro o H' ⟨v,rfl,rfl,h⟩; exact ⟨rfl,h⟩
  have e : ∀ x,(fun b : Nat => if b = q then some [AV.sc (.bool x)] else H.cells b) q = some [AV.sc (.bool x)]:=fun x => if_pos rfl
  cases w with
  | false =>
    simp -implicitDefEqProofs (maxDischargeDepth:=12) only [wpF,cf38,WW,List.replicate,Option.some_or,s_conv,e_conv,s_slc3,e_cut3,e_cut3n,e_bns,e_bnn,e_splice,if_true,if_false,ite_true,ite_false,true_or,ne_eq,seval,h_putc,beq_self_eq_true,eq_self,exists_eq_left,exists_eq_left',hq,hn,hdd,n1,n2,e_mul,e_rem hd,e_quo hd]
    exact ⟨rfl,fun b hb => if_neg hb⟩
  | true =>
    simp -implicitDefEqProofs (maxDischargeDepth:=12) only [wpF,cf38,WW,List.replicate,Option.some_or,s_conv,e_conv,s_slc3,e_cut3,e_cut3n,e_bns,e_bnn,e_splice,if_true,if_false,ite_true,ite_false,true_or,ne_eq,seval,h_putc,beq_self_eq_true,eq_self,exists_eq_left,exists_eq_left',hq,hn,hdd,n1,n2,e_mul,e_rem hd,e_quo hd]
    exact ⟨rfl,rfl,fun b hb => if_neg hb⟩
theorem frz_tup {I : Bool} {d : Nat} {H : AHeap} {v u : AV} {fp : List Nat} {x : Sc} (h : OwnX I d H v u fp) (hd : d ≤ 19) : Frz (.tup [v,.sc x]) H (.tup [u,.sc x]):=by
  obtain ⟨H1,h1,h2,_⟩:=freezeV_own (h.mono hd)
  refine ⟨H1,?_,?_⟩
  · have e : ∀ k (l : List AV) H,freezeV (k + 1) (.tup l) H = (freezeL (freezeV k) l H).map fun r => (.tup r.1,r.2):=fun _ _ _ => rfl
    have e2 : ∀ k H,freezeV (k + 1) (.sc x) H = some (.sc x,H):=fun _ _ => rfl
    show freezeV (19 + 1) _ _ = _
    rw [e,freezeL,h1,Option.bind_some,freezeL,e2 18,Option.bind_some,freezeL]; rfl
  · simp only [AV.closedB,AV.closedBs,h2,Bool.and_self]
theorem frz_err {H : AHeap} {e : Int} : Frz (.tup [.agg [.sc (.int .i64 0),.sc .nils],.sc (.int .i64 e)]) H (.tup [Clip.enc ⟨0,none⟩,.sc (.int .i64 e)]) :=
  frz_tup (own_closed (d:=3) (cs:=(Clip.enc ⟨0,none⟩).cells) (Clip.enc_plain _)) (by decide)
theorem frz_clip {H : AHeap} {c : Clip} {v : AV} {f : List Nat} {e : Int} (h : Own 4 H v (slm Note.enc c.notes) f) : Frz (.tup [.agg [.sc (.int .i64 c.len),v],.sc (.int .i64 e)]) H (.tup [c.enc,.sc (.int .i64 e)]) :=
  frz_tup (I:=true) (d:=5) (fp:=[] ++ (f ++ [])) ⟨c.enc.cells,rfl,.cons .scal (.cons h .nil Apart.nil_right) Apart.nil_left⟩ (by decide)
theorem str_pv (c : Clip) (tc : c.tame) (num den : Int) : Pv prog polS 18 [c.enc,.sc (.int .i64 num),.sc (.int .i64 den)] (.tup [(strC c num den).enc,.sc (.int .i64 (strE c num den))]):=by
  refine Pv_of' ok18 (by simp only [AV.closedBs,Clip.enc_closed,AV.closedB,Bool.and_self]) ?_
  unfold strC
  generalize hr : strE c num den = r
  unfold strE at hr
  simp -implicitDefEqProofs (maxDischargeDepth:=12) only [wpF,cf18,WW,List.replicate,Option.some_or,s_conv,e_conv,s_slc3,e_cut3,e_cut3n,e_bns,e_bnn,e_splice,if_true,if_false,ite_true,ite_false,true_or,ne_eq,seval,h_putc,beq_self_eq_true,eq_self,exists_eq_left,exists_eq_left',c.enc_eq]
  rw [← c.enc_eq]
  refine wA_pure rfl (check_pv c tc) ?_
  by_cases h1 : checkE c = 0
  rotate_left
  · rw [if_pos h1] at hr; subst hr
    simp -implicitDefEqProofs (maxDischargeDepth:=12) only [WW,List.replicate,Option.some_or,s_conv,e_conv,s_slc3,e_cut3,e_cut3n,e_bns,e_bnn,e_splice,if_true,if_false,ite_true,ite_false,true_or,ne_eq,seval,h_putc,beq_self_eq_true,eq_self,exists_eq_left,exists_eq_left',h1]
    exact frz_err
  rw [if_neg (by simpa using h1)] at hr
  by_cases b1 : num < 1
  · rw [if_pos (by unfold ratio; omega)] at hr; subst hr
    simp -implicitDefEqProofs (maxDischargeDepth:=12) only [WW,List.replicate,Option.some_or,s_conv,e_conv,s_slc3,e_cut3,e_cut3n,e_bns,e_bnn,e_splice,if_true,if_false,ite_true,ite_false,true_or,ne_eq,seval,h_putc,beq_self_eq_true,eq_self,exists_eq_left,exists_eq_left',eq_true h1,b1]
    exact frz_err
  by_cases b2 : 64 < num
  · rw [if_pos (by unfold ratio; omega)] at hr; subst hr
    simp -implicitDefEqProofs (maxDischargeDepth:=12) only [WW,List.replicate,Option.some_or,s_conv,e_conv,s_slc3,e_cut3,e_cut3n,e_bns,e_bnn,e_splice,if_true,if_false,ite_true,ite_false,true_or,ne_eq,seval,h_putc,beq_self_eq_true,eq_self,exists_eq_left,exists_eq_left',eq_true h1,b1,b2]
    exact frz_err
  by_cases b3 : den < 1
  · rw [if_pos (by unfold ratio; omega)] at hr; subst hr
    simp -implicitDefEqProofs (maxDischargeDepth:=12) only [WW,List.replicate,Option.some_or,s_conv,e_conv,s_slc3,e_cut3,e_cut3n,e_bns,e_bnn,e_splice,if_true,if_false,ite_true,ite_false,true_or,ne_eq,seval,h_putc,beq_self_eq_true,eq_self,exists_eq_left,exists_eq_left',eq_true h1,b1,b2,b3]
    exact frz_err
  by_cases b4 : 64 < den
  · rw [if_pos (by unfold ratio; omega)] at hr; subst hr
    simp -implicitDefEqProofs (maxDischargeDepth:=12) only [WW,List.replicate,Option.some_or,s_conv,e_conv,s_slc3,e_cut3,e_cut3n,e_bns,e_bnn,e_splice,if_true,if_false,ite_true,ite_false,true_or,ne_eq,seval,h_putc,beq_self_eq_true,eq_self,exists_eq_left,exists_eq_left',eq_true h1,b1,b2,b3,b4]
    exact frz_err
  rw [if_neg (by unfold ratio; omega)] at hr
  have hd : den ≠ 0:=by omega
  simp -implicitDefEqProofs (maxDischargeDepth:=12) only [WW,List.replicate,Option.some_or,s_conv,e_conv,s_slc3,e_cut3,e_cut3n,e_bns,e_bnn,e_splice,if_true,if_false,ite_true,ite_false,true_or,ne_eq,seval,h_putc,beq_self_eq_true,eq_self,exists_eq_left,exists_eq_left',eq_true h1,b1,b2,b3,b4,e_callf,callee38,c.enc_eq]
  refine wA_call rfl ((times_ok (q:=4) (qn:=1) (qd:=2) (num:=num) (den:=den) (v:=c.len) (w:=true) hd ?_ ?_ ?_ (by decide) (by decide)).mono ?_)
  · simp -implicitDefEqProofs (maxDischargeDepth:=12) only [WW,List.replicate,Option.some_or,s_conv,e_conv,s_slc3,e_cut3,e_cut3n,e_bns,e_bnn,e_splice,if_true,if_false,ite_true,ite_false,true_or,ne_eq,seval,h_putc,beq_self_eq_true,eq_self,exists_eq_left,exists_eq_left']
  · simp -implicitDefEqProofs (maxDischargeDepth:=12) only [WW,List.replicate,Option.some_or,s_conv,e_conv,s_slc3,e_cut3,e_cut3n,e_bns,e_bnn,e_splice,if_true,if_false,ite_true,ite_false,true_or,ne_eq,seval,h_putc,beq_self_eq_true,eq_self,exists_eq_left,exists_eq_left']
  · simp -implicitDefEqProofs (maxDischargeDepth:=12) only [WW,List.replicate,Option.some_or,s_conv,e_conv,s_slc3,e_cut3,e_cut3n,e_bns,e_bnn,e_splice,if_true,if_false,ite_true,ite_false,true_or,ne_eq,seval,h_putc,beq_self_eq_true,eq_self,exists_eq_left,exists_eq_left']
  rintro o H1 ⟨rfl,a4,ak,an⟩
  refine ⟨_,rfl,?_⟩
  have a0:=ak 0 (by decide)
  have a1:=ak 1 (by decide)
  have a2:=ak 2 (by decide)
  have a3:=ak 3 (by decide)
  simp -implicitDefEqProofs (maxDischargeDepth:=12) only [WW,List.replicate,Option.some_or,s_conv,e_conv,s_slc3,e_cut3,e_cut3n,e_bns,e_bnn,e_splice,if_true,if_false,ite_true,ite_false,true_or,ne_eq,seval,h_putc,beq_self_eq_true,eq_self,exists_eq_left,exists_eq_left'] at a0 a1 a2 a3 a4 an
  clear ak
  simp -implicitDefEqProofs (maxDischargeDepth:=12) only [WW,List.replicate,Option.some_or,s_conv,e_conv,s_slc3,e_cut3,e_cut3n,e_bns,e_bnn,e_splice,if_true,if_false,ite_true,ite_false,true_or,ne_eq,seval,h_putc,beq_self_eq_true,eq_self,exists_eq_left,exists_eq_left',an,a0,a1,a2,a3,a4]
  refine wp_loop (Inv:=fun k t H => ∃ (i : Nat) (v : AV) (fp : List Nat),i + k = c.notes.l.length∧H.cells 0 = some c.enc.cells∧H.cells 1 = some [.sc (.int .i64 num)]∧H.cells 2 = some [.sc (.int .i64 den)]∧H.cells 3 = some [.sc (.int .i64 0),.sc .nils] ∧
    H.cells 4 = some [.sc (.bool (strW num den c.len && (c.notes.l.take i).all (Note.strOk num den)))]∧H.cells 5 = some [.sc (.int .i64 (strQ num den c.len)),v] ∧
    AccQ NoteQ 8 H v (Sl.of ((c.notes.l.take i).map (Note.str num den))) fp∧(∀ b ∈ fp,6 ≤ b)∧6 ≤ H.next ∧
    ∃ y : Nat→AV,t = [c.enc,.sc (.int .i64 num),.sc (.int .i64 den),.ptr 0 0,.ptr 1 0,.ptr 2 0,.ptr 3 0,.sc (.int .i64 0),y 8,.ptr 4 0,.func (.func 38) [] [.ptr 4 0,.ptr 1 0,.ptr 2 0],.ptr 5 0,y 12,y 13,y 14,y 15,y 16,y 17,y 18,y 19,y 20,y 21,y 22,y 23,y 24,y 25,y 26,y 27,y 28,y 29,y 30,y 31,y 32,y 33,y 34,y 35,y 36,y 37,y 38,y 39,y 40,y 41,slm Note.enc c.notes,.sc (.int .i64 c.notes.l.length),.sc (.int .i64 i),y 45,y 46,y 47,y 48,y 49,y 50,y 51,y 52,y 53,y 54,y 55,y 56,y 57,y 58,y 59,y 60,y 61,y 62,y 63,y 64,y 65,y 66,y 67,y 68,y 69,y 70,y 71,y 72,y 73,y 74]) (k:=c.notes.l.length) ?_
    ⟨0,_,[],by omega,?_,?_,?_,?_,?_,?_,accQ_none,by simp,?_,ex_x rfl⟩
  rotate_left
  · simp -implicitDefEqProofs (maxDischargeDepth:=12) only [WW,List.replicate,Option.some_or,s_conv,e_conv,s_slc3,e_cut3,e_cut3n,e_bns,e_bnn,e_splice,if_true,if_false,ite_true,ite_false,true_or,ne_eq,seval,h_putc,beq_self_eq_true,eq_self,exists_eq_left,exists_eq_left',a0,an,c.enc_eq]
  · simp -implicitDefEqProofs (maxDischargeDepth:=12) only [WW,List.replicate,Option.some_or,s_conv,e_conv,s_slc3,e_cut3,e_cut3n,e_bns,e_bnn,e_splice,if_true,if_false,ite_true,ite_false,true_or,ne_eq,seval,h_putc,beq_self_eq_true,eq_self,exists_eq_left,exists_eq_left',a1,an]
  · simp -implicitDefEqProofs (maxDischargeDepth:=12) only [WW,List.replicate,Option.some_or,s_conv,e_conv,s_slc3,e_cut3,e_cut3n,e_bns,e_bnn,e_splice,if_true,if_false,ite_true,ite_false,true_or,ne_eq,seval,h_putc,beq_self_eq_true,eq_self,exists_eq_left,exists_eq_left',a2,an]
  · simp -implicitDefEqProofs (maxDischargeDepth:=12) only [WW,List.replicate,Option.some_or,s_conv,e_conv,s_slc3,e_cut3,e_cut3n,e_bns,e_bnn,e_splice,if_true,if_false,ite_true,ite_false,true_or,ne_eq,seval,h_putc,beq_self_eq_true,eq_self,exists_eq_left,exists_eq_left',a3,an]
  · simp -implicitDefEqProofs (maxDischargeDepth:=12) only [WW,List.replicate,Option.some_or,s_conv,e_conv,s_slc3,e_cut3,e_cut3n,e_bns,e_bnn,e_splice,if_true,if_false,ite_true,ite_false,true_or,ne_eq,seval,h_putc,beq_self_eq_true,eq_self,exists_eq_left,exists_eq_left',a4,an,List.all_nil]
  · simp -implicitDefEqProofs (maxDischargeDepth:=12) only [WW,List.replicate,Option.some_or,s_conv,e_conv,s_slc3,e_cut3,e_cut3n,e_bns,e_bnn,e_splice,if_true,if_false,ite_true,ite_false,true_or,ne_eq,seval,h_putc,beq_self_eq_true,eq_self,exists_eq_left,exists_eq_left',an]
  · simp only [AHeap.next_put,AHeap.next_alloc,an]; decide
  clear a0 a1 a2 a3 a4 an H1
  rintro k t H ⟨i,v,fp,hk,p0,p1,p2,p3,p4,p5,hA,hfp,hN,y,rfl⟩
  by_cases c1 : (i : Int) < (c.notes.l.length : Int)
  rotate_left
  · rw [List.take_of_length_le (by omega)] at p4 hA
    by_cases d1 : wholeC c num den = false
    · rw [if_pos d1] at hr; subst hr
      unfold wholeC at d1
      rw [d1] at p4
      simp -implicitDefEqProofs (maxDischargeDepth:=12) only [WW,List.replicate,Option.some_or,s_conv,e_conv,s_slc3,e_cut3,e_cut3n,e_bns,e_bnn,e_splice,if_true,if_false,ite_true,ite_false,true_or,ne_eq,seval,h_putc,beq_self_eq_true,eq_self,exists_eq_left,exists_eq_left',c1,p0,p1,p2,p3,p4,p5]
      exact frz_err
    rw [if_neg d1] at hr
    have d1' : wholeC c num den = true:=by simpa using d1
    unfold wholeC at d1'
    rw [d1'] at p4
    by_cases d2 : 123863040 < strQ num den c.len
    · rw [if_pos d2] at hr; subst hr
      simp -implicitDefEqProofs (maxDischargeDepth:=12) only [WW,List.replicate,Option.some_or,s_conv,e_conv,s_slc3,e_cut3,e_cut3n,e_bns,e_bnn,e_splice,if_true,if_false,ite_true,ite_false,true_or,ne_eq,seval,h_putc,beq_self_eq_true,eq_self,exists_eq_left,exists_eq_left',c1,p0,p1,p2,p3,p4,p5,d2]
      exact frz_err
    rw [if_neg d2] at hr; subst hr
    have hvo:=hA.one
    obtain ⟨f,o1,o2⟩:=hA.own noteQ
    simp -implicitDefEqProofs (maxDischargeDepth:=12) only [WW,List.replicate,Option.some_or,s_conv,e_conv,s_slc3,e_cut3,e_cut3n,e_bns,e_bnn,e_splice,if_true,if_false,ite_true,ite_false,true_or,ne_eq,seval,h_putc,beq_self_eq_true,eq_self,exists_eq_left,exists_eq_left',c1,p0,p1,p2,p3,p4,p5,d2,hvo.1,hvo.2]
    refine frz_clip (c:=⟨strQ num den c.len,Sl.of (c.notes.l.map (Note.str num den))⟩) (f:=f) ?_
    refine o1.frame fun b hb => ?_
    have:=hfp b (o2 b hb)
    exact c_put_ne (by omega)
  obtain ⟨x,hx⟩ : ∃ x,c.notes.l[i]? = some x:=⟨_,List.getElem?_eq_getElem (by omega)⟩
  have e2 : IntKind.i64.wrap ((i : Int) + 1) = ((i + 1 : Nat) : Int):=by rw [w64 (by omega) (by have:=tc.1; omega)]; omega
  have tx:=tc.2 x (List.mem_of_getElem? hx)
  have hlt:=hA.lt noteQ
  simp -implicitDefEqProofs (maxDischargeDepth:=12) only [WW,List.replicate,Option.some_or,s_conv,e_conv,s_slc3,e_cut3,e_cut3n,e_bns,e_bnn,e_splice,if_true,if_false,ite_true,ite_false,true_or,ne_eq,seval,h_putc,beq_self_eq_true,eq_self,exists_eq_left,exists_eq_left',c1,hx,x.enc_eq,e_callf,callee38]
  rw [← x.enc_eq]
  generalize hq : H.next = q at hN
  generalize hH1 : AHeap.put _ q _ = H1
  have n1 : H1.next = q + 1:=by subst hH1; simp only [AHeap.next_put,AHeap.next_alloc,hq]
  have k1 : ∀ b,b < q→H1.cells b = H.cells b:=fun b hb => by subst hH1; rw [c_put_ne (by omega),c_alloc_ne (by omega)]
  have cq1:=congrArg (fun H => AHeap.cells H q) hH1
  simp -implicitDefEqProofs (maxDischargeDepth:=12) only [WW,List.replicate,Option.some_or,s_conv,e_conv,s_slc3,e_cut3,e_cut3n,e_bns,e_bnn,e_splice,if_true,if_false,ite_true,ite_false,true_or,ne_eq,seval,h_putc,beq_self_eq_true,eq_self,exists_eq_left,exists_eq_left',hq] at cq1
  replace cq1:=cq1.symm
  clear hH1
  refine wA_call rfl ((clone_ok x tx _).mono ?_)
  rintro o H2 ⟨r,g,rfl,hr,hF⟩
  refine ⟨_,rfl,?_⟩
  have hrl : r.length = 8:=noteQ.len hr
  have hones:=hr.ones
  have hN2:=hF.2.1
  have glt:=noteQ.lt hr
  have cq2:=(hF.2.2 q (by omega)).trans cq1
  obtain ⟨hv,gv,lv,fh,fg,fl,rfl,m1,m2,m3,m4,m5,m6,m7,m8,rfl⟩:=hr
  simp only [intE] at *
  simp -implicitDefEqProofs (maxDischargeDepth:=12) only [WW,List.replicate,Option.some_or,s_conv,e_conv,s_slc3,e_cut3,e_cut3n,e_bns,e_bnn,e_splice,if_true,if_false,ite_true,ite_false,true_or,ne_eq,seval,h_putc,beq_self_eq_true,eq_self,exists_eq_left,exists_eq_left',cq2,hones]
  generalize hH3 : AHeap.put H2 q _ = H3
  have n3 : H3.next = H2.next:=by subst hH3; simp only [AHeap.next_put]
  have k3 : ∀ b,b ≠ q→H3.cells b = H2.cells b:=fun b hb => by subst hH3; rw [c_put_ne hb]
  have cq3:=congrArg (fun H => AHeap.cells H q) hH3
  simp -implicitDefEqProofs (maxDischargeDepth:=12) only [WW,List.replicate,Option.some_or,s_conv,e_conv,s_slc3,e_cut3,e_cut3n,e_bns,e_bnn,e_splice,if_true,if_false,ite_true,ite_false,true_or,ne_eq,seval,h_putc,beq_self_eq_true,eq_self,exists_eq_left,exists_eq_left',cq2] at cq3
  replace cq3:=cq3.symm
  clear hH3
  have kk : ∀ b,b < q→H3.cells b = H.cells b:=fun b hb => by rw [k3 b (by omega),hF.2.2 b (by omega),k1 b hb]
  have z1:=(kk 1 (by omega)).trans p1
  have z2:=(kk 2 (by omega)).trans p2
  have z4:=(kk 4 (by omega)).trans p4
  refine wA_call rfl ((times_ok (q:=4) (qn:=1) (qd:=2) (num:=num) (den:=den) (v:=x.at_) hd z4 z1 z2 (by decide) (by decide)).mono ?_)
  rintro o H4 ⟨rfl,a4,ak,an⟩
  refine ⟨_,rfl,?_⟩
  have cq4:=(ak q (by omega)).trans cq3
  have nq4 : ¬ q = 4:=by omega
  simp -implicitDefEqProofs (maxDischargeDepth:=12) only [WW,List.replicate,Option.some_or,s_conv,e_conv,s_slc3,e_cut3,e_cut3n,e_bns,e_bnn,e_splice,if_true,if_false,ite_true,ite_false,true_or,ne_eq,seval,h_putc,beq_self_eq_true,eq_self,exists_eq_left,exists_eq_left',cq3,cq4,e_callf,callee38]
  refine wA_call rfl ((times_ok (q:=4) (qn:=1) (qd:=2) (num:=num) (den:=den) (v:=x.len) hd a4 ((ak 1 (by decide)).trans z1) ((ak 2 (by decide)).trans z2) (by decide) (by decide)).mono ?_)
  rintro o H5 ⟨rfl,b4,bk,bn⟩
  refine ⟨_,rfl,?_⟩
  have cq5:=(bk q (by omega)).trans cq4
  have kk5 : ∀ b,b < q→b ≠ 4→H5.cells b = H.cells b:=fun b hb h4 => by rw [bk b h4,ak b h4,kk b hb]
  have z5:=(kk5 5 (by omega) (by decide)).trans p5
  have n5q : ¬ 5 = q:=by omega
  have m1o:=m1.one.1
  simp -implicitDefEqProofs (maxDischargeDepth:=12) only [WW,List.replicate,Option.some_or,s_conv,e_conv,s_slc3,e_cut3,e_cut3n,e_bns,e_bnn,e_splice,if_true,if_false,ite_true,ite_false,true_or,ne_eq,seval,h_putc,beq_self_eq_true,eq_self,exists_eq_left,exists_eq_left',cq5,z5,n5q,m1o,m4,m5]
  generalize hs : H5.next = s
  have hsq : H2.next ≤ s:=by omega
  generalize hH7 : AHeap.alloc _ _ = H7
  have n7 : H7.next = s + 1:=by subst hH7; simp only [AHeap.next_put,AHeap.next_alloc,hs]
  have k7 : ∀ b,b < s→b ≠ q→H7.cells b = H5.cells b:=fun b hb h => by subst hH7; rw [c_alloc_ne (by simp only [AHeap.next_put]; omega),c_put_ne h,c_put_ne h]
  have c7:=congrArg (fun H => AHeap.cells H s) hH7
  simp -implicitDefEqProofs (maxDischargeDepth:=12) only [WW,List.replicate,Option.some_or,s_conv,e_conv,s_slc3,e_cut3,e_cut3n,e_bns,e_bnn,e_splice,if_true,if_false,ite_true,ite_false,true_or,ne_eq,seval,h_putc,beq_self_eq_true,eq_self,exists_eq_left,exists_eq_left',hs] at c7
  replace c7:=c7.symm
  clear hH7
  have hg : ∀ c ∈ fh ++ (fg ++ fl),H7.cells c = H2.cells c:=fun c hc => by
    have h1:=hF.1 c hc
    have h2:=glt c hc
    rw [k7 c (by omega) (by omega),bk c (by omega),ak c (by omega),k3 c (by omega)]
  have hfq : ∀ b ∈ fp,H7.cells b = H.cells b:=fun b hb => by
    have h1:=hlt b hb
    have h2:=hfp b hb
    rw [k7 b (by omega) (by omega),kk5 b (by omega) (by omega)]
  have z7:=(k7 5 (by omega) (by omega)).trans z5
  refine wA_appQ noteQ (H0:=H) hA (y:=x.str num den) (g:=fh ++ (fg ++ fl)) hfq rfl (asrc_one c7 rfl) ⟨hv,gv,lv,fh,fg,fl,rfl,m1.fr headQ fun b hb => hg b (mem3.2 (.inl hb)),m2.frame fun b hb => hg b (mem3.2 (.inr (.inl hb))),m3.frame fun b hb => hg b (mem3.2 (.inr (.inr hb))),m4,m5,m6,m7,m8,rfl⟩
    (fun c h1 h2 => by have:=hlt c h1; have:=hF.1 c h2; omega) (by rw [l_of,List.length_map,List.length_take]; have:=tc.1; omega) ?_
  intro v' H8 fp' h1 h2 h3 h4 h5 h6
  have z8 : ∀ b,b < 6→H8.cells b = H7.cells b:=fun b hb => h3 b (fun h => by have:=hfp b h; omega) (by omega)
  have z8':=(z8 5 (by decide)).trans z7
  simp -implicitDefEqProofs (maxDischargeDepth:=12) only [WW,List.replicate,Option.some_or,s_conv,e_conv,s_slc3,e_cut3,e_cut3n,e_bns,e_bnn,e_splice,if_true,if_false,ite_true,ite_false,true_or,ne_eq,seval,h_putc,beq_self_eq_true,eq_self,exists_eq_left,exists_eq_left',z8',h5,h6,e2]
  have g6 : ∀ b ∈ fp',6 ≤ b:=fun b hb => by
    rcases h4 b hb with h | h | h
    · exact hfp b h
    · have:=hF.1 b h; omega
    · omega
  have zz : ∀ b,b < 5→b ≠ 4→H8.cells b = H.cells b:=fun b hb h => by rw [z8 b (by omega),k7 b (by omega) (by omega),kk5 b (by omega) h]
  refine ⟨k - 1,by omega,i + 1,v',fp',by omega,(zz 0 (by decide) (by decide)).trans p0,(zz 1 (by decide) (by decide)).trans p1,(zz 2 (by decide) (by decide)).trans p2,(zz 3 (by decide) (by decide)).trans p3,?_,?_,?_,g6,by omega,ex_x rfl⟩
  · rw [z8 4 (by decide),k7 4 (by omega) (by omega),b4,List.take_add_one,hx]
    simp only [Option.toList_some,List.all_append,List.all_cons,List.all_nil,Bool.and_true,Note.strOk,Bool.and_assoc]
  · rfl
  · have e : Sl.of ((c.notes.l.take (i + 1)).map (Note.str num den)) = some ((Sl.of ((c.notes.l.take i).map (Note.str num den))).l ++ [x.str num den]):=by
      rw [l_of,List.take_add_one,hx,List.map_append,of_cons (by simp)]; rfl
    rw [e]
    exact h1.fr noteQ fun b hb => c_put_ne (by have:=g6 b hb; omega)
end
end Go.Hem
namespace Go.Hem
def okTrue : XR AV→Bool
  | .ok (.sc (.bool b)) => b
  | _ => false
theorem okTrue_spec {r : XR AV} (h : okTrue r = true) : r = .ok (.sc (.bool true)):=by
  unfold okTrue at h
  split at h
  · subst h; rfl
  · cases h
theorem known_run : okTrue (xPure (X prog polS memo0 1000) 9 []) = true:=by decide +kernel
theorem known_pv : Pv prog polS 9 [] (.sc (.bool true)):=pv_of_x memo0_ok rfl (okTrue_spec known_run)
end Go.Hem
namespace Go.Hem
noncomputable section
def sylS (s : Syllable) : Bool:=decide (s.text.size ≤ 300)
def noteS (n : Note) : Bool:=decide (n.heads.l.length ≤ 12) && (decide (n.graces.l.length ≤ 12) && (decide (n.lyrics.l.length ≤ 6) && n.lyrics.l.all sylS))
def Clip.smallB (c : Clip) : Bool:=decide (c.notes.l.length ≤ 20) && c.notes.l.all noteS
theorem noteS_tame {n : Note} (h : noteS n = true) : n.tame:=by
  unfold noteS at h
  simp only [Bool.and_eq_true,decide_eq_true_eq] at h
  obtain ⟨h1,h2,h3,h4⟩:=h
  refine ⟨by omega,by omega,by omega,fun s hs => ?_⟩
  have:=List.all_eq_true.1 h4 s hs
  simp only [sylS,decide_eq_true_eq] at this; omega
theorem smallB_tame {c : Clip} (h : c.smallB = true) : c.tame:=by
  unfold Clip.smallB at h
  simp only [Bool.and_eq_true,decide_eq_true_eq] at h
  exact ⟨by omega,fun x hx => noteS_tame (List.all_eq_true.1 h.2 x hx)⟩
theorem small_pv (c : Clip) : Pv prog polS 10 [c.enc] (.sc (.bool c.smallB)):=by
  refine Pv_of' ok10 (by simp only [AV.closedBs,Clip.enc_closed,Bool.and_self]) ?_
  generalize hr : c.smallB = r
  unfold Clip.smallB at hr
  by_cases b1 : (20 : Int) < (c.notes.l.length : Int)
  · rw [decide_eq_false (by omega),Bool.false_and] at hr; subst hr
    simp -implicitDefEqProofs (maxDischargeDepth:=12) only [wpF,cf10,WW,List.replicate,Option.some_or,s_conv,e_conv,s_slc3,e_cut3,e_cut3n,e_bns,e_bnn,e_splice,if_true,if_false,ite_true,ite_false,true_or,ne_eq,seval,h_putc,beq_self_eq_true,eq_self,exists_eq_left,exists_eq_left',c.enc_eq,b1]
    exact frz_sc
  rw [decide_eq_true (by omega),Bool.true_and] at hr
  simp -implicitDefEqProofs (maxDischargeDepth:=12) only [wpF,cf10,WW,List.replicate,Option.some_or,s_conv,e_conv,s_slc3,e_cut3,e_cut3n,e_bns,e_bnn,e_splice,if_true,if_false,ite_true,ite_false,true_or,ne_eq,seval,h_putc,beq_self_eq_true,eq_self,exists_eq_left,exists_eq_left',c.enc_eq,b1]
  refine wp_loop (Inv:=fun k t H => ∃ (i : Nat),i + k = c.notes.l.length∧(c.notes.l.take i).all noteS = true∧H.cells 0 = some c.enc.cells∧1 ≤ H.next ∧
    ∃ x : Nat→AV,t = [c.enc,.ptr 0 0,x 2,.sc (.int .i64 i),x 4,x 5,x 6,x 7,x 8,x 9,x 10,x 11,x 12,x 13,x 14,x 15,x 16,x 17,x 18,x 19,x 20,x 21,x 22,x 23,x 24,x 25,x 26,x 27,x 28,x 29,x 30,x 31,x 32,x 33,x 34,x 35,x 36,x 37,x 38,x 39,x 40,x 41,x 42,x 43,x 44,x 45,x 46,x 47,x 48,x 49,x 50,x 51,x 52]) (k:=c.notes.l.length) ?_
    ⟨0,by omega,by simp,?_,by simp,ex_x rfl⟩
  rotate_left
  · simp -implicitDefEqProofs (maxDischargeDepth:=12) only [WW,List.replicate,Option.some_or,s_conv,e_conv,s_slc3,e_cut3,e_cut3n,e_bns,e_bnn,e_splice,if_true,if_false,ite_true,ite_false,true_or,ne_eq,seval,h_putc,beq_self_eq_true,eq_self,exists_eq_left,exists_eq_left']; rfl
  rintro k t H ⟨i,hk,hf,hA,hN,x,rfl⟩
  simp only [c.enc_eq,c_agg] at hA
  by_cases c1 : (i : Int) < (c.notes.l.length : Int)
  rotate_left
  · rw [List.take_of_length_le (by omega)] at hf
    rw [hf] at hr; subst hr
    simp -implicitDefEqProofs (maxDischargeDepth:=12) only [WW,List.replicate,Option.some_or,s_conv,e_conv,s_slc3,e_cut3,e_cut3n,e_bns,e_bnn,e_splice,if_true,if_false,ite_true,ite_false,true_or,ne_eq,seval,h_putc,beq_self_eq_true,eq_self,exists_eq_left,exists_eq_left',hA,c1]
    exact frz_sc
  obtain ⟨y,hy⟩ : ∃ y,c.notes.l[i]? = some y:=⟨_,List.getElem?_eq_getElem (by omega)⟩
  have e2 : IntKind.i64.wrap ((i : Int) + 1) = ((i + 1 : Nat) : Int):=by rw [w64 (by omega) (by omega)]; omega
  have q0 : ¬ 0 = H.next:=by omega
  have q1 : ¬ H.next = 0:=by omega
  have no : noteS y = false→r = false:=fun h => by rw [all_no hy h] at hr; exact hr.symm
  by_cases c3 : (12 : Int) < (y.heads.l.length : Int)
  · rw [no (by unfold noteS; rw [decide_eq_false (by omega),Bool.false_and])]
    simp -implicitDefEqProofs (maxDischargeDepth:=12) only [WW,List.replicate,Option.some_or,s_conv,e_conv,s_slc3,e_cut3,e_cut3n,e_bns,e_bnn,e_splice,if_true,if_false,ite_true,ite_false,true_or,ne_eq,seval,h_putc,beq_self_eq_true,eq_self,exists_eq_left,exists_eq_left',hA,c1,hy,y.enc_eq,q0,q1,c3]
    exact frz_sc
  by_cases c4 : (12 : Int) < (y.graces.l.length : Int)
  · rw [no (by unfold noteS; rw [decide_eq_false (p:=y.graces.l.length ≤ 12) (by omega),Bool.false_and,Bool.and_false])]
    simp -implicitDefEqProofs (maxDischargeDepth:=12) only [WW,List.replicate,Option.some_or,s_conv,e_conv,s_slc3,e_cut3,e_cut3n,e_bns,e_bnn,e_splice,if_true,if_false,ite_true,ite_false,true_or,ne_eq,seval,h_putc,beq_self_eq_true,eq_self,exists_eq_left,exists_eq_left',hA,c1,hy,y.enc_eq,q0,q1,c3,c4]
    exact frz_sc
  by_cases c5 : (6 : Int) < (y.lyrics.l.length : Int)
  · rw [no (by unfold noteS; rw [decide_eq_false (p:=y.lyrics.l.length ≤ 6) (by omega),Bool.false_and,Bool.and_false,Bool.and_false])]
    simp -implicitDefEqProofs (maxDischargeDepth:=12) only [WW,List.replicate,Option.some_or,s_conv,e_conv,s_slc3,e_cut3,e_cut3n,e_bns,e_bnn,e_splice,if_true,if_false,ite_true,ite_false,true_or,ne_eq,seval,h_putc,beq_self_eq_true,eq_self,exists_eq_left,exists_eq_left',hA,c1,hy,y.enc_eq,q0,q1,c3,c4,c5]
    exact frz_sc
  have hns : noteS y = y.lyrics.l.all sylS:=by
    unfold noteS; rw [decide_eq_true (p:=y.heads.l.length ≤ 12) (by omega),decide_eq_true (p:=y.graces.l.length ≤ 12) (by omega),decide_eq_true (p:=y.lyrics.l.length ≤ 6) (by omega)]
    simp only [Bool.true_and]
  simp -implicitDefEqProofs (maxDischargeDepth:=12) only [WW,List.replicate,Option.some_or,s_conv,e_conv,s_slc3,e_cut3,e_cut3n,e_bns,e_bnn,e_splice,if_true,if_false,ite_true,ite_false,true_or,ne_eq,seval,h_putc,beq_self_eq_true,eq_self,exists_eq_left,exists_eq_left',hA,c1,hy,y.enc_eq,q0,q1,c3,c4,c5]
  generalize hq : H.next = q at q0 q1 hN
  generalize hH1 : AHeap.put _ q _ = H1
  have n1 : H1.next = q + 1:=by subst hH1; simp only [AHeap.next_put,AHeap.next_alloc,hq]
  have cq:=congrArg (fun H => AHeap.cells H q) hH1
  have c0:=congrArg (fun H => AHeap.cells H 0) hH1
  simp -implicitDefEqProofs (maxDischargeDepth:=12) only [WW,List.replicate,Option.some_or,s_conv,e_conv,s_slc3,e_cut3,e_cut3n,e_bns,e_bnn,e_splice,if_true,if_false,ite_true,ite_false,true_or,ne_eq,seval,h_putc,beq_self_eq_true,eq_self,exists_eq_left,exists_eq_left',hq,q0,hA] at cq c0
  replace cq:=cq.symm
  replace c0:=c0.symm
  clear hH1
  refine wp_loop (Inv:=fun k2 t H => H = H1∧∃ (j : Nat),j + k2 = y.lyrics.l.length∧(y.lyrics.l.take j).all sylS = true ∧
    ∃ x : Nat→AV,t = [c.enc,.ptr 0 0,x 2,.sc (.int .i64 i),.ptr q 0,.sc (.int .i64 j),x 6,x 7,x 8,x 9,x 10,x 11,x 12,x 13,x 14,x 15,x 16,x 17,x 18,x 19,x 20,x 21,x 22,x 23,x 24,x 25,x 26,x 27,x 28,x 29,x 30,x 31,x 32,x 33,x 34,x 35,x 36,x 37,x 38,x 39,x 40,x 41,x 42,x 43,x 44,x 45,x 46,x 47,x 48,x 49,x 50,x 51,x 52]) (k:=y.lyrics.l.length) ?_
    ⟨rfl,0,by omega,by simp,ex_x rfl⟩
  clear x
  rintro k2 t _ ⟨rfl,j,hk2,hs,x,rfl⟩
  by_cases d1 : (j : Int) < (y.lyrics.l.length : Int)
  rotate_left
  · rw [List.take_of_length_le (by omega)] at hs
    simp -implicitDefEqProofs (maxDischargeDepth:=12) only [WW,List.replicate,Option.some_or,s_conv,e_conv,s_slc3,e_cut3,e_cut3n,e_bns,e_bnn,e_splice,if_true,if_false,ite_true,ite_false,true_or,ne_eq,seval,h_putc,beq_self_eq_true,eq_self,exists_eq_left,exists_eq_left',cq,c0,d1,e2]
    exact ⟨k - 1,by omega,i + 1,by omega,by rw [all_take hy hf,hns]; exact hs,rfl,by omega,ex_x rfl⟩
  obtain ⟨z,hz⟩ : ∃ z,y.lyrics.l[j]? = some z:=⟨_,List.getElem?_eq_getElem (by omega)⟩
  have e3 : IntKind.i64.wrap ((j : Int) + 1) = ((j + 1 : Nat) : Int):=by rw [w64 (by omega) (by omega)]; omega
  by_cases d2 : (300 : Int) < (z.text.size : Int)
  · rw [no (by rw [hns]; exact all_no hz (by unfold sylS; exact decide_eq_false (by omega)))]
    simp -implicitDefEqProofs (maxDischargeDepth:=12) only [WW,List.replicate,Option.some_or,s_conv,e_conv,s_slc3,e_cut3,e_cut3n,e_bns,e_bnn,e_splice,if_true,if_false,ite_true,ite_false,true_or,ne_eq,seval,h_putc,beq_self_eq_true,eq_self,exists_eq_left,exists_eq_left',cq,c0,d1,hz,z.enc_eq,d2]
    exact frz_sc
  · simp -implicitDefEqProofs (maxDischargeDepth:=12) only [WW,List.replicate,Option.some_or,s_conv,e_conv,s_slc3,e_cut3,e_cut3n,e_bns,e_bnn,e_splice,if_true,if_false,ite_true,ite_false,true_or,ne_eq,seval,h_putc,beq_self_eq_true,eq_self,exists_eq_left,exists_eq_left',cq,c0,d1,hz,z.enc_eq,d2,e3]
    exact ⟨k2 - 1,by omega,j + 1,by omega,by rw [all_take hz hs]; unfold sylS; exact decide_eq_true (by omega),ex_x rfl⟩
theorem chord_tames {c : Clip} (h : c.tame) : ∀ x ∈ c.notes.l,x.chord.tame:=fun x hx => Note.chord_tame (h.2 x hx)
end
end Go.Hem
namespace Go.Hem
noncomputable section
def ClosedQ {α : Type} (f : α→AV) : RQ α:=fun _ r x g => r = (f x).cells∧g = []
theorem closedQ {α : Type} {n : Nat} {f : α→AV} (row : RowOf n f) (hl : ∀ x,(f x).cells.length = n) (hp : ∀ x,AV.plain2 (f x) = true) (ha : ∀ x,∃ cs,f x = .agg cs) : RowQ n 3 f (ClosedQ f) where
  row:=row
  len:=by rintro H r x g ⟨rfl,rfl⟩; exact hl x
  fr:=by rintro H H' r x g h _; exact h
  lt:=by rintro H r x g ⟨rfl,rfl⟩ b hb; simp at hb
  own:=by
    rintro H r x g ⟨rfl,rfl⟩
    refine ⟨[],OwnL.plain fun v hv => ?_,fun _ h => h⟩
    obtain ⟨cs,e⟩:=ha x
    have:=hp x
    rw [e] at this hv
    simp only [AV.plain2,List.all_eq_true] at this
    exact this v hv
theorem rows_closed {α : Type} {f : α→AV} {H : AHeap} : ∀ {l : List α},Rows (ClosedQ f) H (l.flatMap fun x => (f x).cells) l []
  | [] => .nil
  | h :: l => Rows.cons (Q:=ClosedQ f) (g:=[]) ⟨rfl,rfl⟩ rows_closed Apart.nil_left
def NoteC : RQ Note:=ClosedQ Note.enc
theorem noteC : RowQ 8 3 Note.enc NoteC:=closedQ row_Note (fun _ => rfl) Note.enc_plain fun _ => ⟨_,rfl⟩
theorem wA_appC {α : Type} {f : α→AV} {n bytes : Nat} {P : Program} {pol : Pol} {is : List CI} {dst : Option Tmp} {rd : List COp} {R : List AV→AHeap→Prop} {z : AV} {t : List AV} {b : Nat} {H : AHeap} {s : Sl α}
    (row : RowOf n f) (hl : ∀ x,(f x).cells.length = n) (hb : H.cells b = some []) (hs : s.l.length < 1000000) (hy : bytes ≤ 1000)
    (k : ∀ v' H' fp',AccQ (ClosedQ f) n H' v' (some s.l) fp'→H.next ≤ H'.next→(∀ c,c ≠ b→c < H.next→H'.cells c = H.cells c)→(∀ c ∈ fp',c = b ∨ H.next ≤ c)→v'.one = true→v'.cells = [v']→reK P (z :: t) H rd H'∧wpIns P pol is (putT (z :: t) dst v') H' R) :
    wA P pol rd is dst (z :: t) H R (some true) (appTo n bytes H (.slice b 0 0 0 n) (slm f s)):=by
  have e1 : alen (slm f s) = some s.l.length:=by rw [e_alenm]
  have e2 : asrc n H (slm f s) s.l.length = some (s.l.flatMap fun v => (f v).cells):=by
    rw [e_srcm hl (Nat.le_refl _),List.take_length]
  have hflat : (s.l.flatMap fun v => (f v).cells).length = s.l.length * n:=flat_len row s.l
  by_cases h0 : s.l = []
  · rw [h0] at e1 e2 k
    have e : appTo n bytes H (.slice b 0 0 0 n) (slm f s) = some (.mem (.slice b 0 0 0 n) b []):=by
      simp only [appTo,e1,Option.bind_some,List.length_nil]
      rw [List.length_nil] at e2
      simp [e2,hb,splice]
    rw [e,wA_mem]
    refine k _ _ [b] (.inr ⟨b,0,[],[],[],[],rfl,rfl,Nat.le_refl _,?_,by simp,.nil,by simp,rfl⟩) (by simp) (fun c h1 h2 => c_put_ne h1) (fun c hc => .inl (by simpa using hc)) rfl rfl
    rw [h_put_self hb]; rfl
  · have h9 : s.l.length ≠ 0:=by simpa using h0
    have h1 : ¬ (0 + s.l.length ≤ 0):=by omega
    have hbig : (2 * (0 + s.l.length) + 1000) * bytes ≤ 2 ^ 47:=by
      have : (2 * (0 + s.l.length) + 1000) * bytes ≤ (2 * (0 + s.l.length) + 1000) * 1000:=Nat.mul_le_mul_left _ hy
      omega
    have e : appTo n bytes H (.slice b 0 0 0 n) (slm f s) = some (.move (fun b' => .slice b' 0 (0 + s.l.length) (0 + s.l.length) n) b (s.l.flatMap fun v => (f v).cells)):=by
      simp only [appTo,e1,e2,Option.bind_some,hb,ne_eq,not_true,if_false,if_neg h1]
      rw [if_pos ⟨trivial,hbig,by simp⟩]; simp
    rw [e]
    simp only [Nat.zero_add]
    rw [wA_move]
    refine k _ _ [H.next] (.inr ⟨H.next,s.l.length,_,[],[],s.l,rfl,rfl,Nat.le_refl _,?_,by simp,rows_closed,by simp,rfl⟩) (by simp) (fun c h1 h2 => ?_) (fun c hc => .inr (by simp at hc; omega)) rfl rfl
    · rw [h_alloc,if_pos (by simp)]; simp
    · rw [c_alloc_ne (by simp; omega),c_put_ne h1]
end
end Go.Hem
namespace Go.Hem
noncomputable section
theorem wp_loopY {P : Program} {pol : Pol} {b : CC} {Q : Post} (n : Nat) (Inv : Nat→List AV→AHeap→Prop) (Ex : List AV→AHeap→Prop)
    (step : ∀ k t H,Inv k t H→wpC P pol b t H (thenC (fun e t' H' => e = .exit n∧Ex t' H') fun t' H' => ∃ k',k' < k∧Inv k' t' H')) (hex : ∀ t H,Ex t H→Q (.exit n) t H) {k : Nat} {t : List AV} {H : AHeap} (h : Inv k t H) : wpC P pol (.loop b) t H Q:=by
  refine wp_loop Inv (fun k t H hi => wpC_mono (fun e t' H' q => ?_) (step k t H hi)) h
  cases e with
  | normal => exact q
  | exit id => obtain ⟨e1,e2⟩:=q; cases e1; exact hex _ _ e2
  | ret => obtain ⟨e1,e2⟩:=q; cases e1
def noClip : Clip:=⟨0,none⟩
theorem noClip_enc : noClip.enc = .agg [.sc (.int .i64 0),.sc .nils]:=rfl
theorem noClip_tame : noClip.tame:=⟨by decide,fun x hx => by simp [noClip,Sl.l] at hx⟩
theorem strC_tame {c : Clip} (tc : c.tame) {num den : Int} : (strC c num den).tame:=by
  unfold strC
  split
  · refine ⟨by rw [l_of,List.length_map]; exact tc.1,fun x hx => ?_⟩
    rw [l_of] at hx
    obtain ⟨y,hy,rfl⟩:=List.mem_map.1 hx
    have:=tc.2 y hy
    exact ⟨this.heads,this.graces,this.lyrics,this.text⟩
  · exact noClip_tame
theorem law5_pv (c : Clip) (num den : Int) : Pv prog polS 5 [c.enc,.sc (.int .i64 num),.sc (.int .i64 den)] (.sc (.bool true)):=by
  refine Pv_of' ok5 (by simp only [AV.closedBs,Clip.enc_closed,AV.closedB,Bool.and_self]) ?_
  simp -implicitDefEqProofs (maxDischargeDepth:=12) only [wpF,cf5,WW,List.replicate,Option.some_or,s_conv,e_conv,s_slc3,e_cut3,e_cut3n,e_bns,e_bnn,e_splice,if_true,if_false,ite_true,ite_false,true_or,ne_eq,seval,h_putc,beq_self_eq_true,eq_self,exists_eq_left,exists_eq_left',c.enc_eq]
  refine wA_pure rfl known_pv ?_
  simp -implicitDefEqProofs (maxDischargeDepth:=12) only [WW,List.replicate,Option.some_or,s_conv,e_conv,s_slc3,e_cut3,e_cut3n,e_bns,e_bnn,e_splice,if_true,if_false,ite_true,ite_false,true_or,ne_eq,seval,h_putc,beq_self_eq_true,eq_self,exists_eq_left,exists_eq_left',c.enc_eq]
  rw [← c.enc_eq]
  refine wA_pure rfl (small_pv c) ?_
  cases hc : c.smallB with
  | false =>
    simp -implicitDefEqProofs (maxDischargeDepth:=12) only [WW,List.replicate,Option.some_or,s_conv,e_conv,s_slc3,e_cut3,e_cut3n,e_bns,e_bnn,e_splice,if_true,if_false,ite_true,ite_false,true_or,ne_eq,seval,h_putc,beq_self_eq_true,eq_self,exists_eq_left,exists_eq_left']
    refine wA_pure rfl known_pv ?_
    simp -implicitDefEqProofs (maxDischargeDepth:=12) only [WW,List.replicate,Option.some_or,s_conv,e_conv,s_slc3,e_cut3,e_cut3n,e_bns,e_bnn,e_splice,if_true,if_false,ite_true,ite_false,true_or,ne_eq,seval,h_putc,beq_self_eq_true,eq_self,exists_eq_left,exists_eq_left']
    exact frz_sc
  | true =>
  have tc:=smallB_tame hc
  simp -implicitDefEqProofs (maxDischargeDepth:=12) only [WW,List.replicate,Option.some_or,s_conv,e_conv,s_slc3,e_cut3,e_cut3n,e_bns,e_bnn,e_splice,if_true,if_false,ite_true,ite_false,true_or,ne_eq,seval,h_putc,beq_self_eq_true,eq_self,exists_eq_left,exists_eq_left',c.enc_eq]
  rw [← c.enc_eq]
  refine wA_pure rfl (str_pv c tc num den) ?_
  have hX:=strC_tame tc (num:=num) (den:=den)
  have hXd : strC c num den = if strE c num den = 0 then ⟨strQ num den c.len,Sl.of (c.notes.l.map (Note.str num den))⟩ else noClip:=rfl
  generalize strC c num den = X at hX hXd
  generalize hE : strE c num den = E at hXd
  unfold strE at hE
  simp -implicitDefEqProofs (maxDischargeDepth:=12) only [WW,List.replicate,Option.some_or,s_conv,e_conv,s_slc3,e_cut3,e_cut3n,e_bns,e_bnn,e_splice,if_true,if_false,ite_true,ite_false,true_or,ne_eq,seval,h_putc,beq_self_eq_true,eq_self,exists_eq_left,exists_eq_left',c.enc_eq,X.enc_eq]
  rw [← c.enc_eq]
  refine wA_pure rfl (rcheck_pv c tc) ?_
  by_cases h1 : checkE c = 0
  rotate_left
  · rw [if_pos h1] at hE; subst hE
    have hXv : X = noClip:=by rw [hXd,if_neg h1]
    rw [hXv]
    simp -implicitDefEqProofs (maxDischargeDepth:=12) only [WW,List.replicate,Option.some_or,s_conv,e_conv,s_slc3,e_cut3,e_cut3n,e_bns,e_bnn,e_splice,if_true,if_false,ite_true,ite_false,true_or,ne_eq,seval,h_putc,beq_self_eq_true,eq_self,exists_eq_left,exists_eq_left',h1]
    refine wp_loop (Inv:=fun k t H => H.cells 1 = some noClip.enc.cells∧H.cells 0 = some c.enc.cells∧∃ y : Nat→AV,t = [c.enc,.sc (.int .i64 num),.sc (.int .i64 den),.ptr 0 0,y 4,y 5,.sc (.bool false),.ptr 1 0,.sc (.int .i64 (checkE c)),.sc (.int .i64 (checkE c)),.sc (.int .i64 0),y 11,y 12,y 13,y 14,y 15,y 16,y 17,y 18,y 19,y 20,y 21,y 22,y 23,y 24,y 25,y 26,y 27,y 28,y 29,y 30,y 31,y 32,y 33,y 34,y 35,y 36,y 37,y 38,y 39,y 40,y 41,y 42,y 43,y 44,y 45,y 46,y 47,y 48,y 49,y 50,y 51,y 52,y 53,y 54,y 55,y 56,y 57,y 58,y 59,y 60,y 61,y 62,y 63,y 64,y 65,y 66,y 67,y 68,y 69,y 70,y 71,y 72,y 73,y 74,y 75,y 76,y 77,y 78,y 79,y 80,y 81,y 82,y 83,y 84,y 85,y 86,y 87,y 88,y 89,y 90,y 91,y 92,y 93,y 94,y 95,y 96,y 97,y 98,y 99,y 100,y 101,y 102,y 103,y 104,y 105,y 106,y 107,y 108,y 109,y 110,y 111,y 112,y 113,y 114,y 115,y 116,y 117,y 118,y 119,y 120,y 121,y 122,y 123,y 124,y 125,y 126,y 127,y 128,y 129,y 130,y 131,y 132,y 133,y 134,y 135,y 136,y 137,y 138,y 139,y 140,y 141,y 142,y 143,y 144,y 145,y 146,y 147,y 148,y 149,y 150,y 151,y 152,y 153,y 154,y 155,y 156,y 157,y 158,y 159,y 160,y 161,y 162,y 163,y 164,y 165,y 166,y 167,y 168,y 169]) (k:=0) ?_ ⟨?_,?_,ex_x rfl⟩
    rotate_left
    · simp -implicitDefEqProofs (maxDischargeDepth:=12) only [WW,List.replicate,Option.some_or,s_conv,e_conv,s_slc3,e_cut3,e_cut3n,e_bns,e_bnn,e_splice,if_true,if_false,ite_true,ite_false,true_or,ne_eq,seval,h_putc,beq_self_eq_true,eq_self,exists_eq_left,exists_eq_left']; rfl
    · simp -implicitDefEqProofs (maxDischargeDepth:=12) only [WW,List.replicate,Option.some_or,s_conv,e_conv,s_slc3,e_cut3,e_cut3n,e_bns,e_bnn,e_splice,if_true,if_false,ite_true,ite_false,true_or,ne_eq,seval,h_putc,beq_self_eq_true,eq_self,exists_eq_left,exists_eq_left',c.enc_eq]
    rintro k t H ⟨g1,g0,y,rfl⟩
    simp only [c.enc_eq,c_agg] at g0
    rw [noClip_enc,c_agg] at g1
    by_cases hl : (0 : Int) < (c.notes.l.length : Int)
    · simp -implicitDefEqProofs (maxDischargeDepth:=12) only [WW,List.replicate,Option.some_or,s_conv,e_conv,s_slc3,e_cut3,e_cut3n,e_bns,e_bnn,e_splice,if_true,if_false,ite_true,ite_false,true_or,ne_eq,seval,h_putc,beq_self_eq_true,eq_self,exists_eq_left,exists_eq_left',g0,g1,h1,hl]
      rw [← noClip_enc]
      refine wA_pure rfl (same_pv noClip noClip noClip_tame.1 (chord_tames noClip_tame)) ?_
      simp -implicitDefEqProofs (maxDischargeDepth:=12) only [WW,List.replicate,Option.some_or,s_conv,e_conv,s_slc3,e_cut3,e_cut3n,e_bns,e_bnn,e_splice,if_true,if_false,ite_true,ite_false,true_or,ne_eq,seval,h_putc,beq_self_eq_true,eq_self,exists_eq_left,exists_eq_left']
      exact frz_sc
    · simp -implicitDefEqProofs (maxDischargeDepth:=12) only [WW,List.replicate,Option.some_or,s_conv,e_conv,s_slc3,e_cut3,e_cut3n,e_bns,e_bnn,e_splice,if_true,if_false,ite_true,ite_false,true_or,ne_eq,seval,h_putc,beq_self_eq_true,eq_self,exists_eq_left,exists_eq_left',g0,g1,h1,hl]
      rw [← noClip_enc]
      refine wA_pure rfl (same_pv noClip noClip noClip_tame.1 (chord_tames noClip_tame)) ?_
      simp -implicitDefEqProofs (maxDischargeDepth:=12) only [WW,List.replicate,Option.some_or,s_conv,e_conv,s_slc3,e_cut3,e_cut3n,e_bns,e_bnn,e_splice,if_true,if_false,ite_true,ite_false,true_or,ne_eq,seval,h_putc,beq_self_eq_true,eq_self,exists_eq_left,exists_eq_left']
      exact frz_sc
  rw [if_neg (by simpa using h1)] at hE
  by_cases b1 : num < 1
  · rw [if_pos (by unfold ratio; omega)] at hE; subst hE
    have hXv : X = noClip:=by rw [hXd,if_neg (by decide)]
    rw [hXv]
    simp -implicitDefEqProofs (maxDischargeDepth:=12) only [WW,List.replicate,Option.some_or,s_conv,e_conv,s_slc3,e_cut3,e_cut3n,e_bns,e_bnn,e_splice,if_true,if_false,ite_true,ite_false,true_or,ne_eq,seval,h_putc,beq_self_eq_true,eq_self,exists_eq_left,exists_eq_left',eq_true h1,b1]
    refine wp_loop (Inv:=fun k t H => H.cells 1 = some noClip.enc.cells∧H.cells 0 = some c.enc.cells∧∃ y : Nat→AV,t = [c.enc,.sc (.int .i64 num),.sc (.int .i64 den),.ptr 0 0,y 4,y 5,.sc (.bool false),.ptr 1 0,.sc (.int .i64 (2)),.sc (.int .i64 (2)),.sc (.int .i64 0),y 11,y 12,y 13,y 14,y 15,y 16,y 17,y 18,y 19,y 20,y 21,y 22,y 23,y 24,y 25,y 26,y 27,y 28,y 29,y 30,y 31,y 32,y 33,y 34,y 35,y 36,y 37,y 38,y 39,y 40,y 41,y 42,y 43,y 44,y 45,y 46,y 47,y 48,y 49,y 50,y 51,y 52,y 53,y 54,y 55,y 56,y 57,y 58,y 59,y 60,y 61,y 62,y 63,y 64,y 65,y 66,y 67,y 68,y 69,y 70,y 71,y 72,y 73,y 74,y 75,y 76,y 77,y 78,y 79,y 80,y 81,y 82,y 83,y 84,y 85,y 86,y 87,y 88,y 89,y 90,y 91,y 92,y 93,y 94,y 95,y 96,y 97,y 98,y 99,y 100,y 101,y 102,y 103,y 104,y 105,y 106,y 107,y 108,y 109,y 110,y 111,y 112,y 113,y 114,y 115,y 116,y 117,y 118,y 119,y 120,y 121,y 122,y 123,y 124,y 125,y 126,y 127,y 128,y 129,y 130,y 131,y 132,y 133,y 134,y 135,y 136,y 137,y 138,y 139,y 140,y 141,y 142,y 143,y 144,y 145,y 146,y 147,y 148,y 149,y 150,y 151,y 152,y 153,y 154,y 155,y 156,y 157,y 158,y 159,y 160,y 161,y 162,y 163,y 164,y 165,y 166,y 167,y 168,y 169]) (k:=0) ?_ ⟨?_,?_,ex_x rfl⟩
    rotate_left
    · simp -implicitDefEqProofs (maxDischargeDepth:=12) only [WW,List.replicate,Option.some_or,s_conv,e_conv,s_slc3,e_cut3,e_cut3n,e_bns,e_bnn,e_splice,if_true,if_false,ite_true,ite_false,true_or,ne_eq,seval,h_putc,beq_self_eq_true,eq_self,exists_eq_left,exists_eq_left']; rfl
    · simp -implicitDefEqProofs (maxDischargeDepth:=12) only [WW,List.replicate,Option.some_or,s_conv,e_conv,s_slc3,e_cut3,e_cut3n,e_bns,e_bnn,e_splice,if_true,if_false,ite_true,ite_false,true_or,ne_eq,seval,h_putc,beq_self_eq_true,eq_self,exists_eq_left,exists_eq_left',c.enc_eq]
    rintro k t H ⟨g1,g0,y,rfl⟩
    simp only [c.enc_eq,c_agg] at g0
    rw [noClip_enc,c_agg] at g1
    by_cases hl : (0 : Int) < (c.notes.l.length : Int)
    · simp -implicitDefEqProofs (maxDischargeDepth:=12) only [WW,List.replicate,Option.some_or,s_conv,e_conv,s_slc3,e_cut3,e_cut3n,e_bns,e_bnn,e_splice,if_true,if_false,ite_true,ite_false,true_or,ne_eq,seval,h_putc,beq_self_eq_true,eq_self,exists_eq_left,exists_eq_left',g0,g1,eq_true h1,b1,hl]
      rw [← noClip_enc]
      refine wA_pure rfl (same_pv noClip noClip noClip_tame.1 (chord_tames noClip_tame)) ?_
      simp -implicitDefEqProofs (maxDischargeDepth:=12) only [WW,List.replicate,Option.some_or,s_conv,e_conv,s_slc3,e_cut3,e_cut3n,e_bns,e_bnn,e_splice,if_true,if_false,ite_true,ite_false,true_or,ne_eq,seval,h_putc,beq_self_eq_true,eq_self,exists_eq_left,exists_eq_left']
      exact frz_sc
    · simp -implicitDefEqProofs (maxDischargeDepth:=12) only [WW,List.replicate,Option.some_or,s_conv,e_conv,s_slc3,e_cut3,e_cut3n,e_bns,e_bnn,e_splice,if_true,if_false,ite_true,ite_false,true_or,ne_eq,seval,h_putc,beq_self_eq_true,eq_self,exists_eq_left,exists_eq_left',g0,g1,eq_true h1,b1,hl]
      rw [← noClip_enc]
      refine wA_pure rfl (same_pv noClip noClip noClip_tame.1 (chord_tames noClip_tame)) ?_
      simp -implicitDefEqProofs (maxDischargeDepth:=12) only [WW,List.replicate,Option.some_or,s_conv,e_conv,s_slc3,e_cut3,e_cut3n,e_bns,e_bnn,e_splice,if_true,if_false,ite_true,ite_false,true_or,ne_eq,seval,h_putc,beq_self_eq_true,eq_self,exists_eq_left,exists_eq_left']
      exact frz_sc
  by_cases b2 : 64 < num
  · rw [if_pos (by unfold ratio; omega)] at hE; subst hE
    have hXv : X = noClip:=by rw [hXd,if_neg (by decide)]
    rw [hXv]
    simp -implicitDefEqProofs (maxDischargeDepth:=12) only [WW,List.replicate,Option.some_or,s_conv,e_conv,s_slc3,e_cut3,e_cut3n,e_bns,e_bnn,e_splice,if_true,if_false,ite_true,ite_false,true_or,ne_eq,seval,h_putc,beq_self_eq_true,eq_self,exists_eq_left,exists_eq_left',eq_true h1,b1,b2]
    refine wp_loop (Inv:=fun k t H => H.cells 1 = some noClip.enc.cells∧H.cells 0 = some c.enc.cells∧∃ y : Nat→AV,t = [c.enc,.sc (.int .i64 num),.sc (.int .i64 den),.ptr 0 0,y 4,y 5,.sc (.bool false),.ptr 1 0,.sc (.int .i64 (2)),.sc (.int .i64 (2)),.sc (.int .i64 0),y 11,y 12,y 13,y 14,y 15,y 16,y 17,y 18,y 19,y 20,y 21,y 22,y 23,y 24,y 25,y 26,y 27,y 28,y 29,y 30,y 31,y 32,y 33,y 34,y 35,y 36,y 37,y 38,y 39,y 40,y 41,y 42,y 43,y 44,y 45,y 46,y 47,y 48,y 49,y 50,y 51,y 52,y 53,y 54,y 55,y 56,y 57,y 58,y 59,y 60,y 61,y 62,y 63,y 64,y 65,y 66,y 67,y 68,y 69,y 70,y 71,y 72,y 73,y 74,y 75,y 76,y 77,y 78,y 79,y 80,y 81,y 82,y 83,y 84,y 85,y 86,y 87,y 88,y 89,y 90,y 91,y 92,y 93,y 94,y 95,y 96,y 97,y 98,y 99,y 100,y 101,y 102,y 103,y 104,y 105,y 106,y 107,y 108,y 109,y 110,y 111,y 112,y 113,y 114,y 115,y 116,y 117,y 118,y 119,y 120,y 121,y 122,y 123,y 124,y 125,y 126,y 127,y 128,y 129,y 130,y 131,y 132,y 133,y 134,y 135,y 136,y 137,y 138,y 139,y 140,y 141,y 142,y 143,y 144,y 145,y 146,y 147,y 148,y 149,y 150,y 151,y 152,y 153,y 154,y 155,y 156,y 157,y 158,y 159,y 160,y 161,y 162,y 163,y 164,y 165,y 166,y 167,y 168,y 169]) (k:=0) ?_ ⟨?_,?_,ex_x rfl⟩
    rotate_left
    · simp -implicitDefEqProofs (maxDischargeDepth:=12) only [WW,List.replicate,Option.some_or,s_conv,e_conv,s_slc3,e_cut3,e_cut3n,e_bns,e_bnn,e_splice,if_true,if_false,ite_true,ite_false,true_or,ne_eq,seval,h_putc,beq_self_eq_true,eq_self,exists_eq_left,exists_eq_left']; rfl
    · simp -implicitDefEqProofs (maxDischargeDepth:=12) only [WW,List.replicate,Option.some_or,s_conv,e_conv,s_slc3,e_cut3,e_cut3n,e_bns,e_bnn,e_splice,if_true,if_false,ite_true,ite_false,true_or,ne_eq,seval,h_putc,beq_self_eq_true,eq_self,exists_eq_left,exists_eq_left',c.enc_eq]
    rintro k t H ⟨g1,g0,y,rfl⟩
    simp only [c.enc_eq,c_agg] at g0
    rw [noClip_enc,c_agg] at g1
    by_cases hl : (0 : Int) < (c.notes.l.length : Int)
    · simp -implicitDefEqProofs (maxDischargeDepth:=12) only [WW,List.replicate,Option.some_or,s_conv,e_conv,s_slc3,e_cut3,e_cut3n,e_bns,e_bnn,e_splice,if_true,if_false,ite_true,ite_false,true_or,ne_eq,seval,h_putc,beq_self_eq_true,eq_self,exists_eq_left,exists_eq_left',g0,g1,eq_true h1,b1,b2,hl]
      rw [← noClip_enc]
      refine wA_pure rfl (same_pv noClip noClip noClip_tame.1 (chord_tames noClip_tame)) ?_
      simp -implicitDefEqProofs (maxDischargeDepth:=12) only [WW,List.replicate,Option.some_or,s_conv,e_conv,s_slc3,e_cut3,e_cut3n,e_bns,e_bnn,e_splice,if_true,if_false,ite_true,ite_false,true_or,ne_eq,seval,h_putc,beq_self_eq_true,eq_self,exists_eq_left,exists_eq_left']
      exact frz_sc
    · simp -implicitDefEqProofs (maxDischargeDepth:=12) only [WW,List.replicate,Option.some_or,s_conv,e_conv,s_slc3,e_cut3,e_cut3n,e_bns,e_bnn,e_splice,if_true,if_false,ite_true,ite_false,true_or,ne_eq,seval,h_putc,beq_self_eq_true,eq_self,exists_eq_left,exists_eq_left',g0,g1,eq_true h1,b1,b2,hl]
      rw [← noClip_enc]
      refine wA_pure rfl (same_pv noClip noClip noClip_tame.1 (chord_tames noClip_tame)) ?_
      simp -implicitDefEqProofs (maxDischargeDepth:=12) only [WW,List.replicate,Option.some_or,s_conv,e_conv,s_slc3,e_cut3,e_cut3n,e_bns,e_bnn,e_splice,if_true,if_false,ite_true,ite_false,true_or,ne_eq,seval,h_putc,beq_self_eq_true,eq_self,exists_eq_left,exists_eq_left']
      exact frz_sc
  by_cases b3 : den < 1
  · rw [if_pos (by unfold ratio; omega)] at hE; subst hE
    have hXv : X = noClip:=by rw [hXd,if_neg (by decide)]
    rw [hXv]
    simp -implicitDefEqProofs (maxDischargeDepth:=12) only [WW,List.replicate,Option.some_or,s_conv,e_conv,s_slc3,e_cut3,e_cut3n,e_bns,e_bnn,e_splice,if_true,if_false,ite_true,ite_false,true_or,ne_eq,seval,h_putc,beq_self_eq_true,eq_self,exists_eq_left,exists_eq_left',eq_true h1,b1,b2,b3]
    refine wp_loop (Inv:=fun k t H => H.cells 1 = some noClip.enc.cells∧H.cells 0 = some c.enc.cells∧∃ y : Nat→AV,t = [c.enc,.sc (.int .i64 num),.sc (.int .i64 den),.ptr 0 0,y 4,y 5,.sc (.bool false),.ptr 1 0,.sc (.int .i64 (2)),.sc (.int .i64 (2)),.sc (.int .i64 0),y 11,y 12,y 13,y 14,y 15,y 16,y 17,y 18,y 19,y 20,y 21,y 22,y 23,y 24,y 25,y 26,y 27,y 28,y 29,y 30,y 31,y 32,y 33,y 34,y 35,y 36,y 37,y 38,y 39,y 40,y 41,y 42,y 43,y 44,y 45,y 46,y 47,y 48,y 49,y 50,y 51,y 52,y 53,y 54,y 55,y 56,y 57,y 58,y 59,y 60,y 61,y 62,y 63,y 64,y 65,y 66,y 67,y 68,y 69,y 70,y 71,y 72,y 73,y 74,y 75,y 76,y 77,y 78,y 79,y 80,y 81,y 82,y 83,y 84,y 85,y 86,y 87,y 88,y 89,y 90,y 91,y 92,y 93,y 94,y 95,y 96,y 97,y 98,y 99,y 100,y 101,y 102,y 103,y 104,y 105,y 106,y 107,y 108,y 109,y 110,y 111,y 112,y 113,y 114,y 115,y 116,y 117,y 118,y 119,y 120,y 121,y 122,y 123,y 124,y 125,y 126,y 127,y 128,y 129,y 130,y 131,y 132,y 133,y 134,y 135,y 136,y 137,y 138,y 139,y 140,y 141,y 142,y 143,y 144,y 145,y 146,y 147,y 148,y 149,y 150,y 151,y 152,y 153,y 154,y 155,y 156,y 157,y 158,y 159,y 160,y 161,y 162,y 163,y 164,y 165,y 166,y 167,y 168,y 169]) (k:=0) ?_ ⟨?_,?_,ex_x rfl⟩
    rotate_left
    · simp -implicitDefEqProofs (maxDischargeDepth:=12) only [WW,List.replicate,Option.some_or,s_conv,e_conv,s_slc3,e_cut3,e_cut3n,e_bns,e_bnn,e_splice,if_true,if_false,ite_true,ite_false,true_or,ne_eq,seval,h_putc,beq_self_eq_true,eq_self,exists_eq_left,exists_eq_left']; rfl
    · simp -implicitDefEqProofs (maxDischargeDepth:=12) only [WW,List.replicate,Option.some_or,s_conv,e_conv,s_slc3,e_cut3,e_cut3n,e_bns,e_bnn,e_splice,if_true,if_false,ite_true,ite_false,true_or,ne_eq,seval,h_putc,beq_self_eq_true,eq_self,exists_eq_left,exists_eq_left',c.enc_eq]
    rintro k t H ⟨g1,g0,y,rfl⟩
    simp only [c.enc_eq,c_agg] at g0
    rw [noClip_enc,c_agg] at g1
    by_cases hl : (0 : Int) < (c.notes.l.length : Int)
    · simp -implicitDefEqProofs (maxDischargeDepth:=12) only [WW,List.replicate,Option.some_or,s_conv,e_conv,s_slc3,e_cut3,e_cut3n,e_bns,e_bnn,e_splice,if_true,if_false,ite_true,ite_false,true_or,ne_eq,seval,h_putc,beq_self_eq_true,eq_self,exists_eq_left,exists_eq_left',g0,g1,eq_true h1,b1,b2,b3,hl]
      rw [← noClip_enc]
      refine wA_pure rfl (same_pv noClip noClip noClip_tame.1 (chord_tames noClip_tame)) ?_
      simp -implicitDefEqProofs (maxDischargeDepth:=12) only [WW,List.replicate,Option.some_or,s_conv,e_conv,s_slc3,e_cut3,e_cut3n,e_bns,e_bnn,e_splice,if_true,if_false,ite_true,ite_false,true_or,ne_eq,seval,h_putc,beq_self_eq_true,eq_self,exists_eq_left,exists_eq_left']
      exact frz_sc
    · simp -implicitDefEqProofs (maxDischargeDepth:=12) only [WW,List.replicate,Option.some_or,s_conv,e_conv,s_slc3,e_cut3,e_cut3n,e_bns,e_bnn,e_splice,if_true,if_false,ite_true,ite_false,true_or,ne_eq,seval,h_putc,beq_self_eq_true,eq_self,exists_eq_left,exists_eq_left',g0,g1,eq_true h1,b1,b2,b3,hl]
      rw [← noClip_enc]
      refine wA_pure rfl (same_pv noClip noClip noClip_tame.1 (chord_tames noClip_tame)) ?_
      simp -implicitDefEqProofs (maxDischargeDepth:=12) only [WW,List.replicate,Option.some_or,s_conv,e_conv,s_slc3,e_cut3,e_cut3n,e_bns,e_bnn,e_splice,if_true,if_false,ite_true,ite_false,true_or,ne_eq,seval,h_putc,beq_self_eq_true,eq_self,exists_eq_left,exists_eq_left']
      exact frz_sc
  by_cases b4 : 64 < den
  · rw [if_pos (by unfold ratio; omega)] at hE; subst hE
    have hXv : X = noClip:=by rw [hXd,if_neg (by decide)]
    rw [hXv]
    simp -implicitDefEqProofs (maxDischargeDepth:=12) only [WW,List.replicate,Option.some_or,s_conv,e_conv,s_slc3,e_cut3,e_cut3n,e_bns,e_bnn,e_splice,if_true,if_false,ite_true,ite_false,true_or,ne_eq,seval,h_putc,beq_self_eq_true,eq_self,exists_eq_left,exists_eq_left',eq_true h1,b1,b2,b3,b4]
    refine wp_loop (Inv:=fun k t H => H.cells 1 = some noClip.enc.cells∧H.cells 0 = some c.enc.cells∧∃ y : Nat→AV,t = [c.enc,.sc (.int .i64 num),.sc (.int .i64 den),.ptr 0 0,y 4,y 5,.sc (.bool false),.ptr 1 0,.sc (.int .i64 (2)),.sc (.int .i64 (2)),.sc (.int .i64 0),y 11,y 12,y 13,y 14,y 15,y 16,y 17,y 18,y 19,y 20,y 21,y 22,y 23,y 24,y 25,y 26,y 27,y 28,y 29,y 30,y 31,y 32,y 33,y 34,y 35,y 36,y 37,y 38,y 39,y 40,y 41,y 42,y 43,y 44,y 45,y 46,y 47,y 48,y 49,y 50,y 51,y 52,y 53,y 54,y 55,y 56,y 57,y 58,y 59,y 60,y 61,y 62,y 63,y 64,y 65,y 66,y 67,y 68,y 69,y 70,y 71,y 72,y 73,y 74,y 75,y 76,y 77,y 78,y 79,y 80,y 81,y 82,y 83,y 84,y 85,y 86,y 87,y 88,y 89,y 90,y 91,y 92,y 93,y 94,y 95,y 96,y 97,y 98,y 99,y 100,y 101,y 102,y 103,y 104,y 105,y 106,y 107,y 108,y 109,y 110,y 111,y 112,y 113,y 114,y 115,y 116,y 117,y 118,y 119,y 120,y 121,y 122,y 123,y 124,y 125,y 126,y 127,y 128,y 129,y 130,y 131,y 132,y 133,y 134,y 135,y 136,y 137,y 138,y 139,y 140,y 141,y 142,y 143,y 144,y 145,y 146,y 147,y 148,y 149,y 150,y 151,y 152,y 153,y 154,y 155,y 156,y 157,y 158,y 159,y 160,y 161,y 162,y 163,y 164,y 165,y 166,y 167,y 168,y 169]) (k:=0) ?_ ⟨?_,?_,ex_x rfl⟩
    rotate_left
    · simp -implicitDefEqProofs (maxDischargeDepth:=12) only [WW,List.replicate,Option.some_or,s_conv,e_conv,s_slc3,e_cut3,e_cut3n,e_bns,e_bnn,e_splice,if_true,if_false,ite_true,ite_false,true_or,ne_eq,seval,h_putc,beq_self_eq_true,eq_self,exists_eq_left,exists_eq_left']; rfl
    · simp -implicitDefEqProofs (maxDischargeDepth:=12) only [WW,List.replicate,Option.some_or,s_conv,e_conv,s_slc3,e_cut3,e_cut3n,e_bns,e_bnn,e_splice,if_true,if_false,ite_true,ite_false,true_or,ne_eq,seval,h_putc,beq_self_eq_true,eq_self,exists_eq_left,exists_eq_left',c.enc_eq]
    rintro k t H ⟨g1,g0,y,rfl⟩
    simp only [c.enc_eq,c_agg] at g0
    rw [noClip_enc,c_agg] at g1
    by_cases hl : (0 : Int) < (c.notes.l.length : Int)
    · simp -implicitDefEqProofs (maxDischargeDepth:=12) only [WW,List.replicate,Option.some_or,s_conv,e_conv,s_slc3,e_cut3,e_cut3n,e_bns,e_bnn,e_splice,if_true,if_false,ite_true,ite_false,true_or,ne_eq,seval,h_putc,beq_self_eq_true,eq_self,exists_eq_left,exists_eq_left',g0,g1,eq_true h1,b1,b2,b3,b4,hl]
      rw [← noClip_enc]
      refine wA_pure rfl (same_pv noClip noClip noClip_tame.1 (chord_tames noClip_tame)) ?_
      simp -implicitDefEqProofs (maxDischargeDepth:=12) only [WW,List.replicate,Option.some_or,s_conv,e_conv,s_slc3,e_cut3,e_cut3n,e_bns,e_bnn,e_splice,if_true,if_false,ite_true,ite_false,true_or,ne_eq,seval,h_putc,beq_self_eq_true,eq_self,exists_eq_left,exists_eq_left']
      exact frz_sc
    · simp -implicitDefEqProofs (maxDischargeDepth:=12) only [WW,List.replicate,Option.some_or,s_conv,e_conv,s_slc3,e_cut3,e_cut3n,e_bns,e_bnn,e_splice,if_true,if_false,ite_true,ite_false,true_or,ne_eq,seval,h_putc,beq_self_eq_true,eq_self,exists_eq_left,exists_eq_left',g0,g1,eq_true h1,b1,b2,b3,b4,hl]
      rw [← noClip_enc]
      refine wA_pure rfl (same_pv noClip noClip noClip_tame.1 (chord_tames noClip_tame)) ?_
      simp -implicitDefEqProofs (maxDischargeDepth:=12) only [WW,List.replicate,Option.some_or,s_conv,e_conv,s_slc3,e_cut3,e_cut3n,e_bns,e_bnn,e_splice,if_true,if_false,ite_true,ite_false,true_or,ne_eq,seval,h_putc,beq_self_eq_true,eq_self,exists_eq_left,exists_eq_left']
      exact frz_sc
  rw [if_neg (by unfold ratio; omega)] at hE
  have hd : den ≠ 0:=by omega
  by_cases w1 : (IntKind.i64.wrap (c.len * num)).tmod den = 0
  rotate_left
  · rw [if_pos (by unfold wholeC strW; rw [decide_eq_false w1]; rfl)] at hE; subst hE
    have hXv : X = noClip:=by rw [hXd,if_neg (by decide)]
    rw [hXv]
    simp -implicitDefEqProofs (maxDischargeDepth:=12) only [WW,List.replicate,Option.some_or,s_conv,e_conv,s_slc3,e_cut3,e_cut3n,e_bns,e_bnn,e_splice,if_true,if_false,ite_true,ite_false,true_or,ne_eq,seval,h_putc,beq_self_eq_true,eq_self,exists_eq_left,exists_eq_left',eq_true h1,b1,b2,b3,b4,w1,e_mul,e_rem hd]
    refine wp_loop (Inv:=fun k t H => H.cells 1 = some noClip.enc.cells∧H.cells 0 = some c.enc.cells∧∃ y : Nat→AV,t = [c.enc,.sc (.int .i64 num),.sc (.int .i64 den),.ptr 0 0,y 4,y 5,.sc (.bool false),.ptr 1 0,.sc (.int .i64 (16)),.sc (.int .i64 (16)),.sc (.int .i64 0),y 11,y 12,y 13,y 14,y 15,y 16,y 17,y 18,y 19,y 20,y 21,y 22,y 23,y 24,y 25,y 26,y 27,y 28,y 29,y 30,y 31,y 32,y 33,y 34,y 35,y 36,y 37,y 38,y 39,y 40,y 41,y 42,y 43,y 44,y 45,y 46,y 47,y 48,y 49,y 50,y 51,y 52,y 53,y 54,y 55,y 56,y 57,y 58,y 59,y 60,y 61,y 62,y 63,y 64,y 65,y 66,y 67,y 68,y 69,y 70,y 71,y 72,y 73,y 74,y 75,y 76,y 77,y 78,y 79,y 80,y 81,y 82,y 83,y 84,y 85,y 86,y 87,y 88,y 89,y 90,y 91,y 92,y 93,y 94,y 95,y 96,y 97,y 98,y 99,y 100,y 101,y 102,y 103,y 104,y 105,y 106,y 107,y 108,y 109,y 110,y 111,y 112,y 113,y 114,y 115,y 116,y 117,y 118,y 119,y 120,y 121,y 122,y 123,y 124,y 125,y 126,y 127,y 128,y 129,y 130,y 131,y 132,y 133,y 134,y 135,y 136,y 137,y 138,y 139,y 140,y 141,y 142,y 143,y 144,y 145,y 146,y 147,y 148,y 149,y 150,y 151,y 152,y 153,y 154,y 155,y 156,y 157,y 158,y 159,y 160,y 161,y 162,y 163,y 164,y 165,y 166,y 167,y 168,y 169]) (k:=0) ?_ ⟨?_,?_,ex_x rfl⟩
    rotate_left
    · simp -implicitDefEqProofs (maxDischargeDepth:=12) only [WW,List.replicate,Option.some_or,s_conv,e_conv,s_slc3,e_cut3,e_cut3n,e_bns,e_bnn,e_splice,if_true,if_false,ite_true,ite_false,true_or,ne_eq,seval,h_putc,beq_self_eq_true,eq_self,exists_eq_left,exists_eq_left']; rfl
    · simp -implicitDefEqProofs (maxDischargeDepth:=12) only [WW,List.replicate,Option.some_or,s_conv,e_conv,s_slc3,e_cut3,e_cut3n,e_bns,e_bnn,e_splice,if_true,if_false,ite_true,ite_false,true_or,ne_eq,seval,h_putc,beq_self_eq_true,eq_self,exists_eq_left,exists_eq_left',c.enc_eq]
    rintro k t H ⟨g1,g0,y,rfl⟩
    simp only [c.enc_eq,c_agg] at g0
    rw [noClip_enc,c_agg] at g1
    by_cases hl : (0 : Int) < (c.notes.l.length : Int)
    · simp -implicitDefEqProofs (maxDischargeDepth:=12) only [WW,List.replicate,Option.some_or,s_conv,e_conv,s_slc3,e_cut3,e_cut3n,e_bns,e_bnn,e_splice,if_true,if_false,ite_true,ite_false,true_or,ne_eq,seval,h_putc,beq_self_eq_true,eq_self,exists_eq_left,exists_eq_left',g0,g1,eq_true h1,b1,b2,b3,b4,w1,e_mul,e_rem hd,hl]
      rw [← noClip_enc]
      refine wA_pure rfl (same_pv noClip noClip noClip_tame.1 (chord_tames noClip_tame)) ?_
      simp -implicitDefEqProofs (maxDischargeDepth:=12) only [WW,List.replicate,Option.some_or,s_conv,e_conv,s_slc3,e_cut3,e_cut3n,e_bns,e_bnn,e_splice,if_true,if_false,ite_true,ite_false,true_or,ne_eq,seval,h_putc,beq_self_eq_true,eq_self,exists_eq_left,exists_eq_left']
      exact frz_sc
    · simp -implicitDefEqProofs (maxDischargeDepth:=12) only [WW,List.replicate,Option.some_or,s_conv,e_conv,s_slc3,e_cut3,e_cut3n,e_bns,e_bnn,e_splice,if_true,if_false,ite_true,ite_false,true_or,ne_eq,seval,h_putc,beq_self_eq_true,eq_self,exists_eq_left,exists_eq_left',g0,g1,eq_true h1,b1,b2,b3,b4,w1,e_mul,e_rem hd,hl]
      rw [← noClip_enc]
      refine wA_pure rfl (same_pv noClip noClip noClip_tame.1 (chord_tames noClip_tame)) ?_
      simp -implicitDefEqProofs (maxDischargeDepth:=12) only [WW,List.replicate,Option.some_or,s_conv,e_conv,s_slc3,e_cut3,e_cut3n,e_bns,e_bnn,e_splice,if_true,if_false,ite_true,ite_false,true_or,ne_eq,seval,h_putc,beq_self_eq_true,eq_self,exists_eq_left,exists_eq_left']
      exact frz_sc
  simp -implicitDefEqProofs (maxDischargeDepth:=12) only [WW,List.replicate,Option.some_or,s_conv,e_conv,s_slc3,e_cut3,e_cut3n,e_bns,e_bnn,e_splice,if_true,if_false,ite_true,ite_false,true_or,ne_eq,seval,h_putc,beq_self_eq_true,eq_self,exists_eq_left,exists_eq_left',eq_true h1,b1,b2,b3,b4,eq_true w1,e_mul,e_rem hd]
  simp only [h1]
  refine wp_loopY 0 (Inv:=fun k t H => ∃ (i : Nat) (w : Int),i + k = c.notes.l.length∧w = (if (c.notes.l.take i).all (Note.strOk num den) then 0 else 16)∧H.cells 0 = some c.enc.cells∧H.cells 1 = some X.enc.cells∧H.next = 2 ∧
      ∃ y : Nat→AV,t = [c.enc,.sc (.int .i64 num),.sc (.int .i64 den),.ptr 0 0,y 4,y 5,.sc (.bool false),.ptr 1 0,.sc (.int .i64 E),.sc (.int .i64 w),.sc (.int .i64 i),y 11,y 12,y 13,y 14,y 15,y 16,y 17,y 18,y 19,y 20,y 21,y 22,y 23,y 24,y 25,y 26,y 27,y 28,y 29,y 30,y 31,y 32,y 33,y 34,y 35,y 36,y 37,y 38,y 39,y 40,y 41,y 42,y 43,y 44,y 45,y 46,y 47,y 48,y 49,y 50,y 51,y 52,y 53,y 54,y 55,y 56,y 57,y 58,y 59,y 60,y 61,y 62,y 63,y 64,y 65,y 66,y 67,y 68,y 69,y 70,y 71,y 72,y 73,y 74,y 75,y 76,y 77,y 78,y 79,y 80,y 81,y 82,y 83,y 84,y 85,y 86,y 87,y 88,y 89,y 90,y 91,y 92,y 93,y 94,y 95,y 96,y 97,y 98,y 99,y 100,y 101,y 102,y 103,y 104,y 105,y 106,y 107,y 108,y 109,y 110,y 111,y 112,y 113,y 114,y 115,y 116,y 117,y 118,y 119,y 120,y 121,y 122,y 123,y 124,y 125,y 126,y 127,y 128,y 129,y 130,y 131,y 132,y 133,y 134,y 135,y 136,y 137,y 138,y 139,y 140,y 141,y 142,y 143,y 144,y 145,y 146,y 147,y 148,y 149,y 150,y 151,y 152,y 153,y 154,y 155,y 156,y 157,y 158,y 159,y 160,y 161,y 162,y 163,y 164,y 165,y 166,y 167,y 168,y 169])
    (Ex:=fun t H => H.cells 0 = some c.enc.cells∧H.cells 1 = some X.enc.cells∧H.next = 2 ∧
      ∃ y : Nat→AV,t = [c.enc,.sc (.int .i64 num),.sc (.int .i64 den),.ptr 0 0,y 4,y 5,.sc (.bool false),.ptr 1 0,.sc (.int .i64 E),.sc (.int .i64 (if wholeC c num den then 0 else 16)),y 10,y 11,y 12,y 13,y 14,y 15,y 16,y 17,y 18,y 19,y 20,y 21,y 22,y 23,y 24,y 25,y 26,y 27,y 28,y 29,y 30,y 31,y 32,y 33,y 34,y 35,y 36,y 37,y 38,y 39,y 40,y 41,y 42,y 43,y 44,y 45,y 46,y 47,y 48,y 49,y 50,y 51,y 52,y 53,y 54,y 55,y 56,y 57,y 58,y 59,y 60,y 61,y 62,y 63,y 64,y 65,y 66,y 67,y 68,y 69,y 70,y 71,y 72,y 73,y 74,y 75,y 76,y 77,y 78,y 79,y 80,y 81,y 82,y 83,y 84,y 85,y 86,y 87,y 88,y 89,y 90,y 91,y 92,y 93,y 94,y 95,y 96,y 97,y 98,y 99,y 100,y 101,y 102,y 103,y 104,y 105,y 106,y 107,y 108,y 109,y 110,y 111,y 112,y 113,y 114,y 115,y 116,y 117,y 118,y 119,y 120,y 121,y 122,y 123,y 124,y 125,y 126,y 127,y 128,y 129,y 130,y 131,y 132,y 133,y 134,y 135,y 136,y 137,y 138,y 139,y 140,y 141,y 142,y 143,y 144,y 145,y 146,y 147,y 148,y 149,y 150,y 151,y 152,y 153,y 154,y 155,y 156,y 157,y 158,y 159,y 160,y 161,y 162,y 163,y 164,y 165,y 166,y 167,y 168,y 169]) (k:=c.notes.l.length) ?_ ?_ ⟨0,0,by omega,rfl,?_,?_,?_,ex_x rfl⟩
  · rintro k t H ⟨i,w,hk,hw,g0,g1,hN,y,rfl⟩
    have g0':=g0
    simp only [c.enc_eq,c_agg] at g0
    have hall : ∀ j,(c.notes.l.take j).all (Note.strOk num den) = false→wholeC c num den = false:=fun j h => by
      unfold wholeC
      cases h2 : c.notes.l.all (Note.strOk num den) with
      | false => rw [Bool.and_false]
      | true =>
        rw [List.all_eq_true] at h2
        have : (c.notes.l.take j).all (Note.strOk num den) = true:=List.all_eq_true.2 fun x hx => h2 x (List.mem_of_mem_take hx)
        rw [this] at h; cases h
    by_cases c1 : (i : Int) < (c.notes.l.length : Int)
    rotate_left
    · have e : wholeC c num den = (c.notes.l.take i).all (Note.strOk num den):=by
        unfold wholeC strW
        rw [decide_eq_true w1,Bool.true_and,List.take_of_length_le (by omega)]
      rw [e,← hw]
      simp -implicitDefEqProofs (maxDischargeDepth:=12) only [WW,List.replicate,Option.some_or,s_conv,e_conv,s_slc3,e_cut3,e_cut3n,e_bns,e_bnn,e_splice,if_true,if_false,ite_true,ite_false,true_or,ne_eq,seval,h_putc,beq_self_eq_true,eq_self,exists_eq_left,exists_eq_left',g0,c1]
      exact ⟨rfl,g1,hN,ex_x rfl⟩
    cases ha : (c.notes.l.take i).all (Note.strOk num den) with
    | false =>
      rw [ha,if_neg (by simp)] at hw; subst hw
      rw [hall i ha]
      simp -implicitDefEqProofs (maxDischargeDepth:=12) only [WW,List.replicate,Option.some_or,s_conv,e_conv,s_slc3,e_cut3,e_cut3n,e_bns,e_bnn,e_splice,if_true,if_false,ite_true,ite_false,true_or,ne_eq,seval,h_putc,beq_self_eq_true,eq_self,exists_eq_left,exists_eq_left',g0,c1]
      exact ⟨rfl,g1,hN,ex_x rfl⟩
    | true =>
      rw [ha,if_pos rfl] at hw; subst hw
      obtain ⟨x,hx⟩ : ∃ x,c.notes.l[i]? = some x:=⟨_,List.getElem?_eq_getElem (by omega)⟩
      have e2 : IntKind.i64.wrap ((i : Int) + 1) = ((i + 1 : Nat) : Int):=by rw [w64 (by omega) (by have:=tc.1; omega)]; omega
      by_cases s1 : (IntKind.i64.wrap (x.at_ * num)).tmod den = 0
      rotate_left
      · simp -implicitDefEqProofs (maxDischargeDepth:=12) only [WW,List.replicate,Option.some_or,s_conv,e_conv,s_slc3,e_cut3,e_cut3n,e_bns,e_bnn,e_splice,if_true,if_false,ite_true,ite_false,true_or,ne_eq,seval,h_putc,beq_self_eq_true,eq_self,exists_eq_left,exists_eq_left',g0,c1,hx,x.enc_eq,e_mul,e_rem hd,s1,e2]
        exact ⟨k - 1,by omega,i + 1,16,by omega,by rw [all_take hx ha]; unfold Note.strOk strW; rw [decide_eq_false s1]; rfl,rfl,g1,hN,ex_x rfl⟩
      by_cases s2 : (IntKind.i64.wrap (x.len * num)).tmod den = 0
      · simp -implicitDefEqProofs (maxDischargeDepth:=12) only [WW,List.replicate,Option.some_or,s_conv,e_conv,s_slc3,e_cut3,e_cut3n,e_bns,e_bnn,e_splice,if_true,if_false,ite_true,ite_false,true_or,ne_eq,seval,h_putc,beq_self_eq_true,eq_self,exists_eq_left,exists_eq_left',g0,c1,hx,x.enc_eq,e_mul,e_rem hd,eq_true s1,eq_true s2,e2]
        exact ⟨k - 1,by omega,i + 1,0,by omega,by rw [all_take hx ha]; unfold Note.strOk strW; rw [decide_eq_true s1,decide_eq_true s2]; rfl,rfl,g1,hN,ex_x rfl⟩
      · simp -implicitDefEqProofs (maxDischargeDepth:=12) only [WW,List.replicate,Option.some_or,s_conv,e_conv,s_slc3,e_cut3,e_cut3n,e_bns,e_bnn,e_splice,if_true,if_false,ite_true,ite_false,true_or,ne_eq,seval,h_putc,beq_self_eq_true,eq_self,exists_eq_left,exists_eq_left',g0,c1,hx,x.enc_eq,e_mul,e_rem hd,eq_true s1,s2,e2]
        exact ⟨k - 1,by omega,i + 1,16,by omega,by rw [all_take hx ha]; unfold Note.strOk strW; rw [decide_eq_true s1,decide_eq_false s2]; rfl,rfl,g1,hN,ex_x rfl⟩
  · rintro t H ⟨g0,g1,hN,y,rfl⟩
    simp only [c.enc_eq,X.enc_eq,c_agg] at g0 g1
    cases hw : wholeC c num den with
    | false =>
      rw [if_pos hw] at hE; subst hE
      have hXv : X = noClip:=by rw [hXd,if_neg (by decide)]
      simp -implicitDefEqProofs (maxDischargeDepth:=12) only [WW,List.replicate,Option.some_or,s_conv,e_conv,s_slc3,e_cut3,e_cut3n,e_bns,e_bnn,e_splice,if_true,if_false,ite_true,ite_false,true_or,ne_eq,seval,h_putc,beq_self_eq_true,eq_self,exists_eq_left,exists_eq_left',g0,g1]
      rw [← X.enc_eq,hXv]
      refine wA_pure rfl (same_pv noClip noClip noClip_tame.1 (chord_tames noClip_tame)) ?_
      simp -implicitDefEqProofs (maxDischargeDepth:=12) only [WW,List.replicate,Option.some_or,s_conv,e_conv,s_slc3,e_cut3,e_cut3n,e_bns,e_bnn,e_splice,if_true,if_false,ite_true,ite_false,true_or,ne_eq,seval,h_putc,beq_self_eq_true,eq_self,exists_eq_left,exists_eq_left']
      exact frz_sc
    | true =>
      rw [if_neg (by rw [hw]; simp)] at hE
      by_cases d1 : 123863040 < strQ num den c.len
      · rw [if_pos d1] at hE; subst hE
        have hXv : X = noClip:=by rw [hXd,if_neg (by decide)]
        unfold strQ at d1
        simp -implicitDefEqProofs (maxDischargeDepth:=12) only [WW,List.replicate,Option.some_or,s_conv,e_conv,s_slc3,e_cut3,e_cut3n,e_bns,e_bnn,e_splice,if_true,if_false,ite_true,ite_false,true_or,ne_eq,seval,h_putc,beq_self_eq_true,eq_self,exists_eq_left,exists_eq_left',g0,g1,e_mul,e_quo hd,d1]
        rw [← X.enc_eq,hXv]
        refine wA_pure rfl (same_pv noClip noClip noClip_tame.1 (chord_tames noClip_tame)) ?_
        simp -implicitDefEqProofs (maxDischargeDepth:=12) only [WW,List.replicate,Option.some_or,s_conv,e_conv,s_slc3,e_cut3,e_cut3n,e_bns,e_bnn,e_splice,if_true,if_false,ite_true,ite_false,true_or,ne_eq,seval,h_putc,beq_self_eq_true,eq_self,exists_eq_left,exists_eq_left']
        exact frz_sc
      rw [if_neg d1] at hE; subst hE
      rw [if_pos rfl] at hXd
      unfold strQ at d1
      simp -implicitDefEqProofs (maxDischargeDepth:=12) only [WW,List.replicate,Option.some_or,s_conv,e_conv,s_slc3,e_cut3,e_cut3n,e_bns,e_bnn,e_splice,if_true,if_false,ite_true,ite_false,true_or,ne_eq,seval,h_putc,beq_self_eq_true,eq_self,exists_eq_left,exists_eq_left',g0,g1,e_mul,e_quo hd,d1,hN]
      generalize hHa : AHeap.alloc _ _ = Ha
      have a0:=congrArg (fun H => AHeap.cells H 0) hHa
      have a1:=congrArg (fun H => AHeap.cells H 1) hHa
      have a2:=congrArg (fun H => AHeap.cells H 2) hHa
      have a3:=congrArg (fun H => AHeap.cells H 3) hHa
      have na : Ha.next = 4:=by subst hHa; simp only [AHeap.next_alloc,hN]
      simp -implicitDefEqProofs (maxDischargeDepth:=12) only [WW,List.replicate,Option.some_or,s_conv,e_conv,s_slc3,e_cut3,e_cut3n,e_bns,e_bnn,e_splice,if_true,if_false,ite_true,ite_false,true_or,ne_eq,seval,h_putc,beq_self_eq_true,eq_self,exists_eq_left,exists_eq_left',hN,g0,g1] at a0 a1 a2 a3
      replace a0:=a0.symm
      replace a1:=a1.symm
      replace a2:=a2.symm
      replace a3:=a3.symm
      clear hHa
      refine wA_appC row_Note (fun _ => rfl) a2 tc.1 (by decide) ?_
      intro v' H1 fp' q1 q2 q3 q4 q5 q6
      have z0:=(q3 0 (by decide) (by omega)).trans a0
      have z1:=(q3 1 (by decide) (by omega)).trans a1
      have z3:=(q3 3 (by decide) (by omega)).trans a3
      simp -implicitDefEqProofs (maxDischargeDepth:=12) only [WW,List.replicate,Option.some_or,s_conv,e_conv,s_slc3,e_cut3,e_cut3n,e_bns,e_bnn,e_splice,if_true,if_false,ite_true,ite_false,true_or,ne_eq,seval,h_putc,beq_self_eq_true,eq_self,exists_eq_left,exists_eq_left',a0,z0,z3,q5,q6]
      refine wp_loop (Inv:=fun k t H => ∃ (i : Nat) (fp : List Nat),i + k = c.notes.l.length∧H.cells 1 = some X.enc.cells∧H.cells 3 = some [.sc (.int .i64 (strQ num den c.len)),v']∧AccQ NoteC 8 H v' (some (mapTo (Note.str num den) i c.notes.l)) fp∧(∀ b ∈ fp,b = 2 ∨ 4 ≤ b) ∧
        ∃ y : Nat→AV,t = [c.enc,.sc (.int .i64 num),.sc (.int .i64 den),y 3,y 4,y 5,.sc (.bool false),.ptr 1 0,.sc (.int .i64 0),.sc (.int .i64 0),y 10,.ptr 3 0,.sc (.int .i64 i),y 13,y 14,y 15,y 16,y 17,y 18,y 19,y 20,y 21,y 22,y 23,y 24,y 25,y 26,y 27,y 28,y 29,y 30,y 31,y 32,y 33,y 34,y 35,y 36,y 37,y 38,y 39,y 40,y 41,y 42,y 43,y 44,y 45,y 46,y 47,y 48,y 49,y 50,y 51,y 52,y 53,y 54,y 55,y 56,y 57,y 58,y 59,y 60,y 61,y 62,y 63,y 64,y 65,y 66,y 67,y 68,y 69,y 70,y 71,y 72,y 73,y 74,y 75,y 76,y 77,y 78,y 79,y 80,y 81,y 82,y 83,y 84,y 85,y 86,y 87,y 88,y 89,y 90,y 91,y 92,y 93,y 94,y 95,y 96,y 97,y 98,y 99,y 100,y 101,y 102,y 103,y 104,y 105,y 106,y 107,y 108,y 109,y 110,y 111,y 112,y 113,y 114,y 115,y 116,y 117,y 118,y 119,y 120,y 121,y 122,y 123,y 124,y 125,y 126,y 127,y 128,y 129,y 130,y 131,y 132,y 133,y 134,y 135,y 136,y 137,y 138,y 139,y 140,y 141,y 142,y 143,y 144,y 145,y 146,y 147,y 148,y 149,y 150,y 151,y 152,y 153,y 154,y 155,y 156,y 157,y 158,y 159,y 160,y 161,y 162,y 163,y 164,y 165,y 166,y 167,y 168,y 169]) (k:=c.notes.l.length) ?_ ⟨0,fp',by omega,?_,?_,?_,fun b hb => by rcases q4 b hb with h | h <;> omega,ex_x rfl⟩
      rotate_left
      · rw [c_put_ne (by decide),z1,X.enc_eq]; rfl
      · simp -implicitDefEqProofs (maxDischargeDepth:=12) only [WW,List.replicate,Option.some_or,s_conv,e_conv,s_slc3,e_cut3,e_cut3n,e_bns,e_bnn,e_splice,if_true,if_false,ite_true,ite_false,true_or,ne_eq,seval,h_putc,beq_self_eq_true,eq_self,exists_eq_left,exists_eq_left',z3]; rfl
      · rw [mapTo_zero]
        exact q1.fr noteC fun b hb => c_put_ne (by rcases q4 b hb with h | h <;> omega)
      clear q1 q2 q3 q4 q5 q6 z0 z1 z3 a0 a1 a2 a3 na Ha H1 fp' g0 g1 hN y H
      rintro k t H ⟨i,fp,hk,g1,g3,hA,hfp,y,rfl⟩
      have hl:=hA.length.1
      simp only [l_some,mapTo_len] at hl
      by_cases c1 : (i : Int) < (c.notes.l.length : Int)
      rotate_left
      · rw [mapTo_all (by omega)] at hA
        have ho:=hA.one
        obtain ⟨f,o1,o2⟩:=hA.own noteC
        simp only [X.enc_eq,c_agg] at g1
        simp -implicitDefEqProofs (maxDischargeDepth:=12) only [WW,List.replicate,Option.some_or,s_conv,e_conv,s_slc3,e_cut3,e_cut3n,e_bns,e_bnn,e_splice,if_true,if_false,ite_true,ite_false,true_or,ne_eq,seval,h_putc,beq_self_eq_true,eq_self,exists_eq_left,exists_eq_left',c1,g1,g3,hl,ho.1,ho.2]
        have oY : Own 20 H (.agg [.sc (.int .i64 (strQ num den c.len)),v']) (Clip.enc ⟨strQ num den c.len,some (c.notes.l.map (Note.str num den))⟩) ([] ++ (f ++ [])):=⟨_,rfl,.cons .scal (.cons (o1.mono (by decide)) .nil Apart.nil_right) Apart.nil_left⟩
        refine wA_own rfl (.cons (own_closed (d:=18) (cs:=X.enc.cells) (Clip.enc_plain X)) (.cons oY .nil Apart.nil_right) Apart.nil_left) (same_pv X ⟨strQ num den c.len,some (c.notes.l.map (Note.str num den))⟩ hX.1 (chord_tames hX)) ?_
        rw [decide_eq_true (Clip.cn_iff.2 (by rw [hXd]; exact ⟨rfl,by rw [l_of]; rfl⟩))]
        simp -implicitDefEqProofs (maxDischargeDepth:=12) only [WW,List.replicate,Option.some_or,s_conv,e_conv,s_slc3,e_cut3,e_cut3n,e_bns,e_bnn,e_splice,if_true,if_false,ite_true,ite_false,true_or,ne_eq,seval,h_putc,beq_self_eq_true,eq_self,exists_eq_left,exists_eq_left']
        exact frz_sc
      obtain ⟨x,hx⟩ : ∃ x,c.notes.l[i]? = some x:=⟨_,List.getElem?_eq_getElem (by omega)⟩
      have e2 : IntKind.i64.wrap ((i : Int) + 1) = ((i + 1 : Nat) : Int):=by rw [w64 (by omega) (by have:=tc.1; omega)]; omega
      obtain ⟨b,cap,cs,r,g,r1,r2,r3,r4,r5,r6,r7,r8,r9,r10,r11⟩:=hA.cell noteC (i:=i) (x:=x) (by rw [l_some]; exact mapTo_get hx)
      obtain ⟨rfl,rfl⟩:=r6
      simp only [l_some,mapTo_len] at r1
      subst r1
      have n3 : ¬ 3 = b:=by rcases hfp b r7 with h | h <;> omega
      have n3' : ¬ b = 3:=fun h => n3 h.symm
      have n1' : ¬ 1 = b:=by rcases hfp b r7 with h | h <;> omega
      have s0 : cs[i * 8]? = some (.sc (.int .i64 x.at_)):=r4 0 _ rfl
      have s1 : cs[i * 8 + 1]? = some (.sc (.int .i64 x.len)):=r4 1 _ rfl
      have il : i < c.notes.l.length:=by omega
      have l0 : i * 8 + 1 ≤ cs.length:=by omega
      have l1 : i * 8 + 1 + 1 ≤ cs.length:=by omega
      have sl : ∀ w,(splice cs (i * 8) [w]).length = cs.length:=fun w => by rw [splice_set l0,List.length_set]
      obtain ⟨f1,p1,p2⟩:=r10 0 (.sc (.int .i64 (strQ num den x.at_))) { x with at_:=strQ num den x.at_ } (by decide) (fun H' _ => ⟨rfl,rfl⟩)
      obtain ⟨b',cap',cs',r',g',t1,t2,t3,t4,t5,t6,t7,t8,t9,t10,t11⟩:=p1.cell noteC (i:=i) (x:={ x with at_:=strQ num den x.at_ }) (by rw [l_some,List.getElem?_set_self (by rw [l_some,mapTo_len]; exact il)])
      obtain ⟨rfl,rfl⟩:=t6
      simp only [l_some,List.length_set,mapTo_len,AV.slice.injEq,true_and,and_true] at t1
      obtain ⟨rfl,rfl⟩:=t1
      rw [h_put_self r2,Option.some.injEq] at t2
      obtain ⟨f2,u1,u2⟩:=t10 1 (.sc (.int .i64 (strQ num den x.len))) (x.str num den) (by decide) (fun H' _ => ⟨rfl,rfl⟩)
      subst t2
      unfold strQ
      simp -implicitDefEqProofs (maxDischargeDepth:=12) only [WW,List.replicate,Option.some_or,s_conv,e_conv,s_slc3,e_cut3,e_cut3n,e_bns,e_bnn,if_true,if_false,ite_true,ite_false,true_or,ne_eq,seval,beq_self_eq_true,eq_self,exists_eq_left,exists_eq_left',c1,g3,r2,s0,s1,n3,n3',il,l0,l1,sl,e_mul,e_quo hd,e2]
      have c3 : ∀ z,(H.put b (some (.cells z))).cells 3 = H.cells 3:=fun z => c_put_ne n3
      have c1x : ∀ z,(H.put b (some (.cells z))).cells 1 = H.cells 1:=fun z => c_put_ne n1'
      have cb : ∀ z,(H.put b (some (.cells z))).cells b = some z:=fun z => h_put_self r2
      simp -implicitDefEqProofs (maxDischargeDepth:=12) only [WW,List.replicate,Option.some_or,s_conv,e_conv,s_slc3,e_cut3,e_cut3n,e_bns,e_bnn,if_true,if_false,ite_true,ite_false,true_or,ne_eq,seval,beq_self_eq_true,eq_self,exists_eq_left,exists_eq_left',c3,cb,g3,s1,il,l0,l1,sl,e_mul,e_quo hd,e2]
      refine ⟨k - 1,by omega,i + 1,f2,by omega,?_,?_,?_,fun q hq => hfp q (p2 q (u2 q hq)),ex_x rfl⟩
      · rw [c_put_ne n1',c1x]; exact g1
      · rw [c_put_ne n3,c3]; exact g3
      · simp only [l_some,List.set_set] at u1
        rw [mapTo_set (f:=Note.str num den) hx] at u1
        exact u1
  · simp -implicitDefEqProofs (maxDischargeDepth:=12) only [WW,List.replicate,Option.some_or,s_conv,e_conv,s_slc3,e_cut3,e_cut3n,e_bns,e_bnn,e_splice,if_true,if_false,ite_true,ite_false,true_or,ne_eq,seval,h_putc,beq_self_eq_true,eq_self,exists_eq_left,exists_eq_left',c.enc_eq]
  · simp -implicitDefEqProofs (maxDischargeDepth:=12) only [WW,List.replicate,Option.some_or,s_conv,e_conv,s_slc3,e_cut3,e_cut3n,e_bns,e_bnn,e_splice,if_true,if_false,ite_true,ite_false,true_or,ne_eq,seval,h_putc,beq_self_eq_true,eq_self,exists_eq_left,exists_eq_left',X.enc_eq]
  · simp only [AHeap.next_put,AHeap.next_alloc]
end
end Go.Hem
