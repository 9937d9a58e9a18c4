/- Walks. -/
import Derived.Test.YtipbkcegnkpcmaaWalks0
set_option maxRecDepth 10000
set_option maxHeartbeats 4000000
set_option linter.unusedSimpArgs false
set_option linter.unusedVariables false
namespace Go.Hem
noncomputable section
open Classical in
def sylE (s : Syllable) : Int:=if h : ∃ e : Int,Pv prog polS 84 [s.enc] (.sc (.int .i64 e)) then h.choose else 0
theorem sylE_pv {s : Syllable} (hs : s.text.size < 1000000) : Pv prog polS 84 [s.enc] (.sc (.int .i64 (sylE s))):=by
  have h:=syl_pv s hs
  unfold sylE
  rw [dif_pos h]
  exact h.choose_spec
def Syllable.absentB (s : Syllable) : Bool:=decide (s = ⟨⟨#[]⟩,0⟩)
theorem absent_pv (s : Syllable) : Pv prog polS 85 [s.enc] (.sc (.bool s.absentB)):=by
  refine Pv_of' ok85 (by simp only [AV.closedBs,Syllable.enc_closed,Bool.and_self]) ?_
  have e:=syl_eq (a:=s) (b:=⟨⟨#[]⟩,0⟩)
  simp -implicitDefEqProofs (maxDischargeDepth:=12) only [wpF,cf85,WW,List.replicate,Option.some_or,s_conv,e_conv,s_slc3,e_cut3,e_cut3n,e_bns,e_bnn,e_splice,if_true,if_false,ite_true,ite_false,true_or,ne_eq,seval,h_putc,beq_self_eq_true,eq_self,exists_eq_left,exists_eq_left',s.enc_eq,e]
  exact frz_sc
def lastE (l : List Syllable) : Int:=match l.getLast? with
  | some x => if x.absentB = true then 3 else 0
  | none => 0
def lyricsE (l : List Syllable) : Int:=if 4 < l.length then 9 else if firstE (l.map sylE) ≠ 0 then firstE (l.map sylE) else lastE l
theorem getLast_at' {α : Type} {l : List α} (h : 0 < l.length) : ∃ a,l.getLast? = some a∧l[l.length - 1]? = some a:=by
  obtain ⟨a,ha⟩ : ∃ a,l.getLast? = some a:=by
    cases e : l.getLast? with
    | none => rw [List.getLast?_eq_none_iff] at e; subst e; simp at h
    | some a => exact ⟨a,rfl⟩
  exact ⟨a,ha,getLast_at ha⟩
theorem lyrics_pv (s : Sl Syllable) (hs : s.l.length < 1000000) (ht : ∀ x ∈ s.l,x.text.size < 1000000) : Pv prog polS 64 [slm Syllable.enc s] (.sc (.int .i64 (lyricsE s.l))):=by
  refine Pv_of' ok64 (by simp only [AV.closedBs,closedB_slm Syllable.enc_closed,Bool.and_self]) ?_
  generalize hr : lyricsE s.l = r
  unfold lyricsE at hr
  by_cases h2 : 4 < s.l.length
  · rw [if_pos h2] at hr; subst hr
    have h2' : (4 : Int) < (s.l.length : Int):=by omega
    simp -implicitDefEqProofs (maxDischargeDepth:=12) only [wpF,cf64,WW,List.replicate,Option.some_or,s_conv,e_conv,s_slc3,e_cut3,e_cut3n,e_bns,e_bnn,e_splice,if_true,if_false,ite_true,ite_false,true_or,ne_eq,seval,h_putc,beq_self_eq_true,eq_self,exists_eq_left,exists_eq_left',h2']
    exact frz_sc
  rw [if_neg h2] at hr
  have h2' : ¬ (4 : Int) < (s.l.length : Int):=by omega
  simp -implicitDefEqProofs (maxDischargeDepth:=12) only [wpF,cf64,WW,List.replicate,Option.some_or,s_conv,e_conv,s_slc3,e_cut3,e_cut3n,e_bns,e_bnn,e_splice,if_true,if_false,ite_true,ite_false,true_or,ne_eq,seval,h_putc,beq_self_eq_true,eq_self,exists_eq_left,exists_eq_left',h2']
  refine wp_loop (Inv:=fun k t H => ∃ (i : Nat),i + k = s.l.length∧firstE ((s.l.drop i).map sylE) = firstE (s.l.map sylE) ∧
    ∃ x : Nat→AV,t = [slm Syllable.enc s,x 1,x 2,x 3,x 4,x 5,x 6,x 7,x 8,x 9,slm Syllable.enc s,.sc (.int .i64 s.l.length),.sc (.int .i64 i),x 13,x 14,x 15,x 16,x 17,x 18,x 19,x 20,x 21,x 22,x 23,x 24,x 25,x 26,x 27,x 28,x 29,x 30,x 31,x 32,x 33]) (k:=s.l.length) ?_
    ⟨0,by omega,rfl,ex_x rfl⟩
  rintro k t H ⟨i,hk,hf,x,rfl⟩
  by_cases c1 : (i : Int) < (s.l.length : Int)
  · obtain ⟨y,hy⟩ : ∃ y,s.l[i]? = some y:=⟨_,List.getElem?_eq_getElem (by omega)⟩
    have e2 : IntKind.i64.wrap ((i : Int) + 1) = ((i + 1 : Nat) : Int):=by rw [w64 (by omega) (by omega)]; omega
    rw [drop_cons hy,List.map_cons] at hf
    simp only [firstE] at hf
    simp -implicitDefEqProofs (maxDischargeDepth:=12) only [WW,List.replicate,Option.some_or,s_conv,e_conv,s_slc3,e_cut3,e_cut3n,e_bns,e_bnn,e_splice,if_true,if_false,ite_true,ite_false,true_or,ne_eq,seval,h_putc,beq_self_eq_true,eq_self,exists_eq_left,exists_eq_left',c1,hy,y.enc_eq]
    rw [← y.enc_eq]
    refine wA_pure rfl (sylE_pv (ht y (List.mem_of_getElem? hy))) ?_
    by_cases c2 : sylE y = 0
    · rw [if_pos c2] at hf
      simp -implicitDefEqProofs (maxDischargeDepth:=12) only [WW,List.replicate,Option.some_or,s_conv,e_conv,s_slc3,e_cut3,e_cut3n,e_bns,e_bnn,e_splice,if_true,if_false,ite_true,ite_false,true_or,ne_eq,seval,h_putc,beq_self_eq_true,eq_self,exists_eq_left,exists_eq_left',c2,e2]
      exact ⟨k - 1,by omega,i + 1,by omega,hf,ex_x rfl⟩
    · rw [if_neg c2] at hf
      rw [← hf,if_pos c2] at hr; subst hr
      simp -implicitDefEqProofs (maxDischargeDepth:=12) only [WW,List.replicate,Option.some_or,s_conv,e_conv,s_slc3,e_cut3,e_cut3n,e_bns,e_bnn,e_splice,if_true,if_false,ite_true,ite_false,true_or,ne_eq,seval,h_putc,beq_self_eq_true,eq_self,exists_eq_left,exists_eq_left',c2]
      exact frz_sc
  · rw [drop_end c1] at hf
    have hf0 : firstE (s.l.map sylE) = 0:=hf.symm
    rw [hf0,if_neg (by simp)] at hr
    by_cases h0 : 0 < s.l.length
    · obtain ⟨a,ha,hat⟩:=getLast_at' h0
      have hr' : (if a.absentB = true then (3 : Int) else 0) = r:=by rw [← hr]; unfold lastE; rw [ha]
      have ei : IntKind.i64.wrap ((s.l.length : Int) - 1) = ((s.l.length - 1 : Nat) : Int):=by rw [w64 (by omega) (by omega)]; omega
      have h0' : (0 : Int) < (s.l.length : Int):=by omega
      simp -implicitDefEqProofs (maxDischargeDepth:=12) only [WW,List.replicate,Option.some_or,s_conv,e_conv,s_slc3,e_cut3,e_cut3n,e_bns,e_bnn,e_splice,if_true,if_false,ite_true,ite_false,true_or,ne_eq,seval,h_putc,beq_self_eq_true,eq_self,exists_eq_left,exists_eq_left',c1,h0',ei,hat,a.enc_eq]
      rw [← a.enc_eq]
      refine wA_pure rfl (absent_pv a) ?_
      cases hab : a.absentB with
      | true =>
        rw [hab,if_pos rfl] at hr'; subst hr'
        simp -implicitDefEqProofs (maxDischargeDepth:=12) only [WW,List.replicate,Option.some_or,s_conv,e_conv,s_slc3,e_cut3,e_cut3n,e_bns,e_bnn,e_splice,if_true,if_false,ite_true,ite_false,true_or,ne_eq,seval,h_putc,beq_self_eq_true,eq_self,exists_eq_left,exists_eq_left']
        exact frz_sc
      | false =>
        rw [hab,if_neg (by simp)] at hr'; subst hr'
        simp -implicitDefEqProofs (maxDischargeDepth:=12) only [WW,List.replicate,Option.some_or,s_conv,e_conv,s_slc3,e_cut3,e_cut3n,e_bns,e_bnn,e_splice,if_true,if_false,ite_true,ite_false,true_or,ne_eq,seval,h_putc,beq_self_eq_true,eq_self,exists_eq_left,exists_eq_left']
        exact frz_sc
    · have hl : s.l = []:=List.length_eq_zero_iff.1 (by omega)
      have h0' : ¬ (0 : Int) < (s.l.length : Int):=by omega
      rw [hl] at hr
      have hr' : (0 : Int) = r:=hr
      subst hr'
      simp -implicitDefEqProofs (maxDischargeDepth:=12) only [WW,List.replicate,Option.some_or,s_conv,e_conv,s_slc3,e_cut3,e_cut3n,e_bns,e_bnn,e_splice,if_true,if_false,ite_true,ite_false,true_or,ne_eq,seval,h_putc,beq_self_eq_true,eq_self,exists_eq_left,exists_eq_left',c1,h0']
      exact frz_sc
def chordE (x : Note) : Int :=
  if firstE [headsE x.heads.l,gracesE x.graces.l,lyricsE x.lyrics.l] ≠ 0 then firstE [headsE x.heads.l,gracesE x.graces.l,lyricsE x.lyrics.l]
  else firstE [within x.articulations 31,within x.ornament 4,within x.dynamic 9,within 0 2,within 0 2]
theorem exists_pv : Pv prog polS 58 [.sc (.int .i64 1)] (.sc (.bool true)):=by
  refine Pv_of' ok58 rfl ?_
  simp -implicitDefEqProofs (maxDischargeDepth:=12) only [wpF,cf58,WW,List.replicate,Option.some_or,s_conv,e_conv,s_slc3,e_cut3,e_cut3n,e_bns,e_bnn,e_splice,if_true,if_false,ite_true,ite_false,true_or,ne_eq,seval,h_putc,beq_self_eq_true,eq_self,exists_eq_left,exists_eq_left']
  exact frz_sc
theorem dur_pv : Pv prog polS 61 [.agg [.sc (.int .i64 0),.sc (.int .i64 0)]] (.sc (.int .i64 0)):=by
  refine Pv_of' ok61 rfl ?_
  simp -implicitDefEqProofs (maxDischargeDepth:=12) only [wpF,cf61,WW,List.replicate,Option.some_or,s_conv,e_conv,s_slc3,e_cut3,e_cut3n,e_bns,e_bnn,e_splice,if_true,if_false,ite_true,ite_false,true_or,ne_eq,seval,h_putc,beq_self_eq_true,eq_self,exists_eq_left,exists_eq_left']
  exact frz_sc
theorem strip_pv (x : Note) : Pv prog polS 60 [x.chord.enc] x.chord.enc:=by
  refine Pv_of' ok60 (by simp only [AV.closedBs,Event.enc_closed,Bool.and_self]) ?_
  have ec : x.chord.enc = .agg [.sc (.int .i64 0),.sc (.int .i64 0),.sc (.int .i64 1),.sc (.int .i64 0),.sc (.int .i64 0),slm Head.enc x.heads,slm Grace.enc x.graces,.sc (.int .i64 x.articulations),.sc (.int .i64 x.ornament),.sc (.int .i64 x.dynamic),slm Syllable.enc x.lyrics,.sc (.int .i64 0),.sc (.int .i64 0)]:=rfl
  have hp : AV.plain x.chord.enc = true:=Event.enc_plain x.chord
  rw [ec] at hp
  simp -implicitDefEqProofs (maxDischargeDepth:=12) only [wpF,cf60,WW,List.replicate,Option.some_or,s_conv,e_conv,s_slc3,e_cut3,e_cut3n,e_bns,e_bnn,e_splice,if_true,if_false,ite_true,ite_false,true_or,ne_eq,seval,h_putc,beq_self_eq_true,eq_self,exists_eq_left,exists_eq_left',ec]
  exact frz_plain rfl hp
theorem echeck_pv (x : Note) (tx : x.tame) : Pv prog polS 31 [x.chord.enc] (.sc (.int .i64 (chordE x))):=by
  refine Pv_of' ok31 (by simp only [AV.closedBs,Event.enc_closed,Bool.and_self]) ?_
  generalize hr : chordE x = r
  unfold chordE at hr
  have ec : x.chord.enc = .agg [.sc (.int .i64 0),.sc (.int .i64 0),.sc (.int .i64 1),.sc (.int .i64 0),.sc (.int .i64 0),slm Head.enc x.heads,slm Grace.enc x.graces,.sc (.int .i64 x.articulations),.sc (.int .i64 x.ornament),.sc (.int .i64 x.dynamic),slm Syllable.enc x.lyrics,.sc (.int .i64 0),.sc (.int .i64 0)]:=rfl
  have w0 : within 0 99 = 0:=rfl
  have w1 : within 0 1073741824 = 0:=rfl
  have f0 : firstE [0,0] = 0:=rfl
  simp -implicitDefEqProofs (maxDischargeDepth:=12) only [wpF,cf31,WW,List.replicate,Option.some_or,s_conv,e_conv,s_slc3,e_cut3,e_cut3n,e_bns,e_bnn,e_splice,if_true,if_false,ite_true,ite_false,true_or,ne_eq,seval,h_putc,beq_self_eq_true,eq_self,exists_eq_left,exists_eq_left',ec]
  refine wA_pure rfl (within_pv _ _) ?_
  simp -implicitDefEqProofs (maxDischargeDepth:=12) only [WW,List.replicate,Option.some_or,s_conv,e_conv,s_slc3,e_cut3,e_cut3n,e_bns,e_bnn,e_splice,if_true,if_false,ite_true,ite_false,true_or,ne_eq,seval,h_putc,beq_self_eq_true,eq_self,exists_eq_left,exists_eq_left',ec]
  refine wA_pure rfl (within_pv _ _) ?_
  simp -implicitDefEqProofs (maxDischargeDepth:=12) only [WW,List.replicate,Option.some_or,s_conv,e_conv,s_slc3,e_cut3,e_cut3n,e_bns,e_bnn,e_splice,if_true,if_false,ite_true,ite_false,true_or,ne_eq,seval,h_putc,beq_self_eq_true,eq_self,exists_eq_left,exists_eq_left',ec,w0,w1]
  refine wA_first (l:=[0,0]) rfl ?_ (by simp) ?_
  · simp -implicitDefEqProofs (maxDischargeDepth:=12) only [WW,List.replicate,Option.some_or,s_conv,e_conv,s_slc3,e_cut3,e_cut3n,e_bns,e_bnn,e_splice,if_true,if_false,ite_true,ite_false,true_or,ne_eq,seval,h_putc,beq_self_eq_true,eq_self,exists_eq_left,exists_eq_left']; rfl
  simp -implicitDefEqProofs (maxDischargeDepth:=12) only [WW,List.replicate,Option.some_or,s_conv,e_conv,s_slc3,e_cut3,e_cut3n,e_bns,e_bnn,e_splice,if_true,if_false,ite_true,ite_false,true_or,ne_eq,seval,h_putc,beq_self_eq_true,eq_self,exists_eq_left,exists_eq_left',ec,f0]
  refine wA_pure rfl exists_pv ?_
  simp -implicitDefEqProofs (maxDischargeDepth:=12) only [WW,List.replicate,Option.some_or,s_conv,e_conv,s_slc3,e_cut3,e_cut3n,e_bns,e_bnn,e_splice,if_true,if_false,ite_true,ite_false,true_or,ne_eq,seval,h_putc,beq_self_eq_true,eq_self,exists_eq_left,exists_eq_left',ec]
  rw [← ec]
  refine wA_pure rfl (strip_pv x) ?_
  simp -implicitDefEqProofs (maxDischargeDepth:=12) only [WW,List.replicate,Option.some_or,s_conv,e_conv,s_slc3,e_cut3,e_cut3n,e_bns,e_bnn,e_splice,if_true,if_false,ite_true,ite_false,true_or,ne_eq,seval,h_putc,beq_self_eq_true,eq_self,exists_eq_left,exists_eq_left',ec]
  rw [← ec]
  refine wA_pure rfl (eSame_pv x.chord x.chord (Note.chord_tame tx)) ?_
  have es : decide (x.chord.noid = x.chord.noid) = true:=decide_eq_true rfl
  simp -implicitDefEqProofs (maxDischargeDepth:=12) only [WW,List.replicate,Option.some_or,s_conv,e_conv,s_slc3,e_cut3,e_cut3n,e_bns,e_bnn,e_splice,if_true,if_false,ite_true,ite_false,true_or,ne_eq,seval,h_putc,beq_self_eq_true,eq_self,exists_eq_left,exists_eq_left',ec,es]
  refine wA_pure rfl dur_pv ?_
  simp -implicitDefEqProofs (maxDischargeDepth:=12) only [WW,List.replicate,Option.some_or,s_conv,e_conv,s_slc3,e_cut3,e_cut3n,e_bns,e_bnn,e_splice,if_true,if_false,ite_true,ite_false,true_or,ne_eq,seval,h_putc,beq_self_eq_true,eq_self,exists_eq_left,exists_eq_left',ec]
  refine wA_pure rfl (heads_pv x.heads tx.heads) ?_
  simp -implicitDefEqProofs (maxDischargeDepth:=12) only [WW,List.replicate,Option.some_or,s_conv,e_conv,s_slc3,e_cut3,e_cut3n,e_bns,e_bnn,e_splice,if_true,if_false,ite_true,ite_false,true_or,ne_eq,seval,h_putc,beq_self_eq_true,eq_self,exists_eq_left,exists_eq_left',ec]
  refine wA_pure rfl (graces_pv x.graces tx.graces) ?_
  simp -implicitDefEqProofs (maxDischargeDepth:=12) only [WW,List.replicate,Option.some_or,s_conv,e_conv,s_slc3,e_cut3,e_cut3n,e_bns,e_bnn,e_splice,if_true,if_false,ite_true,ite_false,true_or,ne_eq,seval,h_putc,beq_self_eq_true,eq_self,exists_eq_left,exists_eq_left',ec]
  refine wA_pure rfl (lyrics_pv x.lyrics tx.lyrics tx.text) ?_
  simp -implicitDefEqProofs (maxDischargeDepth:=12) only [WW,List.replicate,Option.some_or,s_conv,e_conv,s_slc3,e_cut3,e_cut3n,e_bns,e_bnn,e_splice,if_true,if_false,ite_true,ite_false,true_or,ne_eq,seval,h_putc,beq_self_eq_true,eq_self,exists_eq_left,exists_eq_left',ec]
  refine wA_first (l:=[headsE x.heads.l,gracesE x.graces.l,lyricsE x.lyrics.l]) rfl ?_ (by simp) ?_
  · simp -implicitDefEqProofs (maxDischargeDepth:=12) only [WW,List.replicate,Option.some_or,s_conv,e_conv,s_slc3,e_cut3,e_cut3n,e_bns,e_bnn,e_splice,if_true,if_false,ite_true,ite_false,true_or,ne_eq,seval,h_putc,beq_self_eq_true,eq_self,exists_eq_left,exists_eq_left']; rfl
  generalize firstE [headsE x.heads.l,gracesE x.graces.l,lyricsE x.lyrics.l] = e at hr ⊢
  by_cases he : e = 0
  rotate_left
  · rw [if_pos he] at hr; subst hr
    simp -implicitDefEqProofs (maxDischargeDepth:=12) only [WW,List.replicate,Option.some_or,s_conv,e_conv,s_slc3,e_cut3,e_cut3n,e_bns,e_bnn,e_splice,if_true,if_false,ite_true,ite_false,true_or,ne_eq,seval,h_putc,beq_self_eq_true,eq_self,exists_eq_left,exists_eq_left',he]
    exact frz_sc
  rw [if_neg (by simpa using he)] at hr
  simp -implicitDefEqProofs (maxDischargeDepth:=12) only [WW,List.replicate,Option.some_or,s_conv,e_conv,s_slc3,e_cut3,e_cut3n,e_bns,e_bnn,e_splice,if_true,if_false,ite_true,ite_false,true_or,ne_eq,seval,h_putc,beq_self_eq_true,eq_self,exists_eq_left,exists_eq_left',ec,eq_true he]
  refine wA_pure rfl (within_pv _ _) ?_
  simp -implicitDefEqProofs (maxDischargeDepth:=12) only [WW,List.replicate,Option.some_or,s_conv,e_conv,s_slc3,e_cut3,e_cut3n,e_bns,e_bnn,e_splice,if_true,if_false,ite_true,ite_false,true_or,ne_eq,seval,h_putc,beq_self_eq_true,eq_self,exists_eq_left,exists_eq_left',ec]
  refine wA_pure rfl (within_pv _ _) ?_
  simp -implicitDefEqProofs (maxDischargeDepth:=12) only [WW,List.replicate,Option.some_or,s_conv,e_conv,s_slc3,e_cut3,e_cut3n,e_bns,e_bnn,e_splice,if_true,if_false,ite_true,ite_false,true_or,ne_eq,seval,h_putc,beq_self_eq_true,eq_self,exists_eq_left,exists_eq_left',ec]
  refine wA_pure rfl (within_pv _ _) ?_
  simp -implicitDefEqProofs (maxDischargeDepth:=12) only [WW,List.replicate,Option.some_or,s_conv,e_conv,s_slc3,e_cut3,e_cut3n,e_bns,e_bnn,e_splice,if_true,if_false,ite_true,ite_false,true_or,ne_eq,seval,h_putc,beq_self_eq_true,eq_self,exists_eq_left,exists_eq_left',ec]
  refine wA_pure rfl (within_pv _ _) ?_
  simp -implicitDefEqProofs (maxDischargeDepth:=12) only [WW,List.replicate,Option.some_or,s_conv,e_conv,s_slc3,e_cut3,e_cut3n,e_bns,e_bnn,e_splice,if_true,if_false,ite_true,ite_false,true_or,ne_eq,seval,h_putc,beq_self_eq_true,eq_self,exists_eq_left,exists_eq_left',ec]
  refine wA_pure rfl (within_pv _ _) ?_
  simp -implicitDefEqProofs (maxDischargeDepth:=12) only [WW,List.replicate,Option.some_or,s_conv,e_conv,s_slc3,e_cut3,e_cut3n,e_bns,e_bnn,e_splice,if_true,if_false,ite_true,ite_false,true_or,ne_eq,seval,h_putc,beq_self_eq_true,eq_self,exists_eq_left,exists_eq_left',ec]
  refine wA_first (l:=[within x.articulations 31,within x.ornament 4,within x.dynamic 9,within 0 2,within 0 2]) rfl ?_ (by simp) ?_
  · simp -implicitDefEqProofs (maxDischargeDepth:=12) only [WW,List.replicate,Option.some_or,s_conv,e_conv,s_slc3,e_cut3,e_cut3n,e_bns,e_bnn,e_splice,if_true,if_false,ite_true,ite_false,true_or,ne_eq,seval,h_putc,beq_self_eq_true,eq_self,exists_eq_left,exists_eq_left']; rfl
  rw [hr]
  simp -implicitDefEqProofs (maxDischargeDepth:=12) only [WW,List.replicate,Option.some_or,s_conv,e_conv,s_slc3,e_cut3,e_cut3n,e_bns,e_bnn,e_splice,if_true,if_false,ite_true,ite_false,true_or,ne_eq,seval,h_putc,beq_self_eq_true,eq_self,exists_eq_left,exists_eq_left',ec]
  exact frz_sc
end
end Go.Hem
namespace Go.Hem
noncomputable section
def outR (len : Int) (n : Note) : Prop:=n.at_ < 0 ∨ n.len < 1 ∨ len < n.at_ ∨ IntKind.i64.wrap (len - n.at_) < n.len
instance (len : Int) (n : Note) : Decidable (outR len n):=by unfold outR; exact inferInstance
def early (p : Option Note) (n : Note) : Prop:=match p with
  | some m => n.at_ < m.fin
  | none => False
instance (p : Option Note) (n : Note) : Decidable (early p n):=by unfold early; split <;> exact inferInstance
def checkL (len : Int) : Option Note→List Note→Int
  | _,[] => 0
  | p,n :: t => if outR len n then 2 else if early p n then 25 else if chordE n ≠ 0 then chordE n else checkL len (some n) t
def prevAt (l : List Note) (i : Nat) : Option Note:=if i = 0 then none else l[i - 1]?
theorem prev_succ {l : List Note} {i : Nat} {n : Note} (h : l[i]? = some n) : prevAt l (i + 1) = some n:=by
  unfold prevAt; rw [if_neg (by omega),Nat.add_sub_cancel,h]
def checkE (c : Clip) : Int :=
  if c.len < 0 ∨ 123863040 < c.len then 5 else if 4096 < c.notes.l.length then 9 else if checkL c.len none c.notes.l ≠ 0 then checkL c.len none c.notes.l
  else if (tidyP c.notes.l).map Note.cn = c.notes.l.map Note.cn then 0 else 22
theorem untieN_tame {n : Note} {nx : Option Note} (h : n.tame) : (untieN n nx).tame:=by
  rw [← untieTo_all (j:=n.heads.l.length) (by omega)]; exact untieTo_tame h
theorem untie_tame : ∀ {l : List Note},(∀ y ∈ l,y.tame)→∀ y ∈ untie l,y.tame
  | [],_,y,hy => by simp [untie] at hy
  | n :: t,h,y,hy => by
    simp only [untie,List.mem_cons] at hy
    rcases hy with rfl | hy
    · exact untieN_tame (h n (by simp))
    · exact untie_tame (fun y hy => h y (by simp [hy])) y hy
theorem tidyP_tame {l : List Note} (h : ∀ y ∈ l,y.tame) : (∀ y ∈ tidyP l,y.tame)∧(tidyP l).length ≤ l.length:=by
  obtain ⟨a,b⟩:=fold_tame h [] (by simp)
  refine ⟨untie_tame a,?_⟩
  unfold tidyP
  rw [untie_len]; simpa using b
theorem check_pv (c : Clip) (tc : c.tame) : Pv prog polS 16 [c.enc] (.sc (.int .i64 (checkE c))):=by
  refine Pv_of' ok16 (by simp only [AV.closedBs,Clip.enc_closed,Bool.and_self]) ?_
  obtain ⟨t1,t2⟩:=tc
  generalize hr : checkE c = r
  unfold checkE at hr
  by_cases b1 : c.len < 0
  · rw [if_pos (.inl b1)] at hr; subst hr
    simp -implicitDefEqProofs (maxDischargeDepth:=12) only [wpF,cf16,WW,List.replicate,Option.some_or,s_conv,e_conv,s_slc3,e_cut3,e_cut3n,e_bns,e_bnn,e_splice,if_true,if_false,ite_true,ite_false,true_or,ne_eq,seval,h_putc,beq_self_eq_true,eq_self,exists_eq_left,exists_eq_left',c.enc_eq,b1]
    exact frz_sc
  by_cases b2 : 123863040 < c.len
  · rw [if_pos (.inr b2)] at hr; subst hr
    simp -implicitDefEqProofs (maxDischargeDepth:=12) only [wpF,cf16,WW,List.replicate,Option.some_or,s_conv,e_conv,s_slc3,e_cut3,e_cut3n,e_bns,e_bnn,e_splice,if_true,if_false,ite_true,ite_false,true_or,ne_eq,seval,h_putc,beq_self_eq_true,eq_self,exists_eq_left,exists_eq_left',c.enc_eq,b1,b2]
    exact frz_sc
  rw [if_neg (by rintro (h | h) <;> contradiction)] at hr
  by_cases b3 : 4096 < c.notes.l.length
  · rw [if_pos b3] at hr; subst hr
    have b3' : (4096 : Int) < (c.notes.l.length : Int):=by omega
    simp -implicitDefEqProofs (maxDischargeDepth:=12) only [wpF,cf16,WW,List.replicate,Option.some_or,s_conv,e_conv,s_slc3,e_cut3,e_cut3n,e_bns,e_bnn,e_splice,if_true,if_false,ite_true,ite_false,true_or,ne_eq,seval,h_putc,beq_self_eq_true,eq_self,exists_eq_left,exists_eq_left',c.enc_eq,b1,b2,b3']
    exact frz_sc
  rw [if_neg b3] at hr
  have b3' : ¬ (4096 : Int) < (c.notes.l.length : Int):=by omega
  simp -implicitDefEqProofs (maxDischargeDepth:=12) only [wpF,cf16,WW,List.replicate,Option.some_or,s_conv,e_conv,s_slc3,e_cut3,e_cut3n,e_bns,e_bnn,e_splice,if_true,if_false,ite_true,ite_false,true_or,ne_eq,seval,h_putc,beq_self_eq_true,eq_self,exists_eq_left,exists_eq_left',c.enc_eq,b1,b2,b3']
  refine wp_loop (Inv:=fun k t H => ∃ (i : Nat),i + k = c.notes.l.length∧checkL c.len (prevAt c.notes.l i) (c.notes.l.drop i) = checkL c.len none c.notes.l∧H.cells 0 = some c.enc.cells∧1 ≤ H.next ∧
    ∃ x : Nat→AV,t = [c.enc,.ptr 0 0,x 2,x 3,x 4,x 5,x 6,x 7,x 8,x 9,x 10,x 11,x 12,x 13,x 14,x 15,x 16,x 17,x 18,slm Note.enc c.notes,.sc (.int .i64 c.notes.l.length),.sc (.int .i64 i),x 22,x 23,x 24,x 25,x 26,x 27,x 28,x 29,x 30,x 31,x 32,x 33,x 34,x 35,x 36,x 37,x 38,x 39,x 40,x 41,x 42,x 43,x 44,x 45,x 46,x 47,x 48,x 49,x 50,x 51,x 52,x 53,x 54,x 55,x 56,x 57,x 58,x 59,x 60,x 61,x 62,x 63,x 64,x 65,x 66,x 67,x 68,x 69,x 70,x 71,x 72,x 73,x 74,x 75,x 76,x 77,x 78]) (k:=c.notes.l.length) ?_
    ⟨0,by omega,rfl,?_,by simp,ex_x rfl⟩
  rotate_left
  · simp -implicitDefEqProofs (maxDischargeDepth:=12) only [WW,List.replicate,Option.some_or,s_conv,e_conv,s_slc3,e_cut3,e_cut3n,e_bns,e_bnn,e_splice,if_true,if_false,ite_true,ite_false,true_or,ne_eq,seval,h_putc,beq_self_eq_true,eq_self,exists_eq_left,exists_eq_left']; rfl
  rintro k t H ⟨i,hk,hf,hA,hN,x,rfl⟩
  simp only [c.enc_eq,c_agg] at hA
  by_cases c1 : (i : Int) < (c.notes.l.length : Int)
  · obtain ⟨y,hy⟩ : ∃ y,c.notes.l[i]? = some y:=⟨_,List.getElem?_eq_getElem (by omega)⟩
    have ty:=t2 y (List.mem_of_getElem? hy)
    have e2 : IntKind.i64.wrap ((i : Int) + 1) = ((i + 1 : Nat) : Int):=by rw [w64 (by omega) (by omega)]; omega
    have q0 : ¬ 0 = H.next:=by omega
    have q1 : ¬ H.next = 0:=by omega
    rw [drop_cons hy] at hf
    simp only [checkL] at hf
    generalize hrr : checkL c.len none c.notes.l = rr at hf hr
    have hrr2 : rr ≠ 0→r = rr:=fun h => by rw [if_pos h] at hr; exact hr.symm
    by_cases c3 : y.at_ < 0
    · rw [if_pos (.inl c3)] at hf; rw [hrr2 (by rw [← hf]; decide),← hf]
      simp -implicitDefEqProofs (maxDischargeDepth:=12) only [WW,List.replicate,Option.some_or,s_conv,e_conv,s_slc3,e_cut3,e_cut3n,e_bns,e_bnn,e_splice,if_true,if_false,ite_true,ite_false,true_or,ne_eq,seval,h_putc,beq_self_eq_true,eq_self,exists_eq_left,exists_eq_left',hA,c1,hy,y.enc_eq,q0,q1,c3]
      exact frz_sc
    by_cases c4 : y.len < 1
    · rw [if_pos (.inr (.inl c4))] at hf; rw [hrr2 (by rw [← hf]; decide),← hf]
      simp -implicitDefEqProofs (maxDischargeDepth:=12) only [WW,List.replicate,Option.some_or,s_conv,e_conv,s_slc3,e_cut3,e_cut3n,e_bns,e_bnn,e_splice,if_true,if_false,ite_true,ite_false,true_or,ne_eq,seval,h_putc,beq_self_eq_true,eq_self,exists_eq_left,exists_eq_left',hA,c1,hy,y.enc_eq,q0,q1,c3,c4]
      exact frz_sc
    by_cases c5 : c.len < y.at_
    · rw [if_pos (.inr (.inr (.inl c5)))] at hf; rw [hrr2 (by rw [← hf]; decide),← hf]
      simp -implicitDefEqProofs (maxDischargeDepth:=12) only [WW,List.replicate,Option.some_or,s_conv,e_conv,s_slc3,e_cut3,e_cut3n,e_bns,e_bnn,e_splice,if_true,if_false,ite_true,ite_false,true_or,ne_eq,seval,h_putc,beq_self_eq_true,eq_self,exists_eq_left,exists_eq_left',hA,c1,hy,y.enc_eq,q0,q1,c3,c4,c5]
      exact frz_sc
    by_cases c6 : IntKind.i64.wrap (c.len - y.at_) < y.len
    · rw [if_pos (.inr (.inr (.inr c6)))] at hf; rw [hrr2 (by rw [← hf]; decide),← hf]
      simp -implicitDefEqProofs (maxDischargeDepth:=12) only [WW,List.replicate,Option.some_or,s_conv,e_conv,s_slc3,e_cut3,e_cut3n,e_bns,e_bnn,e_splice,if_true,if_false,ite_true,ite_false,true_or,ne_eq,seval,h_putc,beq_self_eq_true,eq_self,exists_eq_left,exists_eq_left',hA,c1,hy,y.enc_eq,q0,q1,c3,c4,c5,c6]
      exact frz_sc
    rw [if_neg (by unfold outR; rintro (h | h | h | h) <;> contradiction)] at hf
    by_cases i0 : (0 : Int) < (i : Int)
    · obtain ⟨m,hm⟩ : ∃ y,c.notes.l[i - 1]? = some y:=⟨_,List.getElem?_eq_getElem (by omega)⟩
      have hp : prevAt c.notes.l i = some m:=by unfold prevAt; rw [if_neg (by omega),hm]
      have em : IntKind.i64.wrap ((i : Int) - 1) = ((i - 1 : Nat) : Int):=by rw [w64 (by omega) (by omega)]; omega
      rw [hp] at hf
      simp -implicitDefEqProofs (maxDischargeDepth:=12) only [WW,List.replicate,Option.some_or,s_conv,e_conv,s_slc3,e_cut3,e_cut3n,e_bns,e_bnn,e_splice,if_true,if_false,ite_true,ite_false,true_or,ne_eq,seval,h_putc,beq_self_eq_true,eq_self,exists_eq_left,exists_eq_left',hA,c1,hy,y.enc_eq,q0,q1,c3,c4,c5,c6,i0,em,hm,m.enc_eq]
      rw [← m.enc_eq]
      refine wA_pure rfl (end_pv m) ?_
      by_cases c7 : y.at_ < m.fin
      · rw [if_pos (show early (some m) y from c7)] at hf
        rw [hrr2 (by rw [← hf]; decide),← hf]
        simp -implicitDefEqProofs (maxDischargeDepth:=12) only [WW,List.replicate,Option.some_or,s_conv,e_conv,s_slc3,e_cut3,e_cut3n,e_bns,e_bnn,e_splice,if_true,if_false,ite_true,ite_false,true_or,ne_eq,seval,h_putc,beq_self_eq_true,eq_self,exists_eq_left,exists_eq_left',hA,q0,q1,c7]
        exact frz_sc
      rw [if_neg (show ¬ early (some m) y from c7)] at hf
      simp -implicitDefEqProofs (maxDischargeDepth:=12) only [WW,List.replicate,Option.some_or,s_conv,e_conv,s_slc3,e_cut3,e_cut3n,e_bns,e_bnn,e_splice,if_true,if_false,ite_true,ite_false,true_or,ne_eq,seval,h_putc,beq_self_eq_true,eq_self,exists_eq_left,exists_eq_left',hA,q0,q1,c7]
      rw [← y.enc_eq]
      refine wA_pure rfl (chord_pv y ty) ?_
      simp -implicitDefEqProofs (maxDischargeDepth:=12) only [WW,List.replicate,Option.some_or,s_conv,e_conv,s_slc3,e_cut3,e_cut3n,e_bns,e_bnn,e_splice,if_true,if_false,ite_true,ite_false,true_or,ne_eq,seval,h_putc,beq_self_eq_true,eq_self,exists_eq_left,exists_eq_left']
      refine wA_pure rfl (echeck_pv y ty) ?_
      by_cases c8 : chordE y = 0
      · rw [if_neg (by simpa using c8)] at hf
        simp -implicitDefEqProofs (maxDischargeDepth:=12) only [WW,List.replicate,Option.some_or,s_conv,e_conv,s_slc3,e_cut3,e_cut3n,e_bns,e_bnn,e_splice,if_true,if_false,ite_true,ite_false,true_or,ne_eq,seval,h_putc,beq_self_eq_true,eq_self,exists_eq_left,exists_eq_left',c8,e2]
        exact ⟨k - 1,by omega,i + 1,by omega,by rw [prev_succ hy]; exact hf,by rw [if_neg q0,if_neg q0,hA]; rfl,ex_x rfl⟩
      · rw [if_pos c8] at hf
        rw [hrr2 (by rw [← hf]; exact c8),← hf]
        simp -implicitDefEqProofs (maxDischargeDepth:=12) only [WW,List.replicate,Option.some_or,s_conv,e_conv,s_slc3,e_cut3,e_cut3n,e_bns,e_bnn,e_splice,if_true,if_false,ite_true,ite_false,true_or,ne_eq,seval,h_putc,beq_self_eq_true,eq_self,exists_eq_left,exists_eq_left',c8]
        exact frz_sc
    · have hp : prevAt c.notes.l i = none:=by unfold prevAt; rw [if_pos (by omega)]
      rw [hp,if_neg (show ¬ early none y from fun h => h)] at hf
      simp -implicitDefEqProofs (maxDischargeDepth:=12) only [WW,List.replicate,Option.some_or,s_conv,e_conv,s_slc3,e_cut3,e_cut3n,e_bns,e_bnn,e_splice,if_true,if_false,ite_true,ite_false,true_or,ne_eq,seval,h_putc,beq_self_eq_true,eq_self,exists_eq_left,exists_eq_left',hA,c1,hy,y.enc_eq,q0,q1,c3,c4,c5,c6,i0]
      rw [← y.enc_eq]
      refine wA_pure rfl (chord_pv y ty) ?_
      simp -implicitDefEqProofs (maxDischargeDepth:=12) only [WW,List.replicate,Option.some_or,s_conv,e_conv,s_slc3,e_cut3,e_cut3n,e_bns,e_bnn,e_splice,if_true,if_false,ite_true,ite_false,true_or,ne_eq,seval,h_putc,beq_self_eq_true,eq_self,exists_eq_left,exists_eq_left']
      refine wA_pure rfl (echeck_pv y ty) ?_
      by_cases c8 : chordE y = 0
      · rw [if_neg (by simpa using c8)] at hf
        simp -implicitDefEqProofs (maxDischargeDepth:=12) only [WW,List.replicate,Option.some_or,s_conv,e_conv,s_slc3,e_cut3,e_cut3n,e_bns,e_bnn,e_splice,if_true,if_false,ite_true,ite_false,true_or,ne_eq,seval,h_putc,beq_self_eq_true,eq_self,exists_eq_left,exists_eq_left',c8,e2]
        exact ⟨k - 1,by omega,i + 1,by omega,by rw [prev_succ hy]; exact hf,by rw [if_neg q0,if_neg q0,hA]; rfl,ex_x rfl⟩
      · rw [if_pos c8] at hf
        rw [hrr2 (by rw [← hf]; exact c8),← hf]
        simp -implicitDefEqProofs (maxDischargeDepth:=12) only [WW,List.replicate,Option.some_or,s_conv,e_conv,s_slc3,e_cut3,e_cut3n,e_bns,e_bnn,e_splice,if_true,if_false,ite_true,ite_false,true_or,ne_eq,seval,h_putc,beq_self_eq_true,eq_self,exists_eq_left,exists_eq_left',c8]
        exact frz_sc
  · rw [drop_end c1] at hf
    have hf0 : checkL c.len none c.notes.l = 0:=hf.symm
    rw [hf0,if_neg (by simp)] at hr
    simp -implicitDefEqProofs (maxDischargeDepth:=12) only [WW,List.replicate,Option.some_or,s_conv,e_conv,s_slc3,e_cut3,e_cut3n,e_bns,e_bnn,e_splice,if_true,if_false,ite_true,ite_false,true_or,ne_eq,seval,h_putc,beq_self_eq_true,eq_self,exists_eq_left,exists_eq_left',hA,c1]
    refine wA_pure rfl (tidy_pv c.notes t1 t2) ?_
    have tt:=tidyP_tame t2
    simp -implicitDefEqProofs (maxDischargeDepth:=12) only [WW,List.replicate,Option.some_or,s_conv,e_conv,s_slc3,e_cut3,e_cut3n,e_bns,e_bnn,e_splice,if_true,if_false,ite_true,ite_false,true_or,ne_eq,seval,h_putc,beq_self_eq_true,eq_self,exists_eq_left,exists_eq_left',hA]
    have eg : ∀ (x : AV) t,aev (x :: t) (.func 37) = .func (.func 37) [] []:=fun _ _ => rfl
    simp only [eg]
    refine wA_pure rfl (eqNotes_pv (Sl.of (tidyP c.notes.l)) c.notes (by rw [l_of]; omega) (by rw [l_of]; exact tt.1) t2) ?_
    rw [l_of]
    by_cases d1 : (tidyP c.notes.l).map Note.cn = c.notes.l.map Note.cn
    · rw [if_pos d1] at hr; subst hr
      simp -implicitDefEqProofs (maxDischargeDepth:=12) only [WW,List.replicate,Option.some_or,s_conv,e_conv,s_slc3,e_cut3,e_cut3n,e_bns,e_bnn,e_splice,if_true,if_false,ite_true,ite_false,true_or,ne_eq,seval,h_putc,beq_self_eq_true,eq_self,exists_eq_left,exists_eq_left',eq_true d1]
      exact frz_sc
    · rw [if_neg d1] at hr; subst hr
      simp -implicitDefEqProofs (maxDischargeDepth:=12) only [WW,List.replicate,Option.some_or,s_conv,e_conv,s_slc3,e_cut3,e_cut3n,e_bns,e_bnn,e_splice,if_true,if_false,ite_true,ite_false,true_or,ne_eq,seval,h_putc,beq_self_eq_true,eq_self,exists_eq_left,exists_eq_left',d1]
      exact frz_sc
end
end Go.Hem
namespace Go.Hem
theorem rheads_ok (a : Sl Head) (ha : a.l.length < 1000000) (H0 : AHeap) : Ev prog polS (.call 14 [slm Head.enc a]) H0 fun o H' => ∃ v fp,o = .val v∧AccX false 1 5 Head.enc H' v (some a.l) fp∧Fresh H0 H' fp:=by
  refine (wpF_ok ok14 (Q:=fun v H' => ∃ fp,AccX false 1 5 Head.enc H' v (some a.l) fp∧Fresh H0 H' fp) ?_).mono ?_
  rotate_left
  · rintro o H' ⟨v,rfl,fp,h⟩; exact ⟨v,fp,rfl,h⟩
  simp -implicitDefEqProofs (maxDischargeDepth:=12) only [wpF,cf14,WW,List.replicate,Option.some_or,s_conv,e_conv,s_slc3,e_cut3,e_cut3n,e_bns,e_bnn,e_splice,if_true,if_false,ite_true,ite_false,true_or,ne_eq,seval,h_putc,beq_self_eq_true,eq_self,exists_eq_left,exists_eq_left']
  refine wA_app3 (f:=Head.enc) (bytes:=40) row_Head (I:=false) (d:=1) (l:=[]) (fp:=[H0.next]) (ys:=a.l) (.inr ⟨H0.next,0,[],[],[],[],rfl,rfl,Nat.le_refl _,?_,rfl,by simp,.nil,by simp,rfl⟩) Keep.refl (Nat.le_refl _) e_alenm (by rw [e_srcm Head.enc_len (Nat.le_refl _),List.take_length]) (OwnL.scal (by
    simp only [List.all_eq_true]
    intro v hv
    obtain ⟨x,_,hx⟩:=List.mem_flatMap.1 hv
    have : (Head.enc x).cells.all AV.isSc = true:=rfl
    exact List.all_eq_true.1 this v hx)) Apart.nil_right (by simp only [List.length_nil]; omega) ?_
  · simp -implicitDefEqProofs (maxDischargeDepth:=12) only [WW,List.replicate,Option.some_or,s_conv,e_conv,s_slc3,e_cut3,e_cut3n,e_bns,e_bnn,e_splice,if_true,if_false,ite_true,ite_false,true_or,ne_eq,seval,h_putc,beq_self_eq_true,eq_self,exists_eq_left,exists_eq_left']
  intro v' H' fp' h1 h2 h3 h4 h5 h6
  simp only [AHeap.next_alloc] at h2 h3
  simp -implicitDefEqProofs (maxDischargeDepth:=12) only [WW,List.replicate,Option.some_or,s_conv,e_conv,s_slc3,e_cut3,e_cut3n,e_bns,e_bnn,e_splice,if_true,if_false,ite_true,ite_false,true_or,ne_eq,seval,h_putc,beq_self_eq_true,eq_self,exists_eq_left,exists_eq_left']
  refine ⟨fp',h1,fun b hb => ?_,by omega,fun b hb => ?_⟩
  · rcases h4 b hb with h | h | h
    · simp at h; omega
    · simp at h
    · simp only [AHeap.next_alloc] at h; omega
  · rw [h3 b (by simp; omega) (by omega),c_alloc_ne (by omega)]
def Note.own (x : Note) : Note:={ x with heads:=some x.heads.l }
theorem Note.own_tame {x : Note} (h : x.tame) : x.own.tame:=⟨h.heads,h.graces,h.lyrics,h.text⟩
theorem noteQ_heads {H : AHeap} {x : Note} {hv : AV} {fh : List Nat} (h : AccQ HeadQ 5 H hv x.heads fh) : NoteQ H [intE x.at_,intE x.len,hv,slm Grace.enc x.graces,intE x.articulations,intE x.ornament,intE x.dynamic,slm Syllable.enc x.lyrics] x fh :=
  ⟨hv,_,_,fh,[],[],rfl,h,own_imm Grace.enc_closed,own_imm Syllable.enc_closed,o_slm,o_slm,Apart.nil_right,Apart.nil_right,Apart.nil_left,by simp⟩
def foldR (l : List Note) : List Note:=(l.map Note.own).foldl stepT []
theorem foldR_take {l : List Note} {i : Nat} {x : Note} (h : l[i]? = some x) : foldR (l.take (i + 1)) = stepT (foldR (l.take i)) x.own:=by
  unfold foldR
  rw [List.take_add_one,h,List.map_append,List.foldl_append]; rfl
theorem foldR_tame {l : List Note} (h : ∀ y ∈ l,y.tame) : (∀ y ∈ foldR l,y.tame)∧(foldR l).length ≤ l.length:=by
  have:=fold_tame (l:=l.map Note.own) (fun y hy => by
    obtain ⟨z,hz,rfl⟩:=List.mem_map.1 hy
    exact Note.own_tame (h z hz)) [] (by simp)
  simpa [foldR] using this
def Note.mergeTo (a x : Note) (j : Nat) : Note:={ a with len:=IntKind.i64.wrap (a.len + x.len),heads:=a.heads.map fun l => tieUpTo j l x.heads.l }
theorem mergeTo_zero {a x : Note} : a.mergeTo x 0 = { a with len:=IntKind.i64.wrap (a.len + x.len) }:=by
  unfold Note.mergeTo
  have : a.heads.map (fun l => tieUpTo 0 l x.heads.l) = a.heads:=by cases a.heads <;> simp [tieUp_zero]
  rw [this]
theorem mergeTo_all {a x : Note} {j : Nat} (hlen : a.heads.l.length = x.heads.l.length) (h : ¬ j < a.heads.l.length) : a.mergeTo x j = merge a x:=by
  unfold Note.mergeTo merge
  have : a.heads.map (fun l => tieUpTo j l x.heads.l) = a.heads.map fun l => tieTo l x.heads.l:=by
    cases e : a.heads with
    | none => rfl
    | some l =>
      rw [e] at hlen h
      simp only [Option.map_some,Option.some.injEq]
      exact tieUp_all hlen (by rw [l_some] at h; exact h)
  rw [this]
theorem mergeTo_heads {a x : Note} {j : Nat} (hlen : a.heads.l.length = x.heads.l.length) : (a.mergeTo x j).heads.l = tieUpTo j a.heads.l x.heads.l:=by
  show Sl.l (a.heads.map _) = _
  cases e : a.heads with
  | none => rw [e] at hlen; simp [Sl.l,tieUpTo,tieTo]
  | some l => rfl
theorem mergeTo_succ {a x : Note} {j : Nat} {u w : Head} (hlen : a.heads.l.length = x.heads.l.length) (hu : a.heads.l[j]? = some u) (hw : x.heads.l[j]? = some w) : { a.mergeTo x j with heads:=some ((a.mergeTo x j).heads.l.set j (u.tie w.tied)) } = a.mergeTo x (j + 1):=by
  rw [mergeTo_heads hlen,tieUp_set hlen hu hw]
  unfold Note.mergeTo
  have : a.heads.map (fun l => tieUpTo (j + 1) l x.heads.l) = some (tieUpTo (j + 1) a.heads.l x.heads.l):=by
    cases e : a.heads with
    | none => rw [e] at hu; simp [Sl.l] at hu
    | some l => rfl
  rw [this]
end Go.Hem
namespace Go.Hem
def tidyR (l : List Note) : List Note:=untie (foldR l)
theorem rtidy_pv (s : Sl Note) (hs : s.l.length < 1000000) (ts : ∀ y ∈ s.l,y.tame) : Pv prog polS 15 [slm Note.enc s] (slm Note.enc (Sl.of (tidyR s.l))):=by
  refine Pv_of' ok15 (by simp only [AV.closedBs,closedB_slm Note.enc_closed,Bool.and_self]) ?_
  simp -implicitDefEqProofs (maxDischargeDepth:=12) only [wpF,cf15,WW,List.replicate,Option.some_or,s_conv,e_conv,s_slc3,e_cut3,e_cut3n,e_bns,e_bnn,e_splice,if_true,if_false,ite_true,ite_false,true_or,ne_eq,seval,h_putc,beq_self_eq_true,eq_self,exists_eq_left,exists_eq_left']
  refine wp_loop (Inv:=fun k t H => ∃ (i : Nat) (v : AV) (fp : List Nat),i + k = s.l.length∧AccQ NoteQ 8 H v (Sl.of (foldR (s.l.take i))) fp ∧
    ∃ y : Nat→AV,t = [slm Note.enc s,y 1,y 2,v,.sc (.int .i64 i),y 5,y 6,y 7,y 8,y 9,y 10,y 11,y 12,y 13,y 14,y 15,y 16,y 17,y 18,y 19,y 20,y 21,y 22,y 23,y 24,y 25,y 26,y 27,y 28,y 29,y 30,y 31,y 32,y 33,y 34,y 35,y 36,y 37,y 38,y 39,y 40,y 41,y 42,y 43,y 44,y 45,y 46,y 47,y 48,y 49,y 50,y 51,y 52,y 53,y 54,y 55,y 56,y 57,y 58,y 59,y 60,y 61,y 62,y 63,y 64,y 65,y 66,y 67,y 68,y 69,y 70,y 71,y 72,y 73,y 74,y 75,y 76,y 77,y 78,y 79,y 80,y 81,y 82,y 83,y 84,y 85,y 86,y 87,y 88,y 89,y 90,y 91,y 92,y 93,y 94,y 95,y 96,y 97,y 98,y 99,y 100,y 101,y 102,y 103,y 104,y 105,y 106,y 107,y 108,y 109,y 110,y 111,y 112,y 113,y 114,y 115,y 116,y 117,y 118,y 119,y 120,y 121,y 122,y 123,y 124,y 125,y 126,y 127,y 128,y 129,y 130,y 131,y 132,y 133,y 134,y 135,y 136,y 137,y 138,y 139,y 140,y 141,y 142,y 143,y 144,y 145,y 146,y 147,y 148,y 149,y 150,y 151,y 152,y 153,y 154,y 155,y 156,y 157,y 158,y 159,y 160,y 161,y 162,y 163,y 164,y 165,y 166,y 167,y 168,y 169,y 170]) (k:=s.l.length) ?_
    ⟨0,_,[],by omega,accQ_none,ex_x rfl⟩
  rintro k t H0 ⟨i,v,fp,hk,hA,y,rfl⟩
  by_cases c1 : (i : Int) < (s.l.length : Int)
  rotate_left
  · rw [List.take_of_length_le (by omega)] at hA
    simp -implicitDefEqProofs (maxDischargeDepth:=12) only [WW,List.replicate,Option.some_or,s_conv,e_conv,s_slc3,e_cut3,e_cut3n,e_bns,e_bnn,e_splice,if_true,if_false,ite_true,ite_false,true_or,ne_eq,seval,h_putc,beq_self_eq_true,eq_self,exists_eq_left,exists_eq_left',c1]
    have tF:=foldR_tame ts
    unfold tidyR
    generalize foldR s.l = F at hA tF
    obtain ⟨tF,lF⟩:=tF
    clear hk c1
    refine wp_loop (Inv:=fun k t H => ∃ (i : Nat) (f2 : List Nat),i + k = F.length∧AccQ NoteQ 8 H v (Sl.of (untieUpTo i F)) f2 ∧
      ∃ y : Nat→AV,t = [slm Note.enc s,y 1,y 2,v,y 4,y 5,y 6,y 7,.sc (.int .i64 i),y 9,y 10,y 11,y 12,y 13,y 14,y 15,y 16,y 17,y 18,y 19,y 20,y 21,y 22,y 23,y 24,y 25,y 26,y 27,y 28,y 29,y 30,y 31,y 32,y 33,y 34,y 35,y 36,y 37,y 38,y 39,y 40,y 41,y 42,y 43,y 44,y 45,y 46,y 47,y 48,y 49,y 50,y 51,y 52,y 53,y 54,y 55,y 56,y 57,y 58,y 59,y 60,y 61,y 62,y 63,y 64,y 65,y 66,y 67,y 68,y 69,y 70,y 71,y 72,y 73,y 74,y 75,y 76,y 77,y 78,y 79,y 80,y 81,y 82,y 83,y 84,y 85,y 86,y 87,y 88,y 89,y 90,y 91,y 92,y 93,y 94,y 95,y 96,y 97,y 98,y 99,y 100,y 101,y 102,y 103,y 104,y 105,y 106,y 107,y 108,y 109,y 110,y 111,y 112,y 113,y 114,y 115,y 116,y 117,y 118,y 119,y 120,y 121,y 122,y 123,y 124,y 125,y 126,y 127,y 128,y 129,y 130,y 131,y 132,y 133,y 134,y 135,y 136,y 137,y 138,y 139,y 140,y 141,y 142,y 143,y 144,y 145,y 146,y 147,y 148,y 149,y 150,y 151,y 152,y 153,y 154,y 155,y 156,y 157,y 158,y 159,y 160,y 161,y 162,y 163,y 164,y 165,y 166,y 167,y 168,y 169,y 170]) (k:=F.length) ?_
      ⟨0,fp,by omega,by rw [untieUp_zero]; exact hA,ex_x rfl⟩
    clear hA fp H0 y i
    rintro k t H ⟨i,fp,hk,hA,y,rfl⟩
    have hl:=hA.length.1
    rw [l_of,untieUp_len] at hl
    by_cases c1 : (i : Int) < (F.length : Int)
    rotate_left
    · rw [untieUp_all (by omega)] at hA
      simp -implicitDefEqProofs (maxDischargeDepth:=12) only [WW,List.replicate,Option.some_or,s_conv,e_conv,s_slc3,e_cut3,e_cut3n,e_bns,e_bnn,e_splice,if_true,if_false,ite_true,ite_false,true_or,ne_eq,seval,h_putc,beq_self_eq_true,eq_self,exists_eq_left,exists_eq_left',c1,hl]
      exact hA.frz noteQ (by decide)
    have hil : i < F.length:=by omega
    obtain ⟨n,hn⟩ : ∃ y,F[i]? = some y:=⟨_,List.getElem?_eq_getElem hil⟩
    have e2 : IntKind.i64.wrap ((i : Int) + 1) = ((i + 1 : Nat) : Int):=by rw [w64 (by omega) (by omega)]; omega
    have tn:=tF n (List.mem_of_getElem? hn)
    rw [of_isSome (by rw [untieUp_len]; omega)] at hA
    obtain ⟨b,cap,cs,r,g,hv,a1,a2,a3,a4,a5,a6,a7,a8,a9,a10,a11,a12,a13⟩:=note_cells hA (i:=i) (x:=n) (by rw [l_some,untieUp_ge (Nat.le_refl _) hil]; exact hn)
    simp only [l_some,untieUp_len] at a1
    subst a1
    simp -implicitDefEqProofs (maxDischargeDepth:=12) only [WW,List.replicate,Option.some_or,s_conv,e_conv,s_slc3,e_cut3,e_cut3n,e_bns,e_bnn,e_splice,if_true,if_false,ite_true,ite_false,true_or,ne_eq,seval,h_putc,beq_self_eq_true,eq_self,exists_eq_left,exists_eq_left',c1,hil]
    refine wp_loop (Inv:=fun k' t H => ∃ (j : Nat) (f2 : List Nat),j + k' = n.heads.l.length∧AccQ NoteQ 8 H (.slice b 0 F.length cap 8) (some ((untieUpTo i F).set i (n.untieTo F[i + 1]? j))) f2 ∧
      ∃ y : Nat→AV,t = [slm Note.enc s,y 1,y 2,.slice b 0 F.length cap 8,y 4,y 5,y 6,y 7,.sc (.int .i64 i),.sc (.int .i64 j),y 10,y 11,y 12,y 13,y 14,y 15,y 16,y 17,y 18,y 19,y 20,y 21,y 22,y 23,y 24,y 25,y 26,y 27,y 28,y 29,y 30,y 31,y 32,y 33,y 34,y 35,y 36,y 37,y 38,y 39,y 40,y 41,y 42,y 43,y 44,y 45,y 46,y 47,y 48,y 49,y 50,y 51,y 52,y 53,y 54,y 55,y 56,y 57,y 58,y 59,y 60,y 61,y 62,y 63,y 64,y 65,y 66,y 67,y 68,y 69,y 70,y 71,y 72,y 73,y 74,y 75,y 76,y 77,y 78,y 79,y 80,y 81,y 82,y 83,y 84,y 85,y 86,y 87,y 88,y 89,y 90,y 91,y 92,y 93,y 94,y 95,y 96,y 97,y 98,y 99,y 100,y 101,y 102,y 103,y 104,y 105,y 106,y 107,y 108,y 109,y 110,y 111,y 112,y 113,y 114,y 115,y 116,y 117,y 118,y 119,y 120,y 121,y 122,y 123,y 124,y 125,y 126,y 127,y 128,y 129,y 130,y 131,y 132,y 133,y 134,y 135,y 136,y 137,y 138,y 139,y 140,y 141,y 142,y 143,y 144,y 145,y 146,y 147,y 148,y 149,y 150,y 151,y 152,y 153,y 154,y 155,y 156,y 157,y 158,y 159,y 160,y 161,y 162,y 163,y 164,y 165,y 166,y 167,y 168,y 169,y 170]) (k:=n.heads.l.length) ?_
      ⟨0,fp,by omega,?_,ex_x rfl⟩
    rotate_left
    · rw [untieTo_zero]
      have : (untieUpTo i F).set i n = untieUpTo i F:=by
        apply List.ext_getElem?
        intro q
        rw [List.getElem?_set]
        split
        · rename_i e; subst e
          rw [untieUp_len,if_pos hil,untieUp_ge (Nat.le_refl _) hil,hn]
        · rfl
      rw [this]; exact hA
    clear hA hl a2 a3 a4 a5 a6 a7 a8 a9 a10 a11 a12 a13 y H fp
    rintro k' t H ⟨j,fp,hk',hA,y,rfl⟩
    obtain ⟨b',cap',cs,r,g,hv',a1,a2,a3,a4,a5,a6,a7,a8,a9,a10,a11,a12,a13⟩:=note_cells hA (i:=i) (x:=n.untieTo F[i + 1]? j) (by rw [l_some,List.getElem?_set_self (by rw [untieUp_len]; exact hil)])
    simp only [l_some,AV.slice.injEq,true_and,and_true] at a1
    obtain ⟨rfl,_,rfl⟩:=a1
    rw [untieTo_heads,mapTo_len] at a11
    by_cases d1 : (j : Int) < (n.heads.l.length : Int)
    rotate_left
    · rw [untieTo_all (by omega),untieUp_set hn] at hA
      simp -implicitDefEqProofs (maxDischargeDepth:=12) only [WW,List.replicate,Option.some_or,s_conv,e_conv,s_slc3,e_cut3,e_cut3n,e_bns,e_bnn,e_splice,if_true,if_false,ite_true,ite_false,true_or,ne_eq,seval,h_putc,beq_self_eq_true,eq_self,exists_eq_left,exists_eq_left',d1,e2,hil,a2,a6,a11]
      exact ⟨k - 1,by omega,i + 1,fp,by omega,by rw [of_isSome (by rw [untieUp_len]; omega)]; exact hA,ex_x rfl⟩
    have hjl : j < n.heads.l.length:=by omega
    obtain ⟨h,hh⟩ : ∃ y,n.heads.l[j]? = some y:=⟨_,List.getElem?_eq_getElem hjl⟩
    have e3 : IntKind.i64.wrap ((j : Int) + 1) = ((j + 1 : Nat) : Int):=by rw [w64 (by omega) (by have:=tn.heads; omega)]; omega
    obtain ⟨bh,caph,ch,c2,c3,c4,c5,c6,c7,c8,c9⟩:=a13 j h (by rw [untieTo_heads]; exact mapTo_get hh)
    rw [untieTo_heads,mapTo_len] at c2
    subst c2
    have hle : j * 5 + 3 + 1 ≤ ch.length:=by omega
    have hle2 : j * 5 + 3 ≤ ch.length:=by omega
    have fin : ∀ H',H' = H.put bh (some (.cells (splice ch (j * 5 + 3) [.sc (.bool (keepTie n F[i + 1]? h))])))→∃ f3,AccQ NoteQ 8 H' (.slice b 0 F.length cap 8) (some ((untieUpTo i F).set i (n.untieTo F[i + 1]? (j + 1)))) f3:=by
      rintro H' rfl
      obtain ⟨f3,p1,p2⟩:=c9 (keepTie n F[i + 1]? h)
      rw [untieTo_succ hh,l_some,List.set_set] at p1
      exact ⟨f3,p1⟩
    cases ht : h.tied with
    | false =>
      have hkt : h.tie (keepTie n F[i + 1]? h) = h:=by unfold keepTie; rw [ht]; cases h; simp only at ht; subst ht; rfl
      have hsame : n.untieTo F[i + 1]? (j + 1) = n.untieTo F[i + 1]? j:=by
        have e:=untieTo_succ (nx:=F[i + 1]?) hh
        rw [hkt] at e
        rw [← e]
        have e4 : (n.untieTo F[i + 1]? j).heads.l.set j h = (n.untieTo F[i + 1]? j).heads.l:=by
          apply List.ext_getElem?
          intro q
          rw [List.getElem?_set]
          split
          · rename_i e; subst e
            rw [untieTo_heads,mapTo_len,if_pos hjl,mapTo_get hh]
          · rfl
        rw [e4]
        have e5 : (n.untieTo F[i + 1]? j).heads = some (n.untieTo F[i + 1]? j).heads.l:=by
          have : (n.untieTo F[i + 1]? j).heads = n.heads.map (mapTo (fun h => h.tie (keepTie n F[i + 1]? h)) j):=rfl
          rw [this]
          cases e6 : n.heads with
          | none => rw [e6] at hjl; simp [Sl.l] at hjl
          | some l => rfl
        generalize n.untieTo F[i + 1]? j = z at e5
        cases z; simp only at e5; rw [e5]; rfl
      simp -implicitDefEqProofs (maxDischargeDepth:=12) only [WW,List.replicate,Option.some_or,s_conv,e_conv,s_slc3,e_cut3,e_cut3n,e_bns,e_bnn,if_true,if_false,ite_true,ite_false,true_or,ne_eq,seval,beq_self_eq_true,eq_self,exists_eq_left,exists_eq_left',d1,hil,hjl,a2,a6,a11,c3,c5,ht,e3]
      exact ⟨k' - 1,by omega,j + 1,fp,by omega,by rw [hsame]; exact hA,ex_x rfl⟩
    | true =>
      by_cases n1 : i + 1 < F.length
      rotate_left
      · have hkt : keepTie n F[i + 1]? h = false:=by unfold keepTie; rw [ht,List.getElem?_eq_none (by omega)]; rfl
        rw [hkt] at fin
        have n1' : ¬ ((i + 1 : Nat) : Int) < (F.length : Int):=by omega
        simp -implicitDefEqProofs (maxDischargeDepth:=12) only [WW,List.replicate,Option.some_or,s_conv,e_conv,s_slc3,e_cut3,e_cut3n,e_bns,e_bnn,if_true,if_false,ite_true,ite_false,true_or,ne_eq,seval,beq_self_eq_true,eq_self,exists_eq_left,exists_eq_left',d1,hil,hjl,a2,a6,a11,c3,c5,ht,hle,e2,e3,n1']
        obtain ⟨f3,p1⟩:=fin _ rfl
        exact ⟨k' - 1,by omega,j + 1,f3,by omega,p1,ex_x rfl⟩
      have n1' : ((i + 1 : Nat) : Int) < (F.length : Int):=by omega
      obtain ⟨m,hm⟩ : ∃ y,F[i + 1]? = some y:=⟨_,List.getElem?_eq_getElem n1⟩
      have tm:=tF m (List.mem_of_getElem? hm)
      obtain ⟨b',cap',cs',r2,g2,hv2,q1,q2,q3,q4,q5,q6,q7,q8,q9,q10,q11,_,q13⟩:=note_cells hA (i:=i + 1) (x:=m) (by rw [l_some,List.getElem?_set_ne (by omega),untieUp_ge (by omega) n1]; exact hm)
      simp only [l_some,AV.slice.injEq,true_and,and_true] at q1
      obtain ⟨rfl,_,rfl⟩:=q1
      rw [a2,Option.some.injEq] at q2
      subst q2
      have hkt : keepTie n F[i + 1]? h = (decide (m.at_ = n.fin) && m.hasB h.pitch):=by unfold keepTie; rw [ht,hm]; rfl
      rw [hkt] at fin
      simp only [intE] at a4 a5 q4
      have a4' : cs[i * 8]? = some (.sc (.int .i64 n.at_)):=a4
      have a5' : cs[i * 8 + 1]? = some (.sc (.int .i64 n.len)):=a5
      have hfin : IntKind.i64.wrap (n.at_ + n.len) = n.fin:=rfl
      by_cases h1 : n.fin = m.at_
      rotate_left
      · rw [decide_eq_false (fun e => h1 e.symm),Bool.false_and] at fin
        simp -implicitDefEqProofs (maxDischargeDepth:=12) only [WW,List.replicate,Option.some_or,s_conv,e_conv,s_slc3,e_cut3,e_cut3n,e_bns,e_bnn,if_true,if_false,ite_true,ite_false,true_or,ne_eq,seval,beq_self_eq_true,eq_self,exists_eq_left,exists_eq_left',d1,hil,hjl,a2,a4',a5',hfin,a6,a11,c3,c5,ht,hle,e2,e3,n1,n1',q4,h1]
        obtain ⟨f3,p1⟩:=fin _ rfl
        exact ⟨k' - 1,by omega,j + 1,f3,by omega,p1,ex_x rfl⟩
      rw [decide_eq_true h1.symm,Bool.true_and] at fin
      simp -implicitDefEqProofs (maxDischargeDepth:=12) only [WW,List.replicate,Option.some_or,s_conv,e_conv,s_slc3,e_cut3,e_cut3n,e_bns,e_bnn,if_true,if_false,ite_true,ite_false,true_or,ne_eq,seval,beq_self_eq_true,eq_self,exists_eq_left,exists_eq_left',d1,hil,hjl,a2,a4',a5',hfin,a6,a11,c3,c5,ht,hle,e2,e3,n1,n1',q4,eq_true h1]
      refine wp_loop (Inv:=fun k2 t H2 => H2 = H∧∃ (p : Nat),p + k2 = m.heads.l.length ∧
        ∃ y : Nat→AV,t = [slm Note.enc s,y 1,y 2,.slice b 0 F.length cap 8,y 4,y 5,y 6,y 7,.sc (.int .i64 i),.sc (.int .i64 j),.sc (.bool ((m.heads.l.take p).any fun x => decide (x.pitch = h.pitch))),.sc (.int .i64 p),y 12,y 13,y 14,y 15,y 16,y 17,y 18,y 19,y 20,y 21,y 22,y 23,y 24,y 25,y 26,y 27,y 28,y 29,y 30,y 31,y 32,y 33,y 34,y 35,y 36,y 37,y 38,y 39,y 40,y 41,y 42,y 43,y 44,y 45,y 46,y 47,y 48,y 49,y 50,y 51,y 52,y 53,y 54,y 55,y 56,y 57,y 58,y 59,y 60,y 61,y 62,y 63,y 64,y 65,y 66,y 67,y 68,y 69,y 70,y 71,y 72,y 73,y 74,y 75,y 76,y 77,y 78,y 79,y 80,y 81,y 82,y 83,y 84,y 85,y 86,y 87,y 88,y 89,y 90,y 91,y 92,y 93,y 94,y 95,y 96,y 97,y 98,y 99,y 100,y 101,y 102,y 103,y 104,y 105,y 106,y 107,y 108,y 109,y 110,y 111,y 112,y 113,y 114,y 115,y 116,y 117,y 118,y 119,y 120,y 121,y 122,y 123,y 124,y 125,y 126,y 127,y 128,y 129,y 130,y 131,y 132,y 133,y 134,y 135,y 136,y 137,y 138,y 139,y 140,y 141,y 142,y 143,y 144,y 145,y 146,y 147,y 148,y 149,y 150,y 151,y 152,y 153,y 154,y 155,y 156,y 157,y 158,y 159,y 160,y 161,y 162,y 163,y 164,y 165,y 166,y 167,y 168,y 169,y 170]) (k:=m.heads.l.length) ?_
        ⟨rfl,0,by omega,ex_x rfl⟩
      clear y
      rintro k2 t H2 ⟨rfl,p,hp,y,rfl⟩
      by_cases g1 : (p : Int) < (m.heads.l.length : Int)
      rotate_left
      · rw [List.take_of_length_le (by omega)]
        have hb : (m.heads.l.any fun x => decide (x.pitch = h.pitch)) = m.hasB h.pitch:=rfl
        rw [hb]
        simp -implicitDefEqProofs (maxDischargeDepth:=12) only [WW,List.replicate,Option.some_or,s_conv,e_conv,s_slc3,e_cut3,e_cut3n,e_bns,e_bnn,if_true,if_false,ite_true,ite_false,true_or,ne_eq,seval,beq_self_eq_true,eq_self,exists_eq_left,exists_eq_left',g1,hil,hjl,a2,a6,c3,hle,e2,e3,n1,n1',q6,q11]
        obtain ⟨f3,p1⟩:=fin _ rfl
        exact ⟨k' - 1,by omega,j + 1,f3,by omega,p1,ex_x rfl⟩
      have hpl : p < m.heads.l.length:=by omega
      obtain ⟨u,hu⟩ : ∃ y,m.heads.l[p]? = some y:=⟨_,List.getElem?_eq_getElem hpl⟩
      have e4 : IntKind.i64.wrap ((p : Int) + 1) = ((p + 1 : Nat) : Int):=by rw [w64 (by omega) (by have:=tm.heads; omega)]; omega
      have hany : (m.heads.l.take (p + 1)).any (fun x => decide (x.pitch = h.pitch)) = ((m.heads.l.take p).any (fun x => decide (x.pitch = h.pitch)) || decide (u.pitch = h.pitch)):=by
        rw [List.take_add_one,hu,List.any_append]; simp
      obtain ⟨bx,capx,cx,x2,x3,x4,x5,x6,x7,x8,x9⟩:=q13 p u hu
      subst x2
      have hle3 : p * 5 + 3 ≤ cx.length:=by omega
      cases hf : (m.heads.l.take p).any (fun x => decide (x.pitch = h.pitch)) with
      | true =>
        simp -implicitDefEqProofs (maxDischargeDepth:=12) only [WW,List.replicate,Option.some_or,s_conv,e_conv,s_slc3,e_cut3,e_cut3n,e_bns,e_bnn,if_true,if_false,ite_true,ite_false,true_or,ne_eq,seval,beq_self_eq_true,eq_self,exists_eq_left,exists_eq_left',g1,hil,hjl,a2,a6,c3,hle,e2,e3,e4,n1,n1',q6,q11,hpl]
        exact ⟨k2 - 1,by omega,p + 1,by omega,by rw [hany,hf,Bool.true_or]; exact ex_x rfl⟩
      | false =>
        simp -implicitDefEqProofs (maxDischargeDepth:=12) only [WW,List.replicate,Option.some_or,s_conv,e_conv,s_slc3,e_cut3,e_cut3n,e_bns,e_bnn,if_true,if_false,ite_true,ite_false,true_or,ne_eq,seval,beq_self_eq_true,eq_self,exists_eq_left,exists_eq_left',g1,hil,hjl,a2,a6,c3,hle,hle2,e2,e3,e4,n1,n1',q6,q11,hpl,x3,x6,hle3,c6,u.pitch.enc_eq,h.pitch.enc_eq,pitch_cmp]
        exact ⟨k2 - 1,by omega,p + 1,by omega,by rw [hany,hf,Bool.false_or]; exact ex_x rfl⟩
  obtain ⟨x,hx⟩ : ∃ y,s.l[i]? = some y:=⟨_,List.getElem?_eq_getElem (by omega)⟩
  have tx:=ts x (List.mem_of_getElem? hx)
  have e2 : IntKind.i64.wrap ((i : Int) + 1) = ((i + 1 : Nat) : Int):=by rw [w64 (by omega) (by omega)]; omega
  have tL:=foldR_tame (l:=s.l.take i) (fun y hy => ts y (List.mem_of_mem_take hy))
  have hL : (foldR (s.l.take i)).length < 1000000:=by have:=tL.2; simp only [List.length_take] at this; omega
  have ef:=foldR_take hx
  generalize foldR (s.l.take i) = L at hA tL hL ef
  have hlt:=hA.lt noteQ
  generalize hq : H0.next = q at hlt
  have nqq : ∀ {z : List AV},(H0.alloc (.cells z)).cells q = some z:=by intro z; rw [h_alloc,if_pos hq.symm]
  simp -implicitDefEqProofs (maxDischargeDepth:=12) only [WW,List.replicate,Option.some_or,s_conv,e_conv,s_slc3,e_cut3,e_cut3n,e_bns,e_bnn,e_splice,if_true,if_false,ite_true,ite_false,true_or,ne_eq,seval,h_putc,beq_self_eq_true,eq_self,exists_eq_left,exists_eq_left',c1,hx,x.enc_eq,hq]
  generalize hH1 : AHeap.put _ q _ = H1
  have n1 : H1.next = q + 1:=by subst hH1; simp only [AHeap.next_put,AHeap.next_alloc,hq]
  have kp : Keep q H0 H1:=by subst hH1; exact fun b hb => by rw [c_put_ne (by omega),c_alloc_ne (by omega)]
  have cq:=congrArg (fun H => AHeap.cells H q) hH1
  simp -implicitDefEqProofs (maxDischargeDepth:=12) only [WW,List.replicate,Option.some_or,s_conv,e_conv,s_slc3,e_cut3,e_cut3n,e_bns,e_bnn,e_splice,if_true,if_false,ite_true,ite_false,true_or,ne_eq,seval,h_putc,beq_self_eq_true,eq_self,exists_eq_left,exists_eq_left',hq] at cq
  replace cq:=cq.symm
  clear hH1
  refine wA_call rfl ((rheads_ok x.heads tx.heads _).mono ?_)
  rintro o H2 ⟨hv,fh,rfl,hh0,hF⟩
  refine ⟨_,rfl,?_⟩
  have hN:=hF.2.1
  have cq2:=(hF.2.2 q (by omega)).trans cq
  have hh:=acc_heads hh0
  simp -implicitDefEqProofs (maxDischargeDepth:=12) only [WW,List.replicate,Option.some_or,s_conv,e_conv,s_slc3,e_cut3,e_cut3n,e_bns,e_bnn,e_splice,if_true,if_false,ite_true,ite_false,true_or,ne_eq,seval,h_putc,beq_self_eq_true,eq_self,exists_eq_left,exists_eq_left',cq,cq2,hh0.one,hh0.cells]
  generalize hH3 : AHeap.put H2 q _ = H3
  have n3 : H3.next = H2.next:=by subst hH3; simp only [AHeap.next_put]
  have k3 : ∀ b,b ≠ q→H3.cells b = H2.cells b:=fun b hb => by subst hH3; rw [c_put_ne hb]
  have cq3:=congrArg (fun H => AHeap.cells H q) hH3
  simp -implicitDefEqProofs (maxDischargeDepth:=12) only [WW,List.replicate,Option.some_or,s_conv,e_conv,s_slc3,e_cut3,e_cut3n,e_bns,e_bnn,e_splice,if_true,if_false,ite_true,ite_false,true_or,ne_eq,seval,h_putc,beq_self_eq_true,eq_self,exists_eq_left,exists_eq_left',cq2] at cq3
  replace cq3:=cq3.symm
  clear hH3
  have hh3 : AccQ HeadQ 5 H3 hv x.own.heads fh:=hh.fr headQ fun b hb => k3 b (by have:=hF.1 b hb; omega)
  have hrow:=noteQ_heads (x:=x.own) hh3
  have hA3 : AccQ NoteQ 8 H3 v (Sl.of L) fp:=hA.fr noteQ fun b hb => by have:=hlt b hb; rw [k3 b (by omega),hF.2.2 b (by omega),kp b (by omega)]
  have hfh : ∀ b ∈ fh,q < b:=fun b hb => by have:=hF.1 b hb; omega
  have hl:=hA3.length.1
  rw [l_of] at hl
  have hlt3:=hA3.lt noteQ
  have hap : Apart fp fh:=fun b h1 h2 => by have:=hlt b h1; have:=hfh b h2; omega
  clear hh hh0 hA cq cq2 hF kp n1 k3
  cases hlast : L.getLast? with
  | none =>
    have hL0 : L = []:=List.getLast?_eq_none_iff.1 hlast
    subst hL0
    have es : stepT [] x.own = [x.own]:=rfl
    have e5 : IntKind.i64.wrap (-1) = -1:=by decide
    simp -implicitDefEqProofs (maxDischargeDepth:=12) only [WW,List.replicate,Option.some_or,s_conv,e_conv,s_slc3,e_cut3,e_cut3n,e_bns,e_bnn,e_splice,if_true,if_false,ite_true,ite_false,true_or,ne_eq,seval,h_putc,beq_self_eq_true,eq_self,exists_eq_left,exists_eq_left',hl,e5]
    simp -implicitDefEqProofs (maxDischargeDepth:=12) only [WW,List.replicate,Option.some_or,s_conv,e_conv,s_slc3,e_cut3,e_cut3n,e_bns,e_bnn,e_splice,if_true,if_false,ite_true,ite_false,true_or,ne_eq,seval,h_putc,beq_self_eq_true,eq_self,exists_eq_left,exists_eq_left',cq3,hh3.one.1,hh3.one.2]
    refine wA_appQ noteQ (H0:=H3) hA3 (y:=x.own) (g:=fh) (fun c hc => c_alloc_ne (by have:=hlt3 c hc; omega)) rfl (asrc_one (by simp -implicitDefEqProofs (maxDischargeDepth:=12) only [WW,List.replicate,Option.some_or,s_conv,e_conv,s_slc3,e_cut3,e_cut3n,e_bns,e_bnn,e_splice,if_true,if_false,ite_true,ite_false,true_or,ne_eq,seval,h_putc,beq_self_eq_true,eq_self,exists_eq_left,exists_eq_left']; rfl) rfl) (noteQ.fr hrow fun b hb => c_alloc_ne (by have:=hh3.lt headQ b hb; omega)) hap (by rw [l_of]; omega) ?_
    intro v' H4 fp' h1 h2 h3 h4 h5 h6
    simp -implicitDefEqProofs (maxDischargeDepth:=12) only [WW,List.replicate,Option.some_or,s_conv,e_conv,s_slc3,e_cut3,e_cut3n,e_bns,e_bnn,e_splice,if_true,if_false,ite_true,ite_false,true_or,ne_eq,seval,h_putc,beq_self_eq_true,eq_self,exists_eq_left,exists_eq_left',e2]
    rw [l_of] at h1
    exact ⟨k - 1,by omega,i + 1,v',fp',by omega,by rw [ef,es,of_cons (by simp)]; exact h1,ex_x rfl⟩
  | some a =>
    have hne : L ≠ []:=fun e => by subst e; cases hlast
    have hat:=getLast_at hlast
    have hpos : 0 < L.length:=by rcases Nat.eq_zero_or_pos L.length with h | h; exact absurd (List.length_eq_zero_iff.1 h) hne; exact h
    have ta:=tL.1 a (List.mem_of_getElem? hat)
    rw [of_cons hne] at hA3
    have es : stepT L x.own = if oneB a x.own then L.set (L.length - 1) (merge a x.own) else L ++ [x.own]:=by unfold stepT; rw [hlast]
    rw [es] at ef
    have ei : IntKind.i64.wrap ((L.length : Int) - 1) = ((L.length - 1 : Nat) : Int):=by rw [w64 (by omega) (by omega)]; omega
    generalize hi : L.length - 1 = m at hat ef ei
    have hil : m < L.length:=by omega
    have hm0 : (0 : Int) ≤ (m : Int):=by omega
    obtain ⟨b,cap,cs,r,g,hv',a1,a2,a3,a4,a5,a6,a7,a8,a9,a10,a11,a12,a13⟩:=note_cells hA3 hat
    simp only [l_some] at a1 a12 a13
    subst a1
    obtain ⟨g',o1,o2⟩:=noteQ_own a8
    obtain ⟨g3,o3,o4⟩:=noteQ_own hrow
    simp -implicitDefEqProofs (maxDischargeDepth:=12) only [WW,List.replicate,Option.some_or,s_conv,e_conv,s_slc3,e_cut3,e_cut3n,e_bns,e_bnn,e_splice,if_true,if_false,ite_true,ite_false,true_or,ne_eq,seval,h_putc,beq_self_eq_true,eq_self,exists_eq_left,exists_eq_left',ei,hm0,hil,a2,a3,a7,cq3]
    refine wA_own rfl (OwnL.cons o1 (.cons o3 .nil Apart.nil_right) (by rw [List.append_nil]; exact fun c h1 h2 => hap c (a10 c (o2 c h1)) (o4 c h2))) (rone_pv a x.own ta.heads tx.heads) ?_
    cases h1 : oneB a x.own with
    | false =>
      rw [h1,if_neg (by simp)] at ef
      rw [← of_cons hne] at hA3
      simp -implicitDefEqProofs (maxDischargeDepth:=12) only [WW,List.replicate,Option.some_or,s_conv,e_conv,s_slc3,e_cut3,e_cut3n,e_bns,e_bnn,e_splice,if_true,if_false,ite_true,ite_false,true_or,ne_eq,seval,h_putc,beq_self_eq_true,eq_self,exists_eq_left,exists_eq_left',cq3,hh3.one.1,hh3.one.2]
      refine wA_appQ noteQ (H0:=H3) hA3 (y:=x.own) (g:=fh) (fun c hc => c_alloc_ne (by have:=hlt3 c hc; omega)) rfl (asrc_one (by simp -implicitDefEqProofs (maxDischargeDepth:=12) only [WW,List.replicate,Option.some_or,s_conv,e_conv,s_slc3,e_cut3,e_cut3n,e_bns,e_bnn,e_splice,if_true,if_false,ite_true,ite_false,true_or,ne_eq,seval,h_putc,beq_self_eq_true,eq_self,exists_eq_left,exists_eq_left']; rfl) rfl) (noteQ.fr hrow fun b hb => c_alloc_ne (by have:=hh3.lt headQ b hb; omega)) hap (by rw [l_of]; omega) ?_
      intro v' H4 fp' h1 h2 h3 h4 h5 h6
      simp -implicitDefEqProofs (maxDischargeDepth:=12) only [WW,List.replicate,Option.some_or,s_conv,e_conv,s_slc3,e_cut3,e_cut3n,e_bns,e_bnn,e_splice,if_true,if_false,ite_true,ite_false,true_or,ne_eq,seval,h_putc,beq_self_eq_true,eq_self,exists_eq_left,exists_eq_left',e2]
      rw [l_of] at h1
      exact ⟨k - 1,by omega,i + 1,v',fp',by omega,by rw [ef,of_cons (by simp)]; exact h1,ex_x rfl⟩
    | true =>
      rw [h1,if_pos rfl] at ef
      have hlen:=oneB_len h1
      have nb : ¬ b = q:=by have:=hlt b a9; omega
      have nb' : ¬ q = b:=fun e => nb e.symm
      have hle : m * 8 + 1 + 1 ≤ cs.length:=by omega
      obtain ⟨fp',p1,p2⟩:=a12 (IntKind.i64.wrap (a.len + x.len))
      simp only [intE] at a4 a5 p1
      simp -implicitDefEqProofs (maxDischargeDepth:=12) only [WW,List.replicate,Option.some_or,s_conv,e_conv,s_slc3,e_cut3,e_cut3n,e_bns,e_bnn,if_true,if_false,ite_true,ite_false,true_or,ne_eq,seval,beq_self_eq_true,eq_self,exists_eq_left,exists_eq_left',cq3,ei,hil,a2,a5,hle]
      generalize hH4 : AHeap.put H3 b _ = H4 at p1 ⊢
      have k4 : ∀ c,c ≠ b→H4.cells c = H3.cells c:=fun c hc => by subst hH4; rw [c_put_ne hc]
      have cq4:=(k4 q nb').trans cq3
      have hh4 : AccQ HeadQ 5 H4 hv x.own.heads fh:=hh3.fr headQ fun c hc => k4 c fun e => hap b a9 (e ▸ hc)
      refine wp_loop (Inv:=fun k' t H => ∃ (j : Nat) (f2 : List Nat),j + k' = x.heads.l.length∧H.cells q = some [intE x.at_,intE x.len,hv,slm Grace.enc x.graces,intE x.articulations,intE x.ornament,intE x.dynamic,slm Syllable.enc x.lyrics]∧AccQ HeadQ 5 H hv x.own.heads fh ∧
        AccQ NoteQ 8 H (.slice b 0 L.length cap 8) (some (L.set m (a.mergeTo x.own j))) f2∧(∀ c ∈ f2,c ∈ fp) ∧
        ∃ y : Nat→AV,t = [slm Note.enc s,y 1,y 2,.slice b 0 L.length cap 8,.sc (.int .i64 i),.ptr q 0,.sc (.int .i64 m),.sc (.int .i64 j),y 8,y 9,y 10,y 11,y 12,y 13,y 14,y 15,y 16,y 17,y 18,y 19,y 20,y 21,y 22,y 23,y 24,y 25,y 26,y 27,y 28,y 29,y 30,y 31,y 32,y 33,y 34,y 35,y 36,y 37,y 38,y 39,y 40,y 41,y 42,y 43,y 44,y 45,y 46,y 47,y 48,y 49,y 50,y 51,y 52,y 53,y 54,y 55,y 56,y 57,y 58,y 59,y 60,y 61,y 62,y 63,y 64,y 65,y 66,y 67,y 68,y 69,y 70,y 71,y 72,y 73,y 74,y 75,y 76,y 77,y 78,y 79,y 80,y 81,y 82,y 83,y 84,y 85,y 86,y 87,y 88,y 89,y 90,y 91,y 92,y 93,y 94,y 95,y 96,y 97,y 98,y 99,y 100,y 101,y 102,y 103,y 104,y 105,y 106,y 107,y 108,y 109,y 110,y 111,y 112,y 113,y 114,y 115,y 116,y 117,y 118,y 119,y 120,y 121,y 122,y 123,y 124,y 125,y 126,y 127,y 128,y 129,y 130,y 131,y 132,y 133,y 134,y 135,y 136,y 137,y 138,y 139,y 140,y 141,y 142,y 143,y 144,y 145,y 146,y 147,y 148,y 149,y 150,y 151,y 152,y 153,y 154,y 155,y 156,y 157,y 158,y 159,y 160,y 161,y 162,y 163,y 164,y 165,y 166,y 167,y 168,y 169,y 170]) (k:=x.heads.l.length) ?_
        ⟨0,fp',by omega,cq4,hh4,by rw [mergeTo_zero]; exact p1,p2,ex_x rfl⟩
      clear hH4 k4 cq4 hh4 p1 p2 fp' hA3 a2 a3 a4 a5 a6 a7 a8 a10 a11 a12 a13 hh3 hrow cq3 o1 o2 o3 o4 g' g3 hlt3 n3 H4 hv' hle y
      rintro k' t H ⟨j,f2,hk',hB,hh,p1,p2,y,rfl⟩
      have hhl:=hh.length.1
      have exl : x.own.heads.l = x.heads.l:=rfl
      rw [exl] at hhl
      simp only [intE] at hB
      by_cases d1 : (j : Int) < (x.heads.l.length : Int)
      rotate_left
      · rw [mergeTo_all hlen (by rw [hlen,exl]; omega)] at p1
        simp -implicitDefEqProofs (maxDischargeDepth:=12) only [WW,List.replicate,Option.some_or,s_conv,e_conv,s_slc3,e_cut3,e_cut3n,e_bns,e_bnn,if_true,if_false,ite_true,ite_false,true_or,ne_eq,seval,beq_self_eq_true,eq_self,exists_eq_left,exists_eq_left',hB,d1,hhl,e2]
        exact ⟨k - 1,by omega,i + 1,_,f2,by omega,by rw [ef,of_cons (by simpa using hne)]; exact p1,ex_x rfl⟩
      have hjx : j < x.heads.l.length:=by omega
      have hja : j < a.heads.l.length:=by rw [hlen,exl]; exact hjx
      obtain ⟨u,hu⟩ : ∃ y,a.heads.l[j]? = some y:=⟨_,List.getElem?_eq_getElem hja⟩
      obtain ⟨w,hw⟩ : ∃ y,x.heads.l[j]? = some y:=⟨_,List.getElem?_eq_getElem hjx⟩
      have e3 : IntKind.i64.wrap ((j : Int) + 1) = ((j + 1 : Nat) : Int):=by rw [w64 (by omega) (by have:=tx.heads; omega)]; omega
      obtain ⟨b',cap',cs3,r',g2,hv',b1,b2,b3,b4,b5,b6,b7,b8,b9,b10,b11,b12,b13⟩:=note_cells p1 (i:=m) (x:=a.mergeTo x.own j) (by rw [l_some,List.getElem?_set_self hil])
      simp only [l_some,AV.slice.injEq,true_and,and_true,List.length_set] at b1
      obtain ⟨rfl,rfl⟩:=b1
      obtain ⟨bh,caph,ch,c2,c3,c4,c5,c6,c7,c8,c9⟩:=b13 j u (by rw [mergeTo_heads hlen]; exact tieUp_get hlen hu)
      rw [mergeTo_heads hlen,tieUp_len hlen] at c2
      subst c2
      obtain ⟨bx,capx,cx,x1,x2,x3,x4,x5,x6,x7,_,x9,_⟩:=head_cells hh (k:=j) (x:=w) hw
      rw [exl] at x1
      subst x1
      obtain ⟨f3,q1,q2⟩:=c9 w.tied
      have hbh : bh < q:=hlt _ (p2 _ c7)
      have hle : j * 5 + 3 + 1 ≤ ch.length:=by omega
      simp -implicitDefEqProofs (maxDischargeDepth:=12) only [WW,List.replicate,Option.some_or,s_conv,e_conv,s_slc3,e_cut3,e_cut3n,e_bns,e_bnn,if_true,if_false,ite_true,ite_false,true_or,ne_eq,seval,beq_self_eq_true,eq_self,exists_eq_left,exists_eq_left',hB,d1,hhl,hil,hjx,hja,b2,b6,c3,hle,x2,x7,e3]
      refine ⟨k' - 1,by omega,j + 1,f3,by omega,?_,?_,?_,fun c hc => p2 c (q2 c hc),ex_x rfl⟩
      · rw [c_put_ne (by omega)]; exact hB
      · exact hh.fr headQ fun c hc => c_put_ne fun e => hap bh (p2 _ c7) (e ▸ hc)
      · rw [mergeTo_succ hlen hu (show x.own.heads.l[j]? = some w from hw),l_some,List.set_set] at q1
        exact q1
end Go.Hem
namespace Go.Hem
theorem Note.cn_cn {x : Note} : x.cn.cn = x.cn:=by
  unfold Note.cn; simp only [l_of]
theorem tailB_cn {x : Note} : x.cn.tailB = x.tailB:=by
  unfold Note.tailB Note.cn; simp only [l_of]
theorem oneB_cn {a x : Note} : oneB a.cn x.cn = oneB a x:=by
  unfold oneB Note.plainB headsOne
  rw [tailB_cn]
  unfold Note.fin Note.cn; simp only [l_of]
theorem tieTo_nil {m : List Head} : tieTo [] m = []:=rfl
theorem merge_cn {a x : Note} : (merge a.cn x.cn).cn = (merge a x).cn:=by
  unfold merge Note.cn
  simp only [l_of,l_map (g:=fun l => tieTo l x.heads.l) tieTo_nil]
theorem stepT_cn {L : List Note} {x : Note} : (stepT (L.map Note.cn) x.cn).map Note.cn = (stepT L x).map Note.cn:=by
  unfold stepT
  rw [List.getLast?_map]
  cases L.getLast? with
  | none => simp [Note.cn_cn]
  | some a =>
    simp only [Option.map_some,oneB_cn]
    have e : Note.cn ∘ Note.cn = Note.cn:=by funext y; exact Note.cn_cn
    split
    · rw [List.map_set,List.map_set,merge_cn,List.map_map,e,List.length_map]
    · rw [List.map_append,List.map_append,List.map_map,e]; simp [Note.cn_cn]
theorem fold_cn : ∀ {l : List Note} {L L' : List Note},L.map Note.cn = L'.map Note.cn→((l.map Note.cn).foldl stepT L').map Note.cn = (l.foldl stepT L).map Note.cn
  | [],L,L',h => h.symm
  | x :: l,L,L',h => by
    simp only [List.map_cons,List.foldl_cons]
    refine fold_cn ?_
    rw [← stepT_cn,h,← stepT_cn (L:=L') (x:=x.cn),Note.cn_cn]
theorem hasB_cn {m : Note} {p : Pitch} : m.cn.hasB p = m.hasB p:=by
  unfold Note.hasB Note.cn; simp only [l_of]
theorem keepTie_cn {n : Note} {nx : Option Note} {h : Head} : keepTie n.cn (nx.map Note.cn) h = keepTie n nx h:=by
  unfold keepTie
  cases nx with
  | none => rfl
  | some m => simp only [Option.map_some,hasB_cn]; rfl
theorem untieN_cn {n : Note} {nx : Option Note} : (untieN n.cn (nx.map Note.cn)).cn = (untieN n nx).cn:=by
  unfold untieN
  simp only [keepTie_cn]
  unfold Note.cn
  simp only [l_of,l_map (g:=List.map fun h : Head => h.tie (keepTie n nx h)) List.map_nil]
theorem untie_cn : ∀ {l : List Note},(untie (l.map Note.cn)).map Note.cn = (untie l).map Note.cn
  | [] => rfl
  | n :: t => by
    simp only [List.map_cons,untie]
    rw [List.head?_map,untieN_cn,untie_cn]
theorem tidyP_cn {l : List Note} : (tidyP (l.map Note.cn)).map Note.cn = (tidyP l).map Note.cn:=by
  unfold tidyP
  rw [← untie_cn,fold_cn (l:=l) (L:=[]) (L':=[]) rfl,untie_cn]
theorem tidyP_of {l m : List Note} (h : l.map Note.cn = m.map Note.cn) : (tidyP l).map Note.cn = (tidyP m).map Note.cn:=by
  rw [← tidyP_cn,h,tidyP_cn]
theorem tidyR_eq {l : List Note} : (tidyR l).map Note.cn = (tidyP l).map Note.cn:=by
  show (tidyP (l.map Note.own)).map Note.cn = _
  refine tidyP_of ?_
  rw [List.map_map]; rfl
end Go.Hem
namespace Go.Hem
noncomputable section
theorem tidyR_tame {l : List Note} (h : ∀ y ∈ l,y.tame) : (∀ y ∈ tidyR l,y.tame)∧(tidyR l).length ≤ l.length:=by
  obtain ⟨a,b⟩:=foldR_tame h
  refine ⟨untie_tame a,?_⟩
  unfold tidyR
  rw [untie_len]; exact b
theorem rcheck_pv (c : Clip) (tc : c.tame) : Pv prog polS 12 [c.enc] (.sc (.int .i64 (checkE c))):=by
  refine Pv_of' ok12 (by simp only [AV.closedBs,Clip.enc_closed,Bool.and_self]) ?_
  obtain ⟨t1,t2⟩:=tc
  generalize hr : checkE c = r
  unfold checkE at hr
  by_cases b1 : c.len < 0
  · rw [if_pos (.inl b1)] at hr; subst hr
    simp -implicitDefEqProofs (maxDischargeDepth:=12) only [wpF,cf12,WW,List.replicate,Option.some_or,s_conv,e_conv,s_slc3,e_cut3,e_cut3n,e_bns,e_bnn,e_splice,if_true,if_false,ite_true,ite_false,true_or,ne_eq,seval,h_putc,beq_self_eq_true,eq_self,exists_eq_left,exists_eq_left',c.enc_eq,b1]
    exact frz_sc
  by_cases b2 : 123863040 < c.len
  · rw [if_pos (.inr b2)] at hr; subst hr
    simp -implicitDefEqProofs (maxDischargeDepth:=12) only [wpF,cf12,WW,List.replicate,Option.some_or,s_conv,e_conv,s_slc3,e_cut3,e_cut3n,e_bns,e_bnn,e_splice,if_true,if_false,ite_true,ite_false,true_or,ne_eq,seval,h_putc,beq_self_eq_true,eq_self,exists_eq_left,exists_eq_left',c.enc_eq,b1,b2]
    exact frz_sc
  rw [if_neg (by rintro (h | h) <;> contradiction)] at hr
  by_cases b3 : 4096 < c.notes.l.length
  · rw [if_pos b3] at hr; subst hr
    have b3' : (4096 : Int) < (c.notes.l.length : Int):=by omega
    simp -implicitDefEqProofs (maxDischargeDepth:=12) only [wpF,cf12,WW,List.replicate,Option.some_or,s_conv,e_conv,s_slc3,e_cut3,e_cut3n,e_bns,e_bnn,e_splice,if_true,if_false,ite_true,ite_false,true_or,ne_eq,seval,h_putc,beq_self_eq_true,eq_self,exists_eq_left,exists_eq_left',c.enc_eq,b1,b2,b3']
    exact frz_sc
  rw [if_neg b3] at hr
  have b3' : ¬ (4096 : Int) < (c.notes.l.length : Int):=by omega
  simp -implicitDefEqProofs (maxDischargeDepth:=12) only [wpF,cf12,WW,List.replicate,Option.some_or,s_conv,e_conv,s_slc3,e_cut3,e_cut3n,e_bns,e_bnn,e_splice,if_true,if_false,ite_true,ite_false,true_or,ne_eq,seval,h_putc,beq_self_eq_true,eq_self,exists_eq_left,exists_eq_left',c.enc_eq,b1,b2,b3']
  refine wp_loop (Inv:=fun k t H => ∃ (i : Nat),i + k = c.notes.l.length∧checkL c.len (prevAt c.notes.l i) (c.notes.l.drop i) = checkL c.len none c.notes.l∧H.cells 0 = some c.enc.cells∧1 ≤ H.next ∧
    ∃ x : Nat→AV,t = [c.enc,.ptr 0 0,x 2,.sc (.int .i64 i),x 4,x 5,x 6,x 7,x 8,x 9,x 10,x 11,x 12,x 13,x 14,x 15,x 16,x 17,x 18,x 19,x 20,x 21,x 22,x 23,x 24,x 25,x 26,x 27,x 28,x 29,x 30,x 31,x 32,x 33,x 34,x 35,x 36,x 37,x 38,x 39,x 40,x 41,x 42,x 43,x 44,x 45,x 46,x 47,x 48,x 49,x 50,x 51,x 52,x 53,x 54,x 55,x 56,x 57,x 58,x 59,x 60,x 61,x 62,x 63,x 64,x 65,x 66,x 67,x 68,x 69,x 70,x 71,x 72,x 73,x 74,x 75,x 76,x 77,x 78,x 79,x 80,x 81,x 82,x 83,x 84,x 85,x 86,x 87,x 88,x 89,x 90,x 91]) (k:=c.notes.l.length) ?_
    ⟨0,by omega,rfl,?_,by simp,ex_x rfl⟩
  rotate_left
  · simp -implicitDefEqProofs (maxDischargeDepth:=12) only [WW,List.replicate,Option.some_or,s_conv,e_conv,s_slc3,e_cut3,e_cut3n,e_bns,e_bnn,e_splice,if_true,if_false,ite_true,ite_false,true_or,ne_eq,seval,h_putc,beq_self_eq_true,eq_self,exists_eq_left,exists_eq_left']; rfl
  rintro k t H ⟨i,hk,hf,hA,hN,x,rfl⟩
  simp only [c.enc_eq,c_agg] at hA
  by_cases c1 : (i : Int) < (c.notes.l.length : Int)
  · obtain ⟨y,hy⟩ : ∃ y,c.notes.l[i]? = some y:=⟨_,List.getElem?_eq_getElem (by omega)⟩
    have ty:=t2 y (List.mem_of_getElem? hy)
    have e2 : IntKind.i64.wrap ((i : Int) + 1) = ((i + 1 : Nat) : Int):=by rw [w64 (by omega) (by omega)]; omega
    have q0 : ¬ 0 = H.next:=by omega
    have q1 : ¬ H.next = 0:=by omega
    rw [drop_cons hy] at hf
    simp only [checkL] at hf
    generalize hrr : checkL c.len none c.notes.l = rr at hf hr
    have hrr2 : rr ≠ 0→r = rr:=fun h => by rw [if_pos h] at hr; exact hr.symm
    by_cases c3 : y.at_ < 0
    · rw [if_pos (.inl c3)] at hf; rw [hrr2 (by rw [← hf]; decide),← hf]
      simp -implicitDefEqProofs (maxDischargeDepth:=12) only [WW,List.replicate,Option.some_or,s_conv,e_conv,s_slc3,e_cut3,e_cut3n,e_bns,e_bnn,e_splice,if_true,if_false,ite_true,ite_false,true_or,ne_eq,seval,h_putc,beq_self_eq_true,eq_self,exists_eq_left,exists_eq_left',hA,c1,hy,y.enc_eq,q0,q1,c3]
      exact frz_sc
    by_cases c4 : y.len < 1
    · rw [if_pos (.inr (.inl c4))] at hf; rw [hrr2 (by rw [← hf]; decide),← hf]
      simp -implicitDefEqProofs (maxDischargeDepth:=12) only [WW,List.replicate,Option.some_or,s_conv,e_conv,s_slc3,e_cut3,e_cut3n,e_bns,e_bnn,e_splice,if_true,if_false,ite_true,ite_false,true_or,ne_eq,seval,h_putc,beq_self_eq_true,eq_self,exists_eq_left,exists_eq_left',hA,c1,hy,y.enc_eq,q0,q1,c3,c4]
      exact frz_sc
    by_cases c5 : c.len < y.at_
    · rw [if_pos (.inr (.inr (.inl c5)))] at hf; rw [hrr2 (by rw [← hf]; decide),← hf]
      simp -implicitDefEqProofs (maxDischargeDepth:=12) only [WW,List.replicate,Option.some_or,s_conv,e_conv,s_slc3,e_cut3,e_cut3n,e_bns,e_bnn,e_splice,if_true,if_false,ite_true,ite_false,true_or,ne_eq,seval,h_putc,beq_self_eq_true,eq_self,exists_eq_left,exists_eq_left',hA,c1,hy,y.enc_eq,q0,q1,c3,c4,c5]
      exact frz_sc
    by_cases c6 : IntKind.i64.wrap (c.len - y.at_) < y.len
    · rw [if_pos (.inr (.inr (.inr c6)))] at hf; rw [hrr2 (by rw [← hf]; decide),← hf]
      simp -implicitDefEqProofs (maxDischargeDepth:=12) only [WW,List.replicate,Option.some_or,s_conv,e_conv,s_slc3,e_cut3,e_cut3n,e_bns,e_bnn,e_splice,if_true,if_false,ite_true,ite_false,true_or,ne_eq,seval,h_putc,beq_self_eq_true,eq_self,exists_eq_left,exists_eq_left',hA,c1,hy,y.enc_eq,q0,q1,c3,c4,c5,c6]
      exact frz_sc
    rw [if_neg (by unfold outR; rintro (h | h | h | h) <;> contradiction)] at hf
    by_cases i0 : (0 : Int) < (i : Int)
    · obtain ⟨m,hm⟩ : ∃ y,c.notes.l[i - 1]? = some y:=⟨_,List.getElem?_eq_getElem (by omega)⟩
      have hp : prevAt c.notes.l i = some m:=by unfold prevAt; rw [if_neg (by omega),hm]
      have em : IntKind.i64.wrap ((i : Int) - 1) = ((i - 1 : Nat) : Int):=by rw [w64 (by omega) (by omega)]; omega
      have hfin : IntKind.i64.wrap (m.at_ + m.len) = m.fin:=rfl
      rw [hp] at hf
      by_cases c7 : y.at_ < m.fin
      · rw [if_pos (show early (some m) y from c7)] at hf
        rw [hrr2 (by rw [← hf]; decide),← hf]
        simp -implicitDefEqProofs (maxDischargeDepth:=12) only [WW,List.replicate,Option.some_or,s_conv,e_conv,s_slc3,e_cut3,e_cut3n,e_bns,e_bnn,e_splice,if_true,if_false,ite_true,ite_false,true_or,ne_eq,seval,h_putc,beq_self_eq_true,eq_self,exists_eq_left,exists_eq_left',hA,c1,hy,y.enc_eq,q0,q1,c3,c4,c5,c6,i0,em,hm,m.enc_eq,hfin,c7]
        exact frz_sc
      rw [if_neg (show ¬ early (some m) y from c7)] at hf
      simp -implicitDefEqProofs (maxDischargeDepth:=12) only [WW,List.replicate,Option.some_or,s_conv,e_conv,s_slc3,e_cut3,e_cut3n,e_bns,e_bnn,e_splice,if_true,if_false,ite_true,ite_false,true_or,ne_eq,seval,h_putc,beq_self_eq_true,eq_self,exists_eq_left,exists_eq_left',hA,c1,hy,y.enc_eq,q0,q1,c3,c4,c5,c6,i0,em,hm,m.enc_eq,hfin,c7]
      rw [← y.enc_eq]
      refine wA_pure rfl (rchord_pv y) ?_
      simp -implicitDefEqProofs (maxDischargeDepth:=12) only [WW,List.replicate,Option.some_or,s_conv,e_conv,s_slc3,e_cut3,e_cut3n,e_bns,e_bnn,e_splice,if_true,if_false,ite_true,ite_false,true_or,ne_eq,seval,h_putc,beq_self_eq_true,eq_self,exists_eq_left,exists_eq_left']
      refine wA_pure rfl (echeck_pv y ty) ?_
      by_cases c8 : chordE y = 0
      · rw [if_neg (by simpa using c8)] at hf
        simp -implicitDefEqProofs (maxDischargeDepth:=12) only [WW,List.replicate,Option.some_or,s_conv,e_conv,s_slc3,e_cut3,e_cut3n,e_bns,e_bnn,e_splice,if_true,if_false,ite_true,ite_false,true_or,ne_eq,seval,h_putc,beq_self_eq_true,eq_self,exists_eq_left,exists_eq_left',c8,e2]
        exact ⟨k - 1,by omega,i + 1,by omega,by rw [prev_succ hy]; exact hf,by rw [if_neg q0,if_neg q0,hA]; rfl,ex_x rfl⟩
      · rw [if_pos c8] at hf
        rw [hrr2 (by rw [← hf]; exact c8),← hf]
        simp -implicitDefEqProofs (maxDischargeDepth:=12) only [WW,List.replicate,Option.some_or,s_conv,e_conv,s_slc3,e_cut3,e_cut3n,e_bns,e_bnn,e_splice,if_true,if_false,ite_true,ite_false,true_or,ne_eq,seval,h_putc,beq_self_eq_true,eq_self,exists_eq_left,exists_eq_left',c8]
        exact frz_sc
    · have hp : prevAt c.notes.l i = none:=by unfold prevAt; rw [if_pos (by omega)]
      rw [hp,if_neg (show ¬ early none y from fun h => h)] at hf
      simp -implicitDefEqProofs (maxDischargeDepth:=12) only [WW,List.replicate,Option.some_or,s_conv,e_conv,s_slc3,e_cut3,e_cut3n,e_bns,e_bnn,e_splice,if_true,if_false,ite_true,ite_false,true_or,ne_eq,seval,h_putc,beq_self_eq_true,eq_self,exists_eq_left,exists_eq_left',hA,c1,hy,y.enc_eq,q0,q1,c3,c4,c5,c6,i0]
      rw [← y.enc_eq]
      refine wA_pure rfl (rchord_pv y) ?_
      simp -implicitDefEqProofs (maxDischargeDepth:=12) only [WW,List.replicate,Option.some_or,s_conv,e_conv,s_slc3,e_cut3,e_cut3n,e_bns,e_bnn,e_splice,if_true,if_false,ite_true,ite_false,true_or,ne_eq,seval,h_putc,beq_self_eq_true,eq_self,exists_eq_left,exists_eq_left']
      refine wA_pure rfl (echeck_pv y ty) ?_
      by_cases c8 : chordE y = 0
      · rw [if_neg (by simpa using c8)] at hf
        simp -implicitDefEqProofs (maxDischargeDepth:=12) only [WW,List.replicate,Option.some_or,s_conv,e_conv,s_slc3,e_cut3,e_cut3n,e_bns,e_bnn,e_splice,if_true,if_false,ite_true,ite_false,true_or,ne_eq,seval,h_putc,beq_self_eq_true,eq_self,exists_eq_left,exists_eq_left',c8,e2]
        exact ⟨k - 1,by omega,i + 1,by omega,by rw [prev_succ hy]; exact hf,by rw [if_neg q0,if_neg q0,hA]; rfl,ex_x rfl⟩
      · rw [if_pos c8] at hf
        rw [hrr2 (by rw [← hf]; exact c8),← hf]
        simp -implicitDefEqProofs (maxDischargeDepth:=12) only [WW,List.replicate,Option.some_or,s_conv,e_conv,s_slc3,e_cut3,e_cut3n,e_bns,e_bnn,e_splice,if_true,if_false,ite_true,ite_false,true_or,ne_eq,seval,h_putc,beq_self_eq_true,eq_self,exists_eq_left,exists_eq_left',c8]
        exact frz_sc
  · rw [drop_end c1] at hf
    have hf0 : checkL c.len none c.notes.l = 0:=hf.symm
    rw [hf0,if_neg (by simp)] at hr
    simp -implicitDefEqProofs (maxDischargeDepth:=12) only [WW,List.replicate,Option.some_or,s_conv,e_conv,s_slc3,e_cut3,e_cut3n,e_bns,e_bnn,e_splice,if_true,if_false,ite_true,ite_false,true_or,ne_eq,seval,h_putc,beq_self_eq_true,eq_self,exists_eq_left,exists_eq_left',hA,c1]
    refine wA_pure rfl (rtidy_pv c.notes t1 t2) ?_
    have tt:=tidyR_tame t2
    simp -implicitDefEqProofs (maxDischargeDepth:=12) only [WW,List.replicate,Option.some_or,s_conv,e_conv,s_slc3,e_cut3,e_cut3n,e_bns,e_bnn,e_splice,if_true,if_false,ite_true,ite_false,true_or,ne_eq,seval,h_putc,beq_self_eq_true,eq_self,exists_eq_left,exists_eq_left',hA]
    refine wA_pure rfl (same_pv ⟨0,Sl.of (tidyR c.notes.l)⟩ ⟨0,c.notes⟩ (by rw [l_of]; omega) (by rw [l_of]; exact fun y hy => Note.chord_tame (tt.1 y hy))) ?_
    have e : ((⟨0,Sl.of (tidyR c.notes.l)⟩ : Clip).cn = (⟨0,c.notes⟩ : Clip).cn) = ((tidyP c.notes.l).map Note.cn = c.notes.l.map Note.cn):=by
      rw [← tidyR_eq]
      refine propext ⟨fun k => ?_,fun k => Clip.cn_iff.2 ⟨rfl,by rw [l_of]; exact k⟩⟩
      have:=(Clip.cn_iff.1 k).2
      rwa [l_of] at this
    simp only [e]
    by_cases d1 : (tidyP c.notes.l).map Note.cn = c.notes.l.map Note.cn
    · rw [if_pos d1] at hr; subst hr
      simp -implicitDefEqProofs (maxDischargeDepth:=12) only [WW,List.replicate,Option.some_or,s_conv,e_conv,s_slc3,e_cut3,e_cut3n,e_bns,e_bnn,e_splice,if_true,if_false,ite_true,ite_false,true_or,ne_eq,seval,h_putc,beq_self_eq_true,eq_self,exists_eq_left,exists_eq_left',eq_true d1]
      exact frz_sc
    · rw [if_neg d1] at hr; subst hr
      simp -implicitDefEqProofs (maxDischargeDepth:=12) only [WW,List.replicate,Option.some_or,s_conv,e_conv,s_slc3,e_cut3,e_cut3n,e_bns,e_bnn,e_splice,if_true,if_false,ite_true,ite_false,true_or,ne_eq,seval,h_putc,beq_self_eq_true,eq_self,exists_eq_left,exists_eq_left',d1]
      exact frz_sc
end
end Go.Hem
namespace Go.Hem
noncomputable section
def NoOne (L : List Note) : Prop:=∀ i a b,L[i]? = some a→L[i + 1]? = some b→oneB a b = false
def Ties (L : List Note) : Prop:=∀ i n,L[i]? = some n→∀ h ∈ n.heads.l,h.tied = true→keepTie n L[i + 1]? h = true
def Neat (L : List Note) : Prop:=NoOne L∧Ties L
theorem noOne_nil : NoOne []:=fun i a b h => by simp at h
theorem noOne_snoc {L : List Note} {x : Note} (h : NoOne L) (hx : ∀ a,L.getLast? = some a→oneB a x = false) : NoOne (L ++ [x]):=by
  intro i a b h1 h2
  by_cases c : i + 1 < L.length
  · rw [List.getElem?_append_left (by omega)] at h1
    rw [List.getElem?_append_left c] at h2
    exact h i a b h1 h2
  · have hl:=(List.getElem?_eq_some_iff.1 h2).1
    simp only [List.length_append,List.length_cons,List.length_nil] at hl
    have e : i + 1 = L.length:=by omega
    rw [List.getElem?_append_right (by omega),e,Nat.sub_self] at h2
    simp only [List.getElem?_cons_zero,Option.some.injEq] at h2
    subst h2
    rw [List.getElem?_append_left (by omega)] at h1
    exact hx a (by rw [List.getLast?_eq_getElem?,← h1]; congr 1; omega)
theorem noOne_set {L : List Note} {a a' : Note} (h : NoOne L) (ha : L.getLast? = some a) (he : ∀ c,oneB c a' = oneB c a) : NoOne (L.set (L.length - 1) a'):=by
  have hat:=getLast_at ha
  intro i c d h1 h2
  have hl:=(List.getElem?_eq_some_iff.1 h2).1
  simp only [List.length_set] at hl
  rw [List.getElem?_set_ne (by omega)] at h1
  by_cases e : i + 1 = L.length - 1
  · rw [← e,List.getElem?_set_self (by omega)] at h2
    simp only [Option.some.injEq] at h2
    subst h2
    rw [he]
    exact h i c a h1 (by rw [e]; exact hat)
  · rw [List.getElem?_set_ne (by omega)] at h2
    exact h i c d h1 h2
theorem tieTo_map {β : Type} {f : Head→β} (hf : ∀ h b,f (h.tie b) = f h) : ∀ {l m : List Head},l.length = m.length→(tieTo l m).map f = l.map f
  | [],_,_ => by simp [tieTo]
  | h :: l,[],e => by simp at e
  | h :: l,k :: m,e => by
    have:=tieTo_map (f:=f) hf (l:=l) (m:=m) (by simpa using e)
    simp only [tieTo,List.zipWith_cons_cons,List.map_cons] at this ⊢
    rw [this]
    have:=hf h k.tied
    unfold Head.tie at this
    rw [this]
theorem all_map_eq {α β : Type} {f : α→β} {p : β→Bool} {l m : List α} (h : l.map f = m.map f) : (l.all fun x => p (f x)) = m.all fun x => p (f x):=by
  have:=congrArg (List.all · p) h
  simpa [List.all_map,Function.comp_def] using this
theorem oneB_of {a b c d : Note} (h1 : a.fin = c.fin) (h2 : b.at_ = d.at_) (h3 : b.heads.l.map Head.shown = d.heads.l.map Head.shown) (h4 : b.tailB = d.tailB) (h5 : a.heads.l.map Head.tied = c.heads.l.map Head.tied) (h6 : a.heads.l.map Head.pitch = c.heads.l.map Head.pitch) (h7 : b.heads.l.map Head.pitch = d.heads.l.map Head.pitch) : oneB a b = oneB c d:=by
  unfold oneB Note.plainB headsOne
  rw [h1,h2,h4,h6,h7,all_map_eq (p:=fun x => decide (x = 0)) h3,all_map_eq (p:=fun x => x) h5]
theorem merge_heads {a x : Note} : (merge a x).heads.l = tieTo a.heads.l x.heads.l:=by
  show Sl.l (a.heads.map _) = _
  cases a.heads <;> simp [Sl.l,tieTo]
theorem oneB_merge {a x c : Note} (h : oneB a x = true) : oneB c (merge a x) = oneB c a:=by
  have hl:=oneB_len h
  exact oneB_of rfl rfl (by rw [merge_heads]; exact tieTo_map (fun _ _ => rfl) hl) rfl rfl rfl (by rw [merge_heads]; exact tieTo_map (fun _ _ => rfl) hl)
theorem stepT_noOne {L : List Note} {x : Note} (h : NoOne L) : NoOne (stepT L x):=by
  unfold stepT
  cases hl : L.getLast? with
  | none =>
    intro i a b _ h2
    simp at h2
  | some a =>
    simp only
    cases h1 : oneB a x with
    | true => rw [if_pos rfl]; exact noOne_set h hl fun c => oneB_merge h1
    | false =>
      rw [if_neg (by simp)]
      exact noOne_snoc h fun b hb => by rw [hl,Option.some.injEq] at hb; rw [← hb]; exact h1
theorem fold_noOne : ∀ {l L : List Note},NoOne L→NoOne (l.foldl stepT L)
  | [],_,h => h
  | x :: l,L,h => by rw [List.foldl_cons]; exact fold_noOne (stepT_noOne h)
theorem fold_id : ∀ {l P : List Note},NoOne (P ++ l)→l.foldl stepT P = P ++ l
  | [],P,_ => by simp
  | x :: l,P,h => by
    have e : stepT P x = P ++ [x]:=by
      unfold stepT
      cases hl : P.getLast? with
      | none => rw [List.getLast?_eq_none_iff.1 hl]; rfl
      | some a =>
        have hat:=getLast_at hl
        have hlen:=(List.getElem?_eq_some_iff.1 hat).1
        have:=h (P.length - 1) a x (by rw [List.getElem?_append_left (by omega)]; exact hat) (by rw [List.getElem?_append_right (by omega)]; simp [show P.length - 1 + 1 - P.length = 0 by omega])
        simp only [this,Bool.false_eq_true,if_false]
    rw [List.foldl_cons,e,fold_id (by simpa using h)]; simp
theorem untieN_heads {n : Note} {nx : Option Note} : (untieN n nx).heads.l = n.heads.l.map fun h => h.tie (keepTie n nx h):=by
  show Sl.l (n.heads.map _) = _
  cases n.heads <;> simp [Sl.l]
theorem untieN_hmap {β : Type} {f : Head→β} (hf : ∀ h b,f (h.tie b) = f h) {n : Note} {nx : Option Note} : (untieN n nx).heads.l.map f = n.heads.l.map f:=by
  rw [untieN_heads,List.map_map]
  exact List.map_congr_left fun h _ => hf h _
theorem untie_at {L : List Note} {i : Nat} {a : Note} (h : (untie L)[i]? = some a) : ∃ n,L[i]? = some n∧a = untieN n L[i + 1]?:=by
  have hi:=(List.getElem?_eq_some_iff.1 h).1
  rw [untie_len] at hi
  refine ⟨L[i],List.getElem?_eq_getElem hi,?_⟩
  have:=untie_get (List.getElem?_eq_getElem hi)
  rw [this] at h; exact (Option.some.inj h).symm
theorem keepTie_tied {n : Note} {nx : Option Note} {h : Head} (k : keepTie n nx h = true) : h.tied = true:=by
  unfold keepTie at k; rw [Bool.and_eq_true] at k; exact k.1
theorem oneB_untied {a b : Note} {x y : Option Note} (h : oneB (untieN a x) (untieN b y) = true) : oneB a b = true:=by
  unfold oneB Note.plainB headsOne at h ⊢
  have s:=untieN_hmap (f:=Head.shown) (fun _ _ => rfl) (n:=b) (nx:=y)
  rw [all_map_eq (p:=fun x => decide (x = 0)) s,untieN_hmap (f:=Head.pitch) (fun _ _ => rfl),untieN_hmap (f:=Head.pitch) (fun _ _ => rfl),untieN_heads] at h
  simp only [Bool.and_eq_true,decide_eq_true_eq] at h ⊢
  obtain ⟨h1,⟨h2,h3⟩,h4,h5⟩:=h
  refine ⟨h1,⟨h2,h3⟩,?_,h5⟩
  rw [List.all_map,List.all_eq_true] at h4
  rw [List.all_eq_true]
  intro k hk
  exact keepTie_tied (h4 k hk)
theorem untie_noOne {L : List Note} (h : NoOne L) : NoOne (untie L):=by
  intro i a b h1 h2
  obtain ⟨n,e1,rfl⟩:=untie_at h1
  obtain ⟨m,e2,rfl⟩:=untie_at h2
  cases k : oneB (untieN n L[i + 1]?) (untieN m L[i + 1 + 1]?) with
  | false => rfl
  | true => have:=oneB_untied k; rw [h i n m e1 e2] at this; cases this
theorem hasB_of {a b : Note} (h : a.heads.l.map Head.pitch = b.heads.l.map Head.pitch) (p : Pitch) : a.hasB p = b.hasB p:=by
  unfold Note.hasB
  have:=congrArg (List.any · fun q => decide (q = p)) h
  simpa [List.any_map,Function.comp_def] using this
theorem untie_ties {L : List Note} : Ties (untie L):=by
  intro i a h1 h hh ht
  obtain ⟨n,e1,rfl⟩:=untie_at h1
  rw [untieN_heads,List.mem_map] at hh
  obtain ⟨k,hk,rfl⟩:=hh
  have ht' : keepTie n L[i + 1]? k = true:=ht
  have hm:=ht'
  unfold keepTie at hm ⊢
  rw [Bool.and_eq_true] at hm ⊢
  refine ⟨ht,?_⟩
  have hm2:=hm.2
  cases e2 : L[i + 1]? with
  | none => rw [e2] at hm2; simp at hm2
  | some m =>
    rw [untie_get e2]
    rw [e2] at hm2
    simp only [Bool.and_eq_true,decide_eq_true_eq] at hm2 ⊢
    exact ⟨hm2.1,by rw [hasB_of (untieN_hmap (f:=Head.pitch) fun _ _ => rfl)]; exact hm2.2⟩
theorem neat_tidy {l : List Note} : Neat (tidyP l):=⟨untie_noOne (fold_noOne noOne_nil),untie_ties⟩
theorem untie_id {L : List Note} (h : Ties L) : untie L = L:=by
  apply List.ext_getElem?
  intro i
  cases e : L[i]? with
  | none => rw [List.getElem?_eq_none_iff] at e ⊢; rw [untie_len]; exact e
  | some n =>
    rw [untie_get e,Option.some.injEq]
    unfold untieN
    have : n.heads.map (List.map fun h => h.tie (keepTie n L[i + 1]? h)) = n.heads:=by
      cases eh : n.heads with
      | none => rfl
      | some l =>
        simp only [Option.map_some,Option.some.injEq]
        have : ∀ h ∈ l,h.tie (keepTie n L[i + 1]? h) = h:=fun k hk => by
          cases ht : k.tied with
          | true => rw [h i n e k (by rw [eh]; exact hk) ht,← ht]; rfl
          | false =>
            have : keepTie n L[i + 1]? k = false:=by unfold keepTie; rw [ht]; rfl
            rw [this,← ht]; rfl
        rw [List.map_congr_left this]; simp
    rw [this]
theorem tidy_id {L : List Note} (h : Neat L) : tidyP L = L:=by
  unfold tidyP
  rw [fold_id (P:=[]) (by simpa using h.1)]
  exact untie_id h.2
theorem at_cn {L M : List Note} (h : L.map Note.cn = M.map Note.cn) {i : Nat} {m : Note} (hm : M[i]? = some m) : ∃ n,L[i]? = some n∧n.cn = m.cn:=by
  have:=congrArg (·[i]?) h
  simp only [List.getElem?_map,hm,Option.map_some] at this
  cases e : L[i]? with
  | none => rw [e] at this; cases this
  | some n => rw [e] at this; exact ⟨n,rfl,Option.some.inj this⟩
theorem opt_cn {L M : List Note} (h : L.map Note.cn = M.map Note.cn) (i : Nat) : L[i]?.map Note.cn = M[i]?.map Note.cn:=by
  have:=congrArg (·[i]?) h
  simpa only [List.getElem?_map] using this
theorem heads_cn {a b : Note} (h : a.cn = b.cn) : a.heads.l = b.heads.l:=by
  have:=congrArg Note.heads h
  exact of_inj.1 this
theorem neat_cn {L M : List Note} (h : L.map Note.cn = M.map Note.cn) (k : Neat L) : Neat M:=by
  refine ⟨fun i a b h1 h2 => ?_,fun i n h1 x hx ht => ?_⟩
  · obtain ⟨c,c1,c2⟩:=at_cn h h1
    obtain ⟨d,d1,d2⟩:=at_cn h h2
    rw [← oneB_cn,← c2,← d2,oneB_cn]
    exact k.1 i c d c1 d1
  · obtain ⟨c,c1,c2⟩:=at_cn h h1
    rw [← keepTie_cn,← c2,← opt_cn h,keepTie_cn]
    exact k.2 i c c1 x (by rw [heads_cn c2]; exact hx) ht
theorem neat_iff {l : List Note} : (tidyP l).map Note.cn = l.map Note.cn ↔ Neat l :=
  ⟨fun h => neat_cn h neat_tidy,fun h => by rw [tidy_id h]⟩
end
end Go.Hem
namespace Go.Hem
noncomputable section
structure NFit (L : Int) (n : Note) : Prop where
  lo : 0 ≤ n.at_
  one : 1 ≤ n.len
  hi : n.at_ + n.len ≤ L
  ok : chordE n = 0
def Before (m n : Note) : Prop:=m.at_ + m.len ≤ n.at_
structure Row (L : Int) (l : List Note) : Prop where
  fit : ∀ n ∈ l,NFit L n
  ord : l.Pairwise Before
theorem NFit.fin_eq {L : Int} {n : Note} (h : NFit L n) (hL : L ≤ 123863040) : n.fin = n.at_ + n.len:=by
  have:=h.lo; have:=h.one; have:=h.hi
  unfold Note.fin
  exact w64 (by omega) (by omega)
theorem row_nil {L : Int} : Row L []:=⟨by simp,.nil⟩
theorem checkL_row {L : Int} (h0 : 0 ≤ L) (hL : L ≤ 123863040) : ∀ {l : List Note} {p : Option Note},(∀ m,p = some m→NFit L m)→checkL L p l = 0→Row L l∧∀ m,p = some m→∀ n ∈ l,Before m n
  | [],p,_,_ => ⟨row_nil,by simp⟩
  | n :: t,p,hp,h => by
    simp only [checkL] at h
    by_cases c1 : outR L n
    · rw [if_pos c1] at h; simp at h
    rw [if_neg c1] at h
    by_cases c2 : early p n
    · rw [if_pos c2] at h; simp at h
    rw [if_neg c2] at h
    by_cases c3 : chordE n ≠ 0
    · rw [if_pos c3] at h; exact absurd h c3
    rw [if_neg c3] at h
    have c3' : chordE n = 0:=by simpa using c3
    unfold outR at c1
    have q1 : 0 ≤ n.at_:=by omega
    have q2 : 1 ≤ n.len:=by omega
    have q3 : n.at_ ≤ L:=by omega
    have q4 : IntKind.i64.wrap (L - n.at_) = L - n.at_:=w64 (by omega) (by omega)
    rw [q4] at c1
    have fn : NFit L n:=⟨q1,q2,by omega,c3'⟩
    obtain ⟨r1,r2⟩:=checkL_row h0 hL (p:=some n) (fun m e => by cases e; exact fn) h
    have hb : ∀ m,p = some m→Before m n:=fun m e => by
      subst e
      have:=(hp m rfl).fin_eq hL
      simp only [early] at c2
      unfold Before; omega
    refine ⟨⟨fun x hx => ?_,List.pairwise_cons.2 ⟨r2 n rfl,r1.ord⟩⟩,fun m e x hx => ?_⟩
    · rcases List.mem_cons.1 hx with rfl | hx
      · exact fn
      · exact r1.fit x hx
    · rcases List.mem_cons.1 hx with rfl | hx
      · exact hb m e
      · have a:=hb m e
        have b:=r2 n rfl x hx
        unfold Before at a b ⊢; omega
theorem row_checkL {L : Int} (h0 : 0 ≤ L) (hL : L ≤ 123863040) : ∀ {l : List Note} {p : Option Note},(∀ m,p = some m→NFit L m∧∀ n ∈ l,Before m n)→Row L l→checkL L p l = 0
  | [],p,_,_ => rfl
  | n :: t,p,hp,h => by
    have fn:=h.fit n (by simp)
    have:=fn.lo; have:=fn.one; have:=fn.hi
    have q4 : IntKind.i64.wrap (L - n.at_) = L - n.at_:=w64 (by omega) (by omega)
    simp only [checkL]
    rw [if_neg (by unfold outR; rw [q4]; omega),if_neg,if_neg (by rw [fn.ok]; simp)]
    · obtain ⟨a,b⟩:=List.pairwise_cons.1 h.ord
      exact row_checkL h0 hL (fun m e => by cases e; exact ⟨fn,a⟩) ⟨fun x hx => h.fit x (by simp [hx]),b⟩
    · cases p with
      | none => exact fun h => h
      | some m =>
        obtain ⟨a,b⟩:=hp m rfl
        have:=a.fin_eq hL
        have:=b n (by simp)
        simp only [early]
        unfold Before at this; omega
structure Good (c : Clip) : Prop where
  lo : 0 ≤ c.len
  hi : c.len ≤ 123863040
  row : Row c.len c.notes.l
  neat : Neat c.notes.l
theorem good_of {c : Clip} (h : checkE c = 0) : Good c:=by
  unfold checkE at h
  by_cases c1 : c.len < 0 ∨ 123863040 < c.len
  · rw [if_pos c1] at h; simp at h
  rw [if_neg c1] at h
  by_cases c2 : 4096 < c.notes.l.length
  · rw [if_pos c2] at h; simp at h
  rw [if_neg c2] at h
  by_cases c3 : checkL c.len none c.notes.l ≠ 0
  · rw [if_pos c3] at h; exact absurd h c3
  rw [if_neg c3] at h
  by_cases c4 : (tidyP c.notes.l).map Note.cn = c.notes.l.map Note.cn
  · exact ⟨by omega,by omega,(checkL_row (by omega) (by omega) (p:=none) (fun m e => by cases e) (by simpa using c3)).1,neat_iff.1 c4⟩
  · rw [if_neg c4] at h; simp at h
theorem check_of {c : Clip} (h : Good c) (hl : c.notes.l.length ≤ 4096) : checkE c = 0:=by
  unfold checkE
  have:=h.lo; have:=h.hi
  rw [if_neg (by omega),if_neg (by omega),row_checkL h.lo h.hi (fun m e => by cases e) h.row,if_neg (by simp),if_pos (neat_iff.2 h.neat)]
theorem headsL_of : ∀ {l m : List Head} {q : Int},l.map Head.pitch = m.map Head.pitch→l.map Head.shown = m.map Head.shown→headsL q l = headsL q m
  | [],[],_,_,_ => rfl
  | [],_ :: _,_,h,_ => by simp at h
  | _ :: _,[],_,h,_ => by simp at h
  | x :: l,y :: m,q,h1,h2 => by
    simp only [List.map_cons,List.cons.injEq] at h1 h2
    have e : wellE x = wellE y:=by unfold wellE; rw [h1.1,h2.1]
    simp only [headsL]
    rw [e,h1.1,headsL_of h1.2 h2.2]
theorem headsE_of {l m : List Head} (h1 : l.map Head.pitch = m.map Head.pitch) (h2 : l.map Head.shown = m.map Head.shown) : headsE l = headsE m:=by
  unfold headsE
  rw [map_inj_len h1,headsL_of h1 h2]
theorem chordE_of {a b : Note} (h1 : a.heads.l.map Head.pitch = b.heads.l.map Head.pitch) (h2 : a.heads.l.map Head.shown = b.heads.l.map Head.shown) (h3 : a.graces.l = b.graces.l) (h4 : a.lyrics.l = b.lyrics.l) (h5 : a.articulations = b.articulations) (h6 : a.ornament = b.ornament) (h7 : a.dynamic = b.dynamic) : chordE a = chordE b:=by
  unfold chordE
  rw [headsE_of h1 h2,h3,h4,h5,h6,h7]
theorem chordE_untie {n : Note} {nx : Option Note} : chordE (untieN n nx) = chordE n :=
  chordE_of (untieN_hmap fun _ _ => rfl) (untieN_hmap fun _ _ => rfl) rfl rfl rfl rfl rfl
theorem chordE_merge {a x : Note} (h : oneB a x = true) : chordE (merge a x) = chordE a:=by
  have hl:=oneB_len h
  exact chordE_of (by rw [merge_heads]; exact tieTo_map (fun _ _ => rfl) hl) (by rw [merge_heads]; exact tieTo_map (fun _ _ => rfl) hl) rfl rfl rfl rfl rfl
theorem set_last {α : Type} {P : List α} {a b : α} : (P ++ [a]).set ((P ++ [a]).length - 1) b = P ++ [b]:=by
  rw [List.set_append_right _ _ (by simp)]; simp
theorem step_row {L : Int} (hL : L ≤ 123863040) {P l : List Note} {x : Note} (h : Row L (P ++ x :: l)) : Row L (stepT P x ++ l):=by
  unfold stepT
  cases hl : P.getLast? with
  | none =>
    have : P = []:=List.getLast?_eq_none_iff.1 hl
    subst this
    exact h
  | some a =>
    simp only
    cases h1 : oneB a x with
    | false => rw [if_neg (by simp)]; simpa using h
    | true =>
      rw [if_pos rfl]
      obtain ⟨Q,rfl⟩ : ∃ Q,P = Q ++ [a]:=by
        have hne : P ≠ []:=fun e => by subst e; cases hl
        refine ⟨P.dropLast,?_⟩
        have:=List.dropLast_concat_getLast hne
        rw [List.getLast?_eq_some_getLast hne,Option.some.injEq] at hl
        rw [hl] at this; exact this.symm
      rw [set_last]
      have fa:=h.fit a (by simp)
      have fx:=h.fit x (by simp)
      have hf : a.fin = x.at_:=by unfold oneB at h1; simp only [Bool.and_eq_true,decide_eq_true_eq] at h1; exact h1.1
      rw [fa.fin_eq hL] at hf
      have b1:=fa.lo; have b2:=fa.one; have b3:=fa.hi; have b4:=fx.lo; have b5:=fx.one; have b6:=fx.hi
      have e1 : (merge a x).len = a.len + x.len:=by show IntKind.i64.wrap _ = _; exact w64 (by omega) (by omega)
      have e2 : (merge a x).at_ = a.at_:=rfl
      have ho:=h.ord
      rw [List.append_assoc,List.pairwise_append] at ho
      obtain ⟨o1,o2,o3⟩:=ho
      simp only [List.cons_append,List.nil_append] at o2
      rw [List.pairwise_cons,List.pairwise_cons] at o2
      refine ⟨fun n hn => ?_,?_⟩
      · rw [List.append_assoc,List.mem_append] at hn
        simp only [List.cons_append,List.nil_append,List.mem_cons] at hn
        rcases hn with hn | rfl | hn
        · exact h.fit n (by simp [hn])
        · exact ⟨by omega,by omega,by omega,by rw [chordE_merge h1]; exact fa.ok⟩
        · exact h.fit n (by simp [hn])
      · rw [List.append_assoc,List.pairwise_append]
        simp only [List.cons_append,List.nil_append]
        refine ⟨o1,List.pairwise_cons.2 ⟨fun n hn => ?_,o2.2.2⟩,fun c hc n hn => ?_⟩
        · have:=o2.2.1 n hn
          unfold Before at this ⊢; omega
        · rcases List.mem_cons.1 hn with rfl | hn
          · have:=o3 c hc a (by simp)
            unfold Before at this ⊢; omega
          · exact o3 c hc n (by simp [hn])
theorem fold_row {L : Int} (hL : L ≤ 123863040) : ∀ {l P : List Note},Row L (P ++ l)→Row L (l.foldl stepT P)
  | [],P,h => by simpa using h
  | x :: l,P,h => fold_row hL (P:=stepT P x) (l:=l) (step_row hL h)
inductive Same2 : List Note→List Note→Prop
  | nil : Same2 [] []
  | cons {a b : Note} {l m : List Note} : (a.at_ = b.at_∧a.len = b.len∧chordE a = chordE b)→Same2 l m→Same2 (a :: l) (b :: m)
theorem row_map {L : Int} : ∀ {l m : List Note},Same2 l m→Row L l→Row L m:=by
  intro l m h
  have key : ∀ (p : Note) (l m : List Note),Same2 l m→(∀ x ∈ l,Before p x)→∀ x ∈ m,Before p x:=by
    intro p l m h
    induction h with
    | nil => intro _ x hx; simp at hx
    | cons h1 h2 ih =>
      rename_i a b l m
      intro k x hx
      rcases List.mem_cons.1 hx with rfl | hx
      · have:=k a (by simp)
        unfold Before at this ⊢; omega
      · exact ih (fun y hy => k y (by simp [hy])) x hx
  induction h with
  | nil => intro h; exact h
  | cons h1 h2 ih =>
    rename_i a b l m
    intro h
    obtain ⟨o1,o2⟩:=List.pairwise_cons.1 h.ord
    have r:=ih ⟨fun x hx => h.fit x (by simp [hx]),o2⟩
    have f:=h.fit a (by simp)
    refine ⟨fun x hx => ?_,List.pairwise_cons.2 ⟨fun x hx => ?_,r.ord⟩⟩
    · rcases List.mem_cons.1 hx with rfl | hx
      · exact ⟨by rw [← h1.1]; exact f.lo,by rw [← h1.2.1]; exact f.one,by rw [← h1.1,← h1.2.1]; exact f.hi,by rw [← h1.2.2]; exact f.ok⟩
      · exact r.fit x hx
    · have:=key a l m h2 o1 x hx
      unfold Before at this ⊢; omega
theorem forall_untie : ∀ {l : List Note},Same2 l (untie l)
  | [] => .nil
  | n :: t => .cons ⟨rfl,rfl,chordE_untie.symm⟩ forall_untie
theorem tidy_row {L : Int} (hL : L ≤ 123863040) {l : List Note} (h : Row L l) : Row L (tidyP l):=row_map forall_untie (fold_row hL (P:=[]) h)
end
end Go.Hem
namespace Go.Hem
noncomputable section
def strQ (num den v : Int) : Int:=IntKind.i64.wrap ((IntKind.i64.wrap (v * num)).tdiv den)
def Note.str (num den : Int) (n : Note) : Note:={ n with at_:=strQ num den n.at_,len:=strQ num den n.len }
def ratio (num den : Int) : Prop:=1 ≤ num∧num ≤ 64∧1 ≤ den∧den ≤ 64
instance {num den : Int} : Decidable (ratio num den):=by unfold ratio; exact inferInstance
theorem frz_tup {I : Bool} {d : Nat} {H : AHeap} {v u : AV} {fp : List Nat} {x : Sc} (h : OwnX I d H v u fp) (hd : d ≤ 19) : Frz (.tup [v,.sc x]) H (.tup [u,.sc x]):=by
  obtain ⟨H1,h1,h2,_⟩:=freezeV_own (h.mono hd)
  refine ⟨H1,?_,?_⟩
  · have e : ∀ k (l : List AV) H,freezeV (k + 1) (.tup l) H = (freezeL (freezeV k) l H).map fun r => (.tup r.1,r.2):=fun _ _ _ => rfl
    have e2 : ∀ k H,freezeV (k + 1) (.sc x) H = some (.sc x,H):=fun _ _ => rfl
    show freezeV (19 + 1) _ _ = _
    rw [e,freezeL,h1,Option.bind_some,freezeL,e2 18,Option.bind_some,freezeL]; rfl
  · simp only [AV.closedB,AV.closedBs,h2,Bool.and_self]
theorem frz_err {H : AHeap} {e : Int} : Frz (.tup [.agg [.sc (.int .i64 0),.sc .nils],.sc (.int .i64 e)]) H (.tup [Clip.enc ⟨0,none⟩,.sc (.int .i64 e)]) :=
  frz_tup (own_closed (d:=3) (cs:=(Clip.enc ⟨0,none⟩).cells) (Clip.enc_plain _)) (by decide)
theorem frz_clip {H : AHeap} {c : Clip} {v : AV} {f : List Nat} {e : Int} (h : Own 4 H v (slm Note.enc c.notes) f) : Frz (.tup [.agg [.sc (.int .i64 c.len),v],.sc (.int .i64 e)]) H (.tup [c.enc,.sc (.int .i64 e)]) :=
  frz_tup (I:=true) (d:=5) (fp:=[] ++ (f ++ [])) ⟨c.enc.cells,rfl,.cons .scal (.cons h .nil Apart.nil_right) Apart.nil_left⟩ (by decide)
end
end Go.Hem
namespace Go.Hem
def okTrue : XR AV→Bool
  | .ok (.sc (.bool b)) => b
  | _ => false
theorem okTrue_spec {r : XR AV} (h : okTrue r = true) : r = .ok (.sc (.bool true)):=by
  unfold okTrue at h
  split at h
  · subst h; rfl
  · cases h
theorem known_run : okTrue (xPure (X prog polS memo0 1000) 9 []) = true:=by decide +kernel
theorem known_pv : Pv prog polS 9 [] (.sc (.bool true)):=pv_of_x memo0_ok rfl (okTrue_spec known_run)
end Go.Hem
namespace Go.Hem
noncomputable section
def sylS (s : Syllable) : Bool:=decide (s.text.size ≤ 300)
def noteS (n : Note) : Bool:=decide (n.heads.l.length ≤ 12) && (decide (n.graces.l.length ≤ 12) && (decide (n.lyrics.l.length ≤ 6) && n.lyrics.l.all sylS))
def Clip.smallB (c : Clip) : Bool:=decide (c.notes.l.length ≤ 20) && c.notes.l.all noteS
theorem noteS_tame {n : Note} (h : noteS n = true) : n.tame:=by
  unfold noteS at h
  simp only [Bool.and_eq_true,decide_eq_true_eq] at h
  obtain ⟨h1,h2,h3,h4⟩:=h
  refine ⟨by omega,by omega,by omega,fun s hs => ?_⟩
  have:=List.all_eq_true.1 h4 s hs
  simp only [sylS,decide_eq_true_eq] at this; omega
theorem smallB_tame {c : Clip} (h : c.smallB = true) : c.tame:=by
  unfold Clip.smallB at h
  simp only [Bool.and_eq_true,decide_eq_true_eq] at h
  exact ⟨by omega,fun x hx => noteS_tame (List.all_eq_true.1 h.2 x hx)⟩
theorem small_pv (c : Clip) : Pv prog polS 10 [c.enc] (.sc (.bool c.smallB)):=by
  refine Pv_of' ok10 (by simp only [AV.closedBs,Clip.enc_closed,Bool.and_self]) ?_
  generalize hr : c.smallB = r
  unfold Clip.smallB at hr
  by_cases b1 : (20 : Int) < (c.notes.l.length : Int)
  · rw [decide_eq_false (by omega),Bool.false_and] at hr; subst hr
    simp -implicitDefEqProofs (maxDischargeDepth:=12) only [wpF,cf10,WW,List.replicate,Option.some_or,s_conv,e_conv,s_slc3,e_cut3,e_cut3n,e_bns,e_bnn,e_splice,if_true,if_false,ite_true,ite_false,true_or,ne_eq,seval,h_putc,beq_self_eq_true,eq_self,exists_eq_left,exists_eq_left',c.enc_eq,b1]
    exact frz_sc
  rw [decide_eq_true (by omega),Bool.true_and] at hr
  simp -implicitDefEqProofs (maxDischargeDepth:=12) only [wpF,cf10,WW,List.replicate,Option.some_or,s_conv,e_conv,s_slc3,e_cut3,e_cut3n,e_bns,e_bnn,e_splice,if_true,if_false,ite_true,ite_false,true_or,ne_eq,seval,h_putc,beq_self_eq_true,eq_self,exists_eq_left,exists_eq_left',c.enc_eq,b1]
  refine wp_loop (Inv:=fun k t H => ∃ (i : Nat),i + k = c.notes.l.length∧(c.notes.l.take i).all noteS = true∧H.cells 0 = some c.enc.cells∧1 ≤ H.next ∧
    ∃ x : Nat→AV,t = [c.enc,.ptr 0 0,x 2,.sc (.int .i64 i),x 4,x 5,x 6,x 7,x 8,x 9,x 10,x 11,x 12,x 13,x 14,x 15,x 16,x 17,x 18,x 19,x 20,x 21,x 22,x 23,x 24,x 25,x 26,x 27,x 28,x 29,x 30,x 31,x 32,x 33,x 34,x 35,x 36,x 37,x 38,x 39,x 40,x 41,x 42,x 43,x 44,x 45,x 46,x 47,x 48,x 49,x 50,x 51,x 52]) (k:=c.notes.l.length) ?_
    ⟨0,by omega,by simp,?_,by simp,ex_x rfl⟩
  rotate_left
  · simp -implicitDefEqProofs (maxDischargeDepth:=12) only [WW,List.replicate,Option.some_or,s_conv,e_conv,s_slc3,e_cut3,e_cut3n,e_bns,e_bnn,e_splice,if_true,if_false,ite_true,ite_false,true_or,ne_eq,seval,h_putc,beq_self_eq_true,eq_self,exists_eq_left,exists_eq_left']; rfl
  rintro k t H ⟨i,hk,hf,hA,hN,x,rfl⟩
  simp only [c.enc_eq,c_agg] at hA
  by_cases c1 : (i : Int) < (c.notes.l.length : Int)
  rotate_left
  · rw [List.take_of_length_le (by omega)] at hf
    rw [hf] at hr; subst hr
    simp -implicitDefEqProofs (maxDischargeDepth:=12) only [WW,List.replicate,Option.some_or,s_conv,e_conv,s_slc3,e_cut3,e_cut3n,e_bns,e_bnn,e_splice,if_true,if_false,ite_true,ite_false,true_or,ne_eq,seval,h_putc,beq_self_eq_true,eq_self,exists_eq_left,exists_eq_left',hA,c1]
    exact frz_sc
  obtain ⟨y,hy⟩ : ∃ y,c.notes.l[i]? = some y:=⟨_,List.getElem?_eq_getElem (by omega)⟩
  have e2 : IntKind.i64.wrap ((i : Int) + 1) = ((i + 1 : Nat) : Int):=by rw [w64 (by omega) (by omega)]; omega
  have q0 : ¬ 0 = H.next:=by omega
  have q1 : ¬ H.next = 0:=by omega
  have no : noteS y = false→r = false:=fun h => by rw [all_no hy h] at hr; exact hr.symm
  by_cases c3 : (12 : Int) < (y.heads.l.length : Int)
  · rw [no (by unfold noteS; rw [decide_eq_false (by omega),Bool.false_and])]
    simp -implicitDefEqProofs (maxDischargeDepth:=12) only [WW,List.replicate,Option.some_or,s_conv,e_conv,s_slc3,e_cut3,e_cut3n,e_bns,e_bnn,e_splice,if_true,if_false,ite_true,ite_false,true_or,ne_eq,seval,h_putc,beq_self_eq_true,eq_self,exists_eq_left,exists_eq_left',hA,c1,hy,y.enc_eq,q0,q1,c3]
    exact frz_sc
  by_cases c4 : (12 : Int) < (y.graces.l.length : Int)
  · rw [no (by unfold noteS; rw [decide_eq_false (p:=y.graces.l.length ≤ 12) (by omega),Bool.false_and,Bool.and_false])]
    simp -implicitDefEqProofs (maxDischargeDepth:=12) only [WW,List.replicate,Option.some_or,s_conv,e_conv,s_slc3,e_cut3,e_cut3n,e_bns,e_bnn,e_splice,if_true,if_false,ite_true,ite_false,true_or,ne_eq,seval,h_putc,beq_self_eq_true,eq_self,exists_eq_left,exists_eq_left',hA,c1,hy,y.enc_eq,q0,q1,c3,c4]
    exact frz_sc
  by_cases c5 : (6 : Int) < (y.lyrics.l.length : Int)
  · rw [no (by unfold noteS; rw [decide_eq_false (p:=y.lyrics.l.length ≤ 6) (by omega),Bool.false_and,Bool.and_false,Bool.and_false])]
    simp -implicitDefEqProofs (maxDischargeDepth:=12) only [WW,List.replicate,Option.some_or,s_conv,e_conv,s_slc3,e_cut3,e_cut3n,e_bns,e_bnn,e_splice,if_true,if_false,ite_true,ite_false,true_or,ne_eq,seval,h_putc,beq_self_eq_true,eq_self,exists_eq_left,exists_eq_left',hA,c1,hy,y.enc_eq,q0,q1,c3,c4,c5]
    exact frz_sc
  have hns : noteS y = y.lyrics.l.all sylS:=by
    unfold noteS; rw [decide_eq_true (p:=y.heads.l.length ≤ 12) (by omega),decide_eq_true (p:=y.graces.l.length ≤ 12) (by omega),decide_eq_true (p:=y.lyrics.l.length ≤ 6) (by omega)]
    simp only [Bool.true_and]
  simp -implicitDefEqProofs (maxDischargeDepth:=12) only [WW,List.replicate,Option.some_or,s_conv,e_conv,s_slc3,e_cut3,e_cut3n,e_bns,e_bnn,e_splice,if_true,if_false,ite_true,ite_false,true_or,ne_eq,seval,h_putc,beq_self_eq_true,eq_self,exists_eq_left,exists_eq_left',hA,c1,hy,y.enc_eq,q0,q1,c3,c4,c5]
  generalize hq : H.next = q at q0 q1 hN
  generalize hH1 : AHeap.put _ q _ = H1
  have n1 : H1.next = q + 1:=by subst hH1; simp only [AHeap.next_put,AHeap.next_alloc,hq]
  have cq:=congrArg (fun H => AHeap.cells H q) hH1
  have c0:=congrArg (fun H => AHeap.cells H 0) hH1
  simp -implicitDefEqProofs (maxDischargeDepth:=12) only [WW,List.replicate,Option.some_or,s_conv,e_conv,s_slc3,e_cut3,e_cut3n,e_bns,e_bnn,e_splice,if_true,if_false,ite_true,ite_false,true_or,ne_eq,seval,h_putc,beq_self_eq_true,eq_self,exists_eq_left,exists_eq_left',hq,q0,hA] at cq c0
  replace cq:=cq.symm
  replace c0:=c0.symm
  clear hH1
  refine wp_loop (Inv:=fun k2 t H => H = H1∧∃ (j : Nat),j + k2 = y.lyrics.l.length∧(y.lyrics.l.take j).all sylS = true ∧
    ∃ x : Nat→AV,t = [c.enc,.ptr 0 0,x 2,.sc (.int .i64 i),.ptr q 0,.sc (.int .i64 j),x 6,x 7,x 8,x 9,x 10,x 11,x 12,x 13,x 14,x 15,x 16,x 17,x 18,x 19,x 20,x 21,x 22,x 23,x 24,x 25,x 26,x 27,x 28,x 29,x 30,x 31,x 32,x 33,x 34,x 35,x 36,x 37,x 38,x 39,x 40,x 41,x 42,x 43,x 44,x 45,x 46,x 47,x 48,x 49,x 50,x 51,x 52]) (k:=y.lyrics.l.length) ?_
    ⟨rfl,0,by omega,by simp,ex_x rfl⟩
  clear x
  rintro k2 t _ ⟨rfl,j,hk2,hs,x,rfl⟩
  by_cases d1 : (j : Int) < (y.lyrics.l.length : Int)
  rotate_left
  · rw [List.take_of_length_le (by omega)] at hs
    simp -implicitDefEqProofs (maxDischargeDepth:=12) only [WW,List.replicate,Option.some_or,s_conv,e_conv,s_slc3,e_cut3,e_cut3n,e_bns,e_bnn,e_splice,if_true,if_false,ite_true,ite_false,true_or,ne_eq,seval,h_putc,beq_self_eq_true,eq_self,exists_eq_left,exists_eq_left',cq,c0,d1,e2]
    exact ⟨k - 1,by omega,i + 1,by omega,by rw [all_take hy hf,hns]; exact hs,rfl,by omega,ex_x rfl⟩
  obtain ⟨z,hz⟩ : ∃ z,y.lyrics.l[j]? = some z:=⟨_,List.getElem?_eq_getElem (by omega)⟩
  have e3 : IntKind.i64.wrap ((j : Int) + 1) = ((j + 1 : Nat) : Int):=by rw [w64 (by omega) (by omega)]; omega
  by_cases d2 : (300 : Int) < (z.text.size : Int)
  · rw [no (by rw [hns]; exact all_no hz (by unfold sylS; exact decide_eq_false (by omega)))]
    simp -implicitDefEqProofs (maxDischargeDepth:=12) only [WW,List.replicate,Option.some_or,s_conv,e_conv,s_slc3,e_cut3,e_cut3n,e_bns,e_bnn,e_splice,if_true,if_false,ite_true,ite_false,true_or,ne_eq,seval,h_putc,beq_self_eq_true,eq_self,exists_eq_left,exists_eq_left',cq,c0,d1,hz,z.enc_eq,d2]
    exact frz_sc
  · simp -implicitDefEqProofs (maxDischargeDepth:=12) only [WW,List.replicate,Option.some_or,s_conv,e_conv,s_slc3,e_cut3,e_cut3n,e_bns,e_bnn,e_splice,if_true,if_false,ite_true,ite_false,true_or,ne_eq,seval,h_putc,beq_self_eq_true,eq_self,exists_eq_left,exists_eq_left',cq,c0,d1,hz,z.enc_eq,d2,e3]
    exact ⟨k2 - 1,by omega,j + 1,by omega,by rw [all_take hz hs]; unfold sylS; exact decide_eq_true (by omega),ex_x rfl⟩
theorem chord_tames {c : Clip} (h : c.tame) : ∀ x ∈ c.notes.l,x.chord.tame:=fun x hx => Note.chord_tame (h.2 x hx)
end
end Go.Hem
namespace Go.Hem
noncomputable section
def ClosedQ {α : Type} (f : α→AV) : RQ α:=fun _ r x g => r = (f x).cells∧g = []
theorem closedQ {α : Type} {n : Nat} {f : α→AV} (row : RowOf n f) (hl : ∀ x,(f x).cells.length = n) (hp : ∀ x,AV.plain2 (f x) = true) (ha : ∀ x,∃ cs,f x = .agg cs) : RowQ n 3 f (ClosedQ f) where
  row:=row
  len:=by rintro H r x g ⟨rfl,rfl⟩; exact hl x
  fr:=by rintro H H' r x g h _; exact h
  lt:=by rintro H r x g ⟨rfl,rfl⟩ b hb; simp at hb
  own:=by
    rintro H r x g ⟨rfl,rfl⟩
    refine ⟨[],OwnL.plain fun v hv => ?_,fun _ h => h⟩
    obtain ⟨cs,e⟩:=ha x
    have:=hp x
    rw [e] at this hv
    simp only [AV.plain2,List.all_eq_true] at this
    exact this v hv
def NoteC : RQ Note:=ClosedQ Note.enc
theorem noteC : RowQ 8 3 Note.enc NoteC:=closedQ row_Note (fun _ => rfl) Note.enc_plain fun _ => ⟨_,rfl⟩
end
end Go.Hem
namespace Go.Hem
noncomputable section
def noClip : Clip:=⟨0,none⟩
theorem noClip_enc : noClip.enc = .agg [.sc (.int .i64 0),.sc .nils]:=rfl
theorem noClip_tame : noClip.tame:=⟨by decide,fun x hx => by simp [noClip,Sl.l] at hx⟩
end
end Go.Hem
namespace Go.Hem
noncomputable section
def Note.untied (n : Note) : Note:={ n with heads:=n.heads.map (List.map fun h => h.tie false) }
def Note.part (n : Note) (b : Int) : Note:=if n.at_ < b then n.bare else n
def Note.cutTie (n m : Note) (e : Int) : Note:=if e < n.fin then m.untied else m
def limitP (n : Note) (b e : Int) : Note:={ n.cutTie (n.part b) e with at_:=IntKind.i64.wrap (max n.at_ b - b),len:=IntKind.i64.wrap (min n.fin e - max n.at_ b) }
theorem frz_note {H0 H : AHeap} {x : Note} {r : List AV} {g : List Nat} (h : NoteQ H0 r x g) (k : ∀ c ∈ g,H.cells c = H0.cells c) : Frz (.agg r) H x.enc:=by
  obtain ⟨g',o1,_⟩:=noteQ_own (noteQ.fr h k)
  exact OwnX.frz o1 (by decide)
theorem limit_pv (x : Note) (tx : x.tame) (b e : Int) : Pv prog polS 39 [x.enc,.sc (.int .i64 b),.sc (.int .i64 e)] (limitP x b e).enc:=by
  refine Pv_of' ok39 (by simp only [AV.closedBs,Note.enc_closed,AV.closedB,Bool.and_self]) ?_
  generalize hrr : limitP x b e = rr
  have hr0 : { x.cutTie (if x.at_ < b then x.bare else x) e with at_:=IntKind.i64.wrap (max x.at_ b - b),len:=IntKind.i64.wrap (min x.fin e - max x.at_ b) } = rr:=hrr
  clear hrr
  simp -implicitDefEqProofs (maxDischargeDepth:=12) only [wpF,cf39,WW,List.replicate,Option.some_or,s_conv,e_conv,s_slc3,e_cut3,e_cut3n,e_bns,e_bnn,e_splice,if_true,if_false,ite_true,ite_false,true_or,ne_eq,seval,h_putc,beq_self_eq_true,eq_self,exists_eq_left,exists_eq_left',x.enc_eq]
  rw [← x.enc_eq]
  refine wA_call rfl ((clone_ok x tx _).mono ?_)
  rintro o H2 ⟨r,g,rfl,hr,hF⟩
  refine ⟨_,rfl,?_⟩
  have n2:=hF.2.1
  have c0:=hF.2.2 0 (by simp)
  have c1:=hF.2.2 1 (by simp)
  have g2:=hF.1
  simp -implicitDefEqProofs (maxDischargeDepth:=12) only [WW,List.replicate,Option.some_or,s_conv,e_conv,s_slc3,e_cut3,e_cut3n,e_bns,e_bnn,e_splice,if_true,if_false,ite_true,ite_false,true_or,ne_eq,seval,h_putc,beq_self_eq_true,eq_self,exists_eq_left,exists_eq_left',x.enc_eq] at c0 c1 n2 g2
  clear hF
  have hrl : r.length = 8:=noteQ.len hr
  have hones:=hr.ones
  have glt:=noteQ.lt hr
  generalize hq : H2.next = q at n2
  have sp : splice [AV.sc (.int .i64 0),.sc (.int .i64 0),.sc .nils,.sc .nils,.sc (.int .i64 0),.sc (.int .i64 0),.sc (.int .i64 0),.sc .nils] 0 r = r:=splice_full (by rw [hrl]; rfl)
  have n0 : ¬ 0 = q:=by omega
  have n1 : ¬ 1 = q:=by omega
  simp -implicitDefEqProofs (maxDischargeDepth:=12) only [WW,List.replicate,Option.some_or,s_conv,e_conv,s_slc3,e_cut3,e_cut3n,e_bns,e_bnn,if_true,if_false,ite_true,ite_false,true_or,ne_eq,seval,beq_self_eq_true,eq_self,exists_eq_left,exists_eq_left',hrl,hones,sp,c0,n0,n1,hq]
  generalize hH : AHeap.put _ q _ = H
  have p0:=congrArg (fun H => AHeap.cells H 0) hH
  have p1:=congrArg (fun H => AHeap.cells H 1) hH
  have pq:=congrArg (fun H => AHeap.cells H q) hH
  have nH : H.next = q + 1:=by subst hH; simp only [AHeap.next_put,AHeap.next_alloc,hq]
  have hr' : NoteQ H r x g:=noteQ.fr hr fun c hc => by have:=glt c hc; subst hH; rw [c_put_ne (by omega),c_alloc_ne (by omega)]
  simp -implicitDefEqProofs (maxDischargeDepth:=12) only [WW,List.replicate,Option.some_or,s_conv,e_conv,s_slc3,e_cut3,e_cut3n,e_bns,e_bnn,e_splice,if_true,if_false,ite_true,ite_false,true_or,ne_eq,seval,h_putc,beq_self_eq_true,eq_self,exists_eq_left,exists_eq_left',hq,n0,n1,c0,c1] at p0 p1 pq
  replace p0:=p0.symm
  replace p1:=p1.symm
  replace pq:=pq.symm
  have hgq : ∀ c ∈ g,2 ≤ c∧c ≠ q:=fun c hc => by have:=glt c hc; have:=g2 c hc; omega
  clear hH hr g2 glt c0 c1 sp hq
  by_cases b1 : x.at_ < b
  · rw [if_pos b1] at hr0
    simp -implicitDefEqProofs (maxDischargeDepth:=12) only [WW,List.replicate,Option.some_or,s_conv,e_conv,s_slc3,e_cut3,e_cut3n,e_bns,e_bnn,e_splice,if_true,if_false,ite_true,ite_false,true_or,ne_eq,seval,h_putc,beq_self_eq_true,eq_self,exists_eq_left,exists_eq_left',p0,n0,b1]
    rw [← x.enc_eq]
    refine wA_call rfl ((bare_ok x tx.heads _).mono ?_)
    rintro o H3 ⟨r3,g3,rfl,hr3,hF3⟩
    refine ⟨_,rfl,?_⟩
    have hrl3 : r3.length = 8:=noteQ.len hr3
    have hones3:=hr3.ones
    have glt3:=noteQ.lt hr3
    have n3:=hF3.2.1
    have d0:=(hF3.2.2 0 (by omega)).trans p0
    have d1:=(hF3.2.2 1 (by omega)).trans p1
    have dq:=(hF3.2.2 q (by omega)).trans pq
    have sp : splice r 0 r3 = r3:=splice_full (by rw [hrl,hrl3])
    simp -implicitDefEqProofs (maxDischargeDepth:=12) only [WW,List.replicate,Option.some_or,s_conv,e_conv,s_slc3,e_cut3,e_cut3n,e_bns,e_bnn,if_true,if_false,ite_true,ite_false,true_or,ne_eq,seval,beq_self_eq_true,eq_self,exists_eq_left,exists_eq_left',hrl,hrl3,hones3,sp,dq,n0,n1,d0]
    generalize hH : AHeap.put _ q _ = H4
    have p0':=congrArg (fun H => AHeap.cells H 0) hH
    have p1':=congrArg (fun H => AHeap.cells H 1) hH
    have pq':=congrArg (fun H => AHeap.cells H q) hH
    have hr4 : NoteQ H4 r3 x.bare g3:=noteQ.fr hr3 fun c hc => by have:=hF3.1 c hc; subst hH; rw [c_put_ne (by omega)]
    simp -implicitDefEqProofs (maxDischargeDepth:=12) only [WW,List.replicate,Option.some_or,s_conv,e_conv,s_slc3,e_cut3,e_cut3n,e_bns,e_bnn,e_splice,if_true,if_false,ite_true,ite_false,true_or,ne_eq,seval,h_putc,beq_self_eq_true,eq_self,exists_eq_left,exists_eq_left',n0,n1,d0,d1,dq] at p0' p1' pq'
    have hgq3 : ∀ c ∈ g3,2 ≤ c∧c ≠ q:=fun c hc => by have:=hF3.1 c hc; omega
    clear hH hr' p0 p1 pq d0 d1 dq hF3 hgq nH hrl hones hr3 glt3 sp
    replace p0:=p0'.symm
    replace p1:=p1'.symm
    replace pq:=pq'.symm
    clear p0' p1' pq'
    have hml : x.bare.heads.l.length < 1000000:=by rw [Note.bare_heads,List.length_map]; exact tx.heads
    generalize x.bare = m at hr4 hr0 hml
    rw [show max x.at_ b = b by omega] at hr0
    have hr5:=hr4
    obtain ⟨hv,gv,lv,fh,fg,fl,rfl,m1,m2,m3,m4,m5,m6,m7,m8,rfl⟩:=hr5
    have m1o:=m1.one.1
    have n1q : ¬ q = 1:=fun h => n1 h.symm
    simp only [intE] at pq
    try simp -implicitDefEqProofs (maxDischargeDepth:=12) only [WW,List.replicate,Option.some_or,s_conv,e_conv,s_slc3,e_cut3,e_cut3n,e_bns,e_bnn,e_splice,if_true,if_false,ite_true,ite_false,true_or,ne_eq,seval,h_putc,beq_self_eq_true,eq_self,exists_eq_left,exists_eq_left',p0]
    try rw [← x.enc_eq]
    refine wA_pure rfl (end_pv x) ?_
    by_cases b2 : e < x.fin
    · simp only [Note.cutTie] at hr0
      rw [if_pos b2,show min x.fin e = e by omega] at hr0
      have hl:=m1.length.1
      simp -implicitDefEqProofs (maxDischargeDepth:=12) only [WW,List.replicate,Option.some_or,s_conv,e_conv,s_slc3,e_cut3,e_cut3n,e_bns,e_bnn,e_splice,if_true,if_false,ite_true,ite_false,true_or,ne_eq,seval,h_putc,beq_self_eq_true,eq_self,exists_eq_left,exists_eq_left',p0,p1,pq,hl,n0,n1,n1q,b2]
      refine wp_loop (Inv:=fun k t H' => ∃ (i : Nat) (f' : List Nat),i + k = m.heads.l.length∧AccQ HeadQ 5 H' hv (m.heads.map (mapTo (fun h => h.tie false) i)) f'∧(∀ c ∈ f',c ∈ fh)∧(∀ c,c ∉ fh→H'.cells c = H4.cells c) ∧
        ∃ y : Nat→AV,t = [x.enc,.sc (.int .i64 b),.sc (.int .i64 e),.ptr 0 0,y 4,y 5,.ptr 1 0,.ptr q 0,y 8,y 9,y 10,y 11,y 12,y 13,y 14,y 15,y 16,y 17,y 18,y 19,y 20,y 21,y 22,y 23,.sc (.int .i64 m.heads.l.length),.sc (.int .i64 i),y 26,y 27,y 28,y 29,y 30,y 31,y 32,y 33,y 34,y 35,y 36,y 37,y 38,y 39,y 40,y 41,y 42,y 43,y 44,y 45,y 46,y 47,y 48,y 49]) (k:=m.heads.l.length) ?_ ⟨0,fh,by omega,?_,fun _ h => h,fun _ _ => rfl,ex_x rfl⟩
      rotate_left
      · have : m.heads.map (mapTo (fun h : Head => h.tie false) 0) = m.heads:=by cases m.heads <;> simp [mapTo_zero]
        rw [this]; exact m1
      rintro k t H' ⟨i,f',hk,hA,hf,hst,y,rfl⟩
      have p0':=(hst 0 (fun h => by have:=hgq3 0 (mem3.2 (.inl h)); omega)).trans p0
      have p1':=(hst 1 (fun h => by have:=hgq3 1 (mem3.2 (.inl h)); omega)).trans p1
      have pq':=(hst q (fun h => (hgq3 q (mem3.2 (.inl h))).2 rfl)).trans pq
      by_cases c1 : (i : Int) < (m.heads.l.length : Int)
      · obtain ⟨h,hh⟩ : ∃ y,m.heads.l[i]? = some y:=⟨_,List.getElem?_eq_getElem (by omega)⟩
        have e2 : IntKind.i64.wrap ((i : Int) + 1) = ((i + 1 : Nat) : Int):=by rw [w64 (by omega) (by omega)]; omega
        have eh : ∀ i,m.heads.map (mapTo (fun h : Head => h.tie false) i) = some (mapTo (fun h => h.tie false) i m.heads.l):=fun i => by cases e : m.heads with
          | none => rw [e] at hh; simp [Sl.l] at hh
          | some l => rfl
        rw [eh] at hA
        obtain ⟨bh,cap,cs,a1,a2,a3,a4,a5,a6,a7,a8,a9,a10⟩:=head_cells hA (k:=i) (x:=h) (by rw [l_some]; exact mapTo_get hh)
        rw [l_some,mapTo_len] at a1
        obtain ⟨f2,d1,d2⟩:=a10 false
        subst a1
        have hle : i * 5 + 3 + 1 ≤ cs.length:=by omega
        have il : i < m.heads.l.length:=by omega
        simp -implicitDefEqProofs (maxDischargeDepth:=12) only [WW,List.replicate,Option.some_or,s_conv,e_conv,s_slc3,e_cut3,e_cut3n,e_bns,e_bnn,if_true,if_false,ite_true,ite_false,true_or,ne_eq,seval,beq_self_eq_true,eq_self,exists_eq_left,exists_eq_left',p0',p1',pq',c1,a2,hle,il,e2]
        refine ⟨k - 1,by omega,i + 1,f2,by omega,?_,fun c hc => hf c (d2 c hc),fun c hc => by rw [c_put_ne (fun h => hc (by rw [h]; exact hf bh a9)),hst c hc],ex_x rfl⟩
        rw [l_some,mapTo_set (f:=fun h : Head => h.tie false) hh] at d1
        rw [eh]; exact d1
      · have eA : m.heads.map (mapTo (fun h : Head => h.tie false) i) = m.heads.map (List.map fun h => h.tie false):=by cases e : m.heads with
          | none => rfl
          | some l => rw [e,l_some] at c1; simp only [Option.map_some,Option.some.injEq]; exact mapTo_all (by omega)
        rw [eA] at hA
        simp -implicitDefEqProofs (maxDischargeDepth:=12) only [WW,List.replicate,Option.some_or,s_conv,e_conv,s_slc3,e_cut3,e_cut3n,e_bns,e_bnn,e_splice,if_true,if_false,ite_true,ite_false,true_or,ne_eq,seval,h_putc,beq_self_eq_true,eq_self,exists_eq_left,exists_eq_left',c1,p0',p1',pq',m1o,m4,m5,n0,n1,n1q,b1,b2,x.enc_eq]
        rw [← x.enc_eq]
        refine wA_pure rfl (end_pv x) ?_
        simp -implicitDefEqProofs (maxDischargeDepth:=12) only [WW,List.replicate,Option.some_or,s_conv,e_conv,s_slc3,e_cut3,e_cut3n,e_bns,e_bnn,e_splice,if_true,if_false,ite_true,ite_false,true_or,ne_eq,seval,h_putc,beq_self_eq_true,eq_self,exists_eq_left,exists_eq_left',p0',p1',pq',m1o,m4,m5,n0,n1,n1q,b1,b2]
        refine frz_note (H0:=H') (x:=rr) (g:=f' ++ (fg ++ fl)) ?_ fun c hc => ?_
        · subst hr0
          have hs : ∀ c,c ∈ fg ++ fl→H'.cells c = H4.cells c:=fun c hc => hst c fun h => (List.mem_append.1 hc).elim (fun h2 => m6 c h h2) (fun h2 => m7 c h h2)
          exact ⟨hv,gv,lv,f',fg,fl,rfl,hA,m2.frame fun c hc => hs c (List.mem_append.2 (.inl hc)),m3.frame fun c hc => hs c (List.mem_append.2 (.inr hc)),m4,m5,fun c h1 h2 => m6 c (hf c h1) h2,fun c h1 h2 => m7 c (hf c h1) h2,m8,rfl⟩
        · have:=hgq3 c (mem3.2 ((mem3.1 hc).imp (hf c) id))
          rw [c_put_ne (by omega),c_put_ne this.2,c_put_ne this.2]
    · simp only [Note.cutTie] at hr0
      rw [if_neg b2,show min x.fin e = x.fin by omega] at hr0
      simp -implicitDefEqProofs (maxDischargeDepth:=12) only [WW,List.replicate,Option.some_or,s_conv,e_conv,s_slc3,e_cut3,e_cut3n,e_bns,e_bnn,e_splice,if_true,if_false,ite_true,ite_false,true_or,ne_eq,seval,h_putc,beq_self_eq_true,eq_self,exists_eq_left,exists_eq_left',p0,p1,pq,m1o,m4,m5,n0,n1,n1q,b1,b2,x.enc_eq]
      rw [← x.enc_eq]
      refine wA_pure rfl (end_pv x) ?_
      simp -implicitDefEqProofs (maxDischargeDepth:=12) only [WW,List.replicate,Option.some_or,s_conv,e_conv,s_slc3,e_cut3,e_cut3n,e_bns,e_bnn,e_splice,if_true,if_false,ite_true,ite_false,true_or,ne_eq,seval,h_putc,beq_self_eq_true,eq_self,exists_eq_left,exists_eq_left',p0,p1,pq,m1o,m4,m5,n0,n1,n1q,b1,b2]
      refine frz_note (H0:=H4) (x:=rr) (g:=fh ++ (fg ++ fl)) ?_ fun c hc => ?_
      · subst hr0
        exact ⟨hv,gv,lv,fh,fg,fl,rfl,m1,m2,m3,m4,m5,m6,m7,m8,rfl⟩
      · have:=hgq3 c hc
        rw [c_put_ne (by omega),c_put_ne this.2,c_put_ne this.2]
  · rw [if_neg b1] at hr0
    simp -implicitDefEqProofs (maxDischargeDepth:=12) only [WW,List.replicate,Option.some_or,s_conv,e_conv,s_slc3,e_cut3,e_cut3n,e_bns,e_bnn,e_splice,if_true,if_false,ite_true,ite_false,true_or,ne_eq,seval,h_putc,beq_self_eq_true,eq_self,exists_eq_left,exists_eq_left',p0,n0,b1]
    obtain ⟨m,hm⟩ : ∃ m,m = x:=⟨x,rfl⟩
    have hr4 : NoteQ H r m g:=by rw [hm]; exact hr'
    have hr0' : { x.cutTie m e with at_:=IntKind.i64.wrap (max x.at_ b - b),len:=IntKind.i64.wrap (min x.fin e - max x.at_ b) } = rr:=by rw [hm]; exact hr0
    have hml : m.heads.l.length < 1000000:=by rw [hm]; exact tx.heads
    clear hm hr' hr0
    have hr0:=hr0'
    rw [show max x.at_ b = x.at_ by omega] at hr0
    have hr5:=hr4
    obtain ⟨hv,gv,lv,fh,fg,fl,rfl,m1,m2,m3,m4,m5,m6,m7,m8,rfl⟩:=hr5
    have m1o:=m1.one.1
    have n1q : ¬ q = 1:=fun h => n1 h.symm
    simp only [intE] at pq
    try simp -implicitDefEqProofs (maxDischargeDepth:=12) only [WW,List.replicate,Option.some_or,s_conv,e_conv,s_slc3,e_cut3,e_cut3n,e_bns,e_bnn,e_splice,if_true,if_false,ite_true,ite_false,true_or,ne_eq,seval,h_putc,beq_self_eq_true,eq_self,exists_eq_left,exists_eq_left',p0]
    try rw [← x.enc_eq]
    refine wA_pure rfl (end_pv x) ?_
    by_cases b2 : e < x.fin
    · simp only [Note.cutTie] at hr0
      rw [if_pos b2,show min x.fin e = e by omega] at hr0
      have hl:=m1.length.1
      simp -implicitDefEqProofs (maxDischargeDepth:=12) only [WW,List.replicate,Option.some_or,s_conv,e_conv,s_slc3,e_cut3,e_cut3n,e_bns,e_bnn,e_splice,if_true,if_false,ite_true,ite_false,true_or,ne_eq,seval,h_putc,beq_self_eq_true,eq_self,exists_eq_left,exists_eq_left',p0,p1,pq,hl,n0,n1,n1q,b2]
      refine wp_loop (Inv:=fun k t H' => ∃ (i : Nat) (f' : List Nat),i + k = m.heads.l.length∧AccQ HeadQ 5 H' hv (m.heads.map (mapTo (fun h => h.tie false) i)) f'∧(∀ c ∈ f',c ∈ fh)∧(∀ c,c ∉ fh→H'.cells c = H.cells c) ∧
        ∃ y : Nat→AV,t = [x.enc,.sc (.int .i64 b),.sc (.int .i64 e),.ptr 0 0,y 4,y 5,.ptr 1 0,.ptr q 0,y 8,y 9,y 10,y 11,y 12,y 13,y 14,y 15,y 16,y 17,y 18,y 19,y 20,y 21,y 22,y 23,.sc (.int .i64 m.heads.l.length),.sc (.int .i64 i),y 26,y 27,y 28,y 29,y 30,y 31,y 32,y 33,y 34,y 35,y 36,y 37,y 38,y 39,y 40,y 41,y 42,y 43,y 44,y 45,y 46,y 47,y 48,y 49]) (k:=m.heads.l.length) ?_ ⟨0,fh,by omega,?_,fun _ h => h,fun _ _ => rfl,ex_x rfl⟩
      rotate_left
      · have : m.heads.map (mapTo (fun h : Head => h.tie false) 0) = m.heads:=by cases m.heads <;> simp [mapTo_zero]
        rw [this]; exact m1
      rintro k t H' ⟨i,f',hk,hA,hf,hst,y,rfl⟩
      have p0':=(hst 0 (fun h => by have:=hgq 0 (mem3.2 (.inl h)); omega)).trans p0
      have p1':=(hst 1 (fun h => by have:=hgq 1 (mem3.2 (.inl h)); omega)).trans p1
      have pq':=(hst q (fun h => (hgq q (mem3.2 (.inl h))).2 rfl)).trans pq
      by_cases c1 : (i : Int) < (m.heads.l.length : Int)
      · obtain ⟨h,hh⟩ : ∃ y,m.heads.l[i]? = some y:=⟨_,List.getElem?_eq_getElem (by omega)⟩
        have e2 : IntKind.i64.wrap ((i : Int) + 1) = ((i + 1 : Nat) : Int):=by rw [w64 (by omega) (by omega)]; omega
        have eh : ∀ i,m.heads.map (mapTo (fun h : Head => h.tie false) i) = some (mapTo (fun h => h.tie false) i m.heads.l):=fun i => by cases e : m.heads with
          | none => rw [e] at hh; simp [Sl.l] at hh
          | some l => rfl
        rw [eh] at hA
        obtain ⟨bh,cap,cs,a1,a2,a3,a4,a5,a6,a7,a8,a9,a10⟩:=head_cells hA (k:=i) (x:=h) (by rw [l_some]; exact mapTo_get hh)
        rw [l_some,mapTo_len] at a1
        obtain ⟨f2,d1,d2⟩:=a10 false
        subst a1
        have hle : i * 5 + 3 + 1 ≤ cs.length:=by omega
        have il : i < m.heads.l.length:=by omega
        simp -implicitDefEqProofs (maxDischargeDepth:=12) only [WW,List.replicate,Option.some_or,s_conv,e_conv,s_slc3,e_cut3,e_cut3n,e_bns,e_bnn,if_true,if_false,ite_true,ite_false,true_or,ne_eq,seval,beq_self_eq_true,eq_self,exists_eq_left,exists_eq_left',p0',p1',pq',c1,a2,hle,il,e2]
        refine ⟨k - 1,by omega,i + 1,f2,by omega,?_,fun c hc => hf c (d2 c hc),fun c hc => by rw [c_put_ne (fun h => hc (by rw [h]; exact hf bh a9)),hst c hc],ex_x rfl⟩
        rw [l_some,mapTo_set (f:=fun h : Head => h.tie false) hh] at d1
        rw [eh]; exact d1
      · have eA : m.heads.map (mapTo (fun h : Head => h.tie false) i) = m.heads.map (List.map fun h => h.tie false):=by cases e : m.heads with
          | none => rfl
          | some l => rw [e,l_some] at c1; simp only [Option.map_some,Option.some.injEq]; exact mapTo_all (by omega)
        rw [eA] at hA
        simp -implicitDefEqProofs (maxDischargeDepth:=12) only [WW,List.replicate,Option.some_or,s_conv,e_conv,s_slc3,e_cut3,e_cut3n,e_bns,e_bnn,e_splice,if_true,if_false,ite_true,ite_false,true_or,ne_eq,seval,h_putc,beq_self_eq_true,eq_self,exists_eq_left,exists_eq_left',c1,p0',p1',pq',m1o,m4,m5,n0,n1,n1q,b1,b2,x.enc_eq]
        rw [← x.enc_eq]
        refine wA_pure rfl (end_pv x) ?_
        simp -implicitDefEqProofs (maxDischargeDepth:=12) only [WW,List.replicate,Option.some_or,s_conv,e_conv,s_slc3,e_cut3,e_cut3n,e_bns,e_bnn,e_splice,if_true,if_false,ite_true,ite_false,true_or,ne_eq,seval,h_putc,beq_self_eq_true,eq_self,exists_eq_left,exists_eq_left',p0',p1',pq',m1o,m4,m5,n0,n1,n1q,b1,b2]
        refine frz_note (H0:=H') (x:=rr) (g:=f' ++ (fg ++ fl)) ?_ fun c hc => ?_
        · subst hr0
          have hs : ∀ c,c ∈ fg ++ fl→H'.cells c = H.cells c:=fun c hc => hst c fun h => (List.mem_append.1 hc).elim (fun h2 => m6 c h h2) (fun h2 => m7 c h h2)
          exact ⟨hv,gv,lv,f',fg,fl,rfl,hA,m2.frame fun c hc => hs c (List.mem_append.2 (.inl hc)),m3.frame fun c hc => hs c (List.mem_append.2 (.inr hc)),m4,m5,fun c h1 h2 => m6 c (hf c h1) h2,fun c h1 h2 => m7 c (hf c h1) h2,m8,rfl⟩
        · have:=hgq c (mem3.2 ((mem3.1 hc).imp (hf c) id))
          rw [c_put_ne (by omega),c_put_ne this.2,c_put_ne this.2]
    · simp only [Note.cutTie] at hr0
      rw [if_neg b2,show min x.fin e = x.fin by omega] at hr0
      simp -implicitDefEqProofs (maxDischargeDepth:=12) only [WW,List.replicate,Option.some_or,s_conv,e_conv,s_slc3,e_cut3,e_cut3n,e_bns,e_bnn,e_splice,if_true,if_false,ite_true,ite_false,true_or,ne_eq,seval,h_putc,beq_self_eq_true,eq_self,exists_eq_left,exists_eq_left',p0,p1,pq,m1o,m4,m5,n0,n1,n1q,b1,b2,x.enc_eq]
      rw [← x.enc_eq]
      refine wA_pure rfl (end_pv x) ?_
      simp -implicitDefEqProofs (maxDischargeDepth:=12) only [WW,List.replicate,Option.some_or,s_conv,e_conv,s_slc3,e_cut3,e_cut3n,e_bns,e_bnn,e_splice,if_true,if_false,ite_true,ite_false,true_or,ne_eq,seval,h_putc,beq_self_eq_true,eq_self,exists_eq_left,exists_eq_left',p0,p1,pq,m1o,m4,m5,n0,n1,n1q,b1,b2]
      refine frz_note (H0:=H) (x:=rr) (g:=fh ++ (fg ++ fl)) ?_ fun c hc => ?_
      · subst hr0
        exact ⟨hv,gv,lv,fh,fg,fl,rfl,m1,m2,m3,m4,m5,m6,m7,m8,rfl⟩
      · have:=hgq c hc
        rw [c_put_ne (by omega),c_put_ne this.2,c_put_ne this.2]
def cutB (n : Note) (b e : Int) : Bool:=decide (b < e) && (decide (n.at_ < e) && decide (b < n.fin))
def subL (l : List Note) (b e : Int) : List Note:=(l.filter fun n => cutB n b e).map fun n => limitP n b e
def subE (c : Clip) (b e : Int) : Int:=if checkE c ≠ 0 then checkE c else if b < 0 ∨ e < b ∨ c.len < e then 2 else 0
def subC (c : Clip) (b e : Int) : Clip:=if subE c b e = 0 then ⟨IntKind.i64.wrap (e - b),Sl.of (tidyP (subL c.notes.l b e))⟩ else noClip
theorem subL_take {l : List Note} {i : Nat} {x : Note} {b e : Int} (h : l[i]? = some x) : subL (l.take (i + 1)) b e = subL (l.take i) b e ++ if cutB x b e then [limitP x b e] else []:=by
  unfold subL
  rw [List.take_add_one,h,List.filter_append,List.map_append]
  congr 1
  cases q : cutB x b e <;> simp [List.filter,q]
theorem limitP_tame {x : Note} {b e : Int} (h : x.tame) : (limitP x b e).tame:=by
  have h1 : (x.part b).tame:=by unfold Note.part; split; exact Note.tame_bare h; exact h
  have h2 : (x.cutTie (x.part b) e).tame:=by
    unfold Note.cutTie
    split
    · refine ⟨?_,h1.graces,h1.lyrics,h1.text⟩
      have:=h1.heads
      show (Sl.l ((x.part b).heads.map _)).length < _
      cases q : (x.part b).heads with
      | none => show 0 < _; omega
      | some l => rw [q,l_some] at this; rw [Option.map_some,l_some,List.length_map]; exact this
    · exact h1
  exact ⟨h2.heads,h2.graces,h2.lyrics,h2.text⟩
theorem subL_tame {l : List Note} {b e : Int} (h : ∀ y ∈ l,y.tame) : ∀ y ∈ subL l b e,y.tame:=fun y hy => by
  unfold subL at hy
  obtain ⟨z,hz,rfl⟩:=List.mem_map.1 hy
  exact limitP_tame (h z (List.mem_filter.1 hz).1)
theorem subL_len {l : List Note} {b e : Int} : (subL l b e).length ≤ l.length:=by
  unfold subL; rw [List.length_map]; exact List.length_filter_le _ _
theorem sub_pv (c : Clip) (tc : c.tame) (b e : Int) : Pv prog polS 19 [c.enc,.sc (.int .i64 b),.sc (.int .i64 e)] (.tup [(subC c b e).enc,.sc (.int .i64 (subE c b e))]):=by
  refine Pv_of' ok19 (by simp only [AV.closedBs,Clip.enc_closed,AV.closedB,Bool.and_self]) ?_
  unfold subC
  generalize hr : subE c b e = r
  unfold subE at hr
  simp -implicitDefEqProofs (maxDischargeDepth:=12) only [wpF,cf19,WW,List.replicate,Option.some_or,s_conv,e_conv,s_slc3,e_cut3,e_cut3n,e_bns,e_bnn,e_splice,if_true,if_false,ite_true,ite_false,true_or,ne_eq,seval,h_putc,beq_self_eq_true,eq_self,exists_eq_left,exists_eq_left',c.enc_eq]
  rw [← c.enc_eq]
  refine wA_pure rfl (check_pv c tc) ?_
  by_cases h1 : checkE c = 0
  rotate_left
  · rw [if_pos h1] at hr; subst hr
    simp -implicitDefEqProofs (maxDischargeDepth:=12) only [WW,List.replicate,Option.some_or,s_conv,e_conv,s_slc3,e_cut3,e_cut3n,e_bns,e_bnn,e_splice,if_true,if_false,ite_true,ite_false,true_or,ne_eq,seval,h_putc,beq_self_eq_true,eq_self,exists_eq_left,exists_eq_left',h1]
    exact frz_err
  rw [if_neg (by simpa using h1)] at hr
  by_cases b1 : b < 0
  · rw [if_pos (by omega)] at hr; subst hr
    simp -implicitDefEqProofs (maxDischargeDepth:=12) only [WW,List.replicate,Option.some_or,s_conv,e_conv,s_slc3,e_cut3,e_cut3n,e_bns,e_bnn,e_splice,if_true,if_false,ite_true,ite_false,true_or,ne_eq,seval,h_putc,beq_self_eq_true,eq_self,exists_eq_left,exists_eq_left',eq_true h1,b1]
    exact frz_err
  by_cases b2 : e < b
  · rw [if_pos (by omega)] at hr; subst hr
    simp -implicitDefEqProofs (maxDischargeDepth:=12) only [WW,List.replicate,Option.some_or,s_conv,e_conv,s_slc3,e_cut3,e_cut3n,e_bns,e_bnn,e_splice,if_true,if_false,ite_true,ite_false,true_or,ne_eq,seval,h_putc,beq_self_eq_true,eq_self,exists_eq_left,exists_eq_left',eq_true h1,b1,b2]
    exact frz_err
  by_cases b3 : c.len < e
  · rw [if_pos (by omega)] at hr; subst hr
    simp -implicitDefEqProofs (maxDischargeDepth:=12) only [WW,List.replicate,Option.some_or,s_conv,e_conv,s_slc3,e_cut3,e_cut3n,e_bns,e_bnn,e_splice,if_true,if_false,ite_true,ite_false,true_or,ne_eq,seval,h_putc,beq_self_eq_true,eq_self,exists_eq_left,exists_eq_left',eq_true h1,b1,b2,b3,c.enc_eq]
    exact frz_err
  rw [if_neg (by omega)] at hr
  subst hr
  simp -implicitDefEqProofs (maxDischargeDepth:=12) only [WW,List.replicate,Option.some_or,s_conv,e_conv,s_slc3,e_cut3,e_cut3n,e_bns,e_bnn,e_splice,if_true,if_false,ite_true,ite_false,true_or,ne_eq,seval,h_putc,beq_self_eq_true,eq_self,exists_eq_left,exists_eq_left',eq_true h1,b1,b2,b3,c.enc_eq]
  refine wp_loop (Inv:=fun k t H => ∃ (i : Nat) (v : AV) (fp : List Nat),i + k = c.notes.l.length∧H.cells 0 = some c.enc.cells∧H.cells 1 = some [.sc (.int .i64 0),.sc .nils] ∧
    AccQ NoteC 8 H v (Sl.of (subL (c.notes.l.take i) b e)) fp∧(∀ b ∈ fp,2 ≤ b)∧2 ≤ H.next ∧
    ∃ y : Nat→AV,t = [c.enc,.sc (.int .i64 b),.sc (.int .i64 e),y 3,y 4,y 5,.ptr 1 0,.sc (.int .i64 0),y 8,v,y 10,y 11,y 12,y 13,y 14,y 15,y 16,y 17,y 18,y 19,y 20,y 21,y 22,y 23,y 24,y 25,y 26,y 27,y 28,y 29,y 30,y 31,y 32,slm Note.enc c.notes,.sc (.int .i64 c.notes.l.length),.sc (.int .i64 i),y 36,y 37,y 38,y 39,y 40,y 41,y 42,y 43,y 44,y 45,y 46,y 47,y 48,y 49,y 50,y 51,y 52,y 53,y 54,y 55,y 56,y 57,y 58,y 59,y 60,y 61,y 62,y 63,y 64,y 65,y 66,y 67]) (k:=c.notes.l.length) ?_
    ⟨0,_,[],by omega,?_,?_,accQ_none,by simp,?_,ex_x rfl⟩
  rotate_left
  · simp -implicitDefEqProofs (maxDischargeDepth:=12) only [WW,List.replicate,Option.some_or,s_conv,e_conv,s_slc3,e_cut3,e_cut3n,e_bns,e_bnn,e_splice,if_true,if_false,ite_true,ite_false,true_or,ne_eq,seval,h_putc,beq_self_eq_true,eq_self,exists_eq_left,exists_eq_left',c.enc_eq]
  · simp -implicitDefEqProofs (maxDischargeDepth:=12) only [WW,List.replicate,Option.some_or,s_conv,e_conv,s_slc3,e_cut3,e_cut3n,e_bns,e_bnn,e_splice,if_true,if_false,ite_true,ite_false,true_or,ne_eq,seval,h_putc,beq_self_eq_true,eq_self,exists_eq_left,exists_eq_left']
  · simp only [AHeap.next_put,AHeap.next_alloc]; decide
  rintro k t H ⟨i,v,fp,hk,p0,p1,hA,hfp,hN,y,rfl⟩
  by_cases c1 : (i : Int) < (c.notes.l.length : Int)
  rotate_left
  · rw [List.take_of_length_le (by omega)] at hA
    have hvo:=hA.one
    obtain ⟨f,o1,o2⟩:=hA.own noteC
    simp -implicitDefEqProofs (maxDischargeDepth:=12) only [WW,List.replicate,Option.some_or,s_conv,e_conv,s_slc3,e_cut3,e_cut3n,e_bns,e_bnn,e_splice,if_true,if_false,ite_true,ite_false,true_or,ne_eq,seval,h_putc,beq_self_eq_true,eq_self,exists_eq_left,exists_eq_left',c1,p0,p1,hvo.1,hvo.2]
    refine wA_ownA rfl (.cons (o1.mono (by decide)) .nil Apart.nil_right) (tidy_pv (Sl.of (subL c.notes.l b e)) (by rw [l_of]; have:=subL_len (l:=c.notes.l) (b:=b) (e:=e); have:=tc.1; omega) (by rw [l_of]; exact subL_tame tc.2)) ?_
    intro H1 hL
    have q1:=(cells_of_get (hL 1 (fun h => by have:=hfp 1 (o2 1 (by simpa using h)); omega))).trans p1
    rw [l_of]
    simp -implicitDefEqProofs (maxDischargeDepth:=12) only [WW,List.replicate,Option.some_or,s_conv,e_conv,s_slc3,e_cut3,e_cut3n,e_bns,e_bnn,e_splice,if_true,if_false,ite_true,ite_false,true_or,ne_eq,seval,h_putc,beq_self_eq_true,eq_self,exists_eq_left,exists_eq_left',q1]
    exact frz_clip (c:=⟨_,_⟩) (f:=[]) (own_imm Note.enc_closed)
  obtain ⟨x,hx⟩ : ∃ x,c.notes.l[i]? = some x:=⟨_,List.getElem?_eq_getElem (by omega)⟩
  have e2 : IntKind.i64.wrap ((i : Int) + 1) = ((i + 1 : Nat) : Int):=by rw [w64 (by omega) (by have:=tc.1; omega)]; omega
  have tx:=tc.2 x (List.mem_of_getElem? hx)
  have hlt:=hA.lt noteC
  have es:=subL_take (b:=b) (e:=e) hx
  unfold cutB at es
  by_cases d1 : b < e
  rotate_left
  · rw [decide_eq_false d1,Bool.false_and,if_neg (by simp),List.append_nil] at es
    simp -implicitDefEqProofs (maxDischargeDepth:=12) only [WW,List.replicate,Option.some_or,s_conv,e_conv,s_slc3,e_cut3,e_cut3n,e_bns,e_bnn,if_true,if_false,ite_true,ite_false,true_or,ne_eq,seval,beq_self_eq_true,eq_self,exists_eq_left,exists_eq_left',c1,hx,x.enc_eq,d1,e2]
    generalize hH1 : AHeap.put _ H.next _ = H1
    have n1 : H1.next = H.next + 1:=by subst hH1; simp only [AHeap.next_put,AHeap.next_alloc]
    have k1 : ∀ b,b < H.next→H1.cells b = H.cells b:=fun b hb => by subst hH1; rw [c_put_ne (by omega),c_alloc_ne (by omega)]
    have cq1:=congrArg (fun h => AHeap.cells h H.next) hH1
    simp -implicitDefEqProofs (maxDischargeDepth:=12) only [WW,List.replicate,Option.some_or,s_conv,e_conv,s_slc3,e_cut3,e_cut3n,e_bns,e_bnn,e_splice,if_true,if_false,ite_true,ite_false,true_or,ne_eq,seval,h_putc,beq_self_eq_true,eq_self,exists_eq_left,exists_eq_left'] at cq1
    replace cq1:=cq1.symm
    clear hH1
    refine ⟨k - 1,by omega,i + 1,v,fp,by omega,?_,?_,?_,?_,by omega,ex_x rfl⟩
    · rw [k1 0 (by omega)]; exact p0
    · rw [k1 1 (by omega)]; exact p1
    · rw [es]; exact hA.fr noteC fun b hb => k1 b (hlt b hb)
    · exact hfp
  by_cases d2 : x.at_ < e
  rotate_left
  · rw [decide_eq_false d2,Bool.false_and,Bool.and_false,if_neg (by simp),List.append_nil] at es
    simp -implicitDefEqProofs (maxDischargeDepth:=12) only [WW,List.replicate,Option.some_or,s_conv,e_conv,s_slc3,e_cut3,e_cut3n,e_bns,e_bnn,if_true,if_false,ite_true,ite_false,true_or,ne_eq,seval,beq_self_eq_true,eq_self,exists_eq_left,exists_eq_left',c1,hx,x.enc_eq,d1]
    generalize hH1 : AHeap.put _ H.next _ = H1
    have n1 : H1.next = H.next + 1:=by subst hH1; simp only [AHeap.next_put,AHeap.next_alloc]
    have k1 : ∀ b,b < H.next→H1.cells b = H.cells b:=fun b hb => by subst hH1; rw [c_put_ne (by omega),c_alloc_ne (by omega)]
    have cq1:=congrArg (fun h => AHeap.cells h H.next) hH1
    simp -implicitDefEqProofs (maxDischargeDepth:=12) only [WW,List.replicate,Option.some_or,s_conv,e_conv,s_slc3,e_cut3,e_cut3n,e_bns,e_bnn,e_splice,if_true,if_false,ite_true,ite_false,true_or,ne_eq,seval,h_putc,beq_self_eq_true,eq_self,exists_eq_left,exists_eq_left'] at cq1
    replace cq1:=cq1.symm
    clear hH1
    simp -implicitDefEqProofs (maxDischargeDepth:=12) only [WW,List.replicate,Option.some_or,s_conv,e_conv,s_slc3,e_cut3,e_cut3n,e_bns,e_bnn,e_splice,if_true,if_false,ite_true,ite_false,true_or,ne_eq,seval,h_putc,beq_self_eq_true,eq_self,exists_eq_left,exists_eq_left',cq1,d2,e2]
    refine ⟨k - 1,by omega,i + 1,v,fp,by omega,?_,?_,?_,?_,by omega,ex_x rfl⟩
    · rw [k1 0 (by omega)]; exact p0
    · rw [k1 1 (by omega)]; exact p1
    · rw [es]; exact hA.fr noteC fun b hb => k1 b (hlt b hb)
    · exact hfp
  simp -implicitDefEqProofs (maxDischargeDepth:=12) only [WW,List.replicate,Option.some_or,s_conv,e_conv,s_slc3,e_cut3,e_cut3n,e_bns,e_bnn,if_true,if_false,ite_true,ite_false,true_or,ne_eq,seval,beq_self_eq_true,eq_self,exists_eq_left,exists_eq_left',c1,hx,x.enc_eq,d1]
  generalize hH1 : AHeap.put _ H.next _ = H1
  have n1 : H1.next = H.next + 1:=by subst hH1; simp only [AHeap.next_put,AHeap.next_alloc]
  have k1 : ∀ b,b < H.next→H1.cells b = H.cells b:=fun b hb => by subst hH1; rw [c_put_ne (by omega),c_alloc_ne (by omega)]
  have cq1:=congrArg (fun h => AHeap.cells h H.next) hH1
  simp -implicitDefEqProofs (maxDischargeDepth:=12) only [WW,List.replicate,Option.some_or,s_conv,e_conv,s_slc3,e_cut3,e_cut3n,e_bns,e_bnn,e_splice,if_true,if_false,ite_true,ite_false,true_or,ne_eq,seval,h_putc,beq_self_eq_true,eq_self,exists_eq_left,exists_eq_left'] at cq1
  replace cq1:=cq1.symm
  clear hH1
  simp -implicitDefEqProofs (maxDischargeDepth:=12) only [WW,List.replicate,Option.some_or,s_conv,e_conv,s_slc3,e_cut3,e_cut3n,e_bns,e_bnn,e_splice,if_true,if_false,ite_true,ite_false,true_or,ne_eq,seval,h_putc,beq_self_eq_true,eq_self,exists_eq_left,exists_eq_left',cq1,d2]
  rw [← x.enc_eq]
  refine wA_pure rfl (end_pv x) ?_
  by_cases d3 : b < x.fin
  rotate_left
  · rw [decide_eq_false d3,Bool.and_false,Bool.and_false,if_neg (by simp),List.append_nil] at es
    simp -implicitDefEqProofs (maxDischargeDepth:=12) only [WW,List.replicate,Option.some_or,s_conv,e_conv,s_slc3,e_cut3,e_cut3n,e_bns,e_bnn,e_splice,if_true,if_false,ite_true,ite_false,true_or,ne_eq,seval,h_putc,beq_self_eq_true,eq_self,exists_eq_left,exists_eq_left',cq1,d3,e2]
    refine ⟨k - 1,by omega,i + 1,v,fp,by omega,?_,?_,?_,?_,by omega,ex_x rfl⟩
    · rw [k1 0 (by omega)]; exact p0
    · rw [k1 1 (by omega)]; exact p1
    · rw [es]; exact hA.fr noteC fun b hb => k1 b (hlt b hb)
    · exact hfp
  rw [decide_eq_true d1,decide_eq_true d2,decide_eq_true d3,Bool.and_self,Bool.and_self,if_pos rfl] at es
  simp -implicitDefEqProofs (maxDischargeDepth:=12) only [WW,List.replicate,Option.some_or,s_conv,e_conv,s_slc3,e_cut3,e_cut3n,e_bns,e_bnn,e_splice,if_true,if_false,ite_true,ite_false,true_or,ne_eq,seval,h_putc,beq_self_eq_true,eq_self,exists_eq_left,exists_eq_left',cq1,d3]
  rw [← x.enc_eq]
  refine wA_pure rfl (limit_pv x tx b e) ?_
  generalize limitP x b e = m at es
  simp -implicitDefEqProofs (maxDischargeDepth:=12) only [WW,List.replicate,Option.some_or,s_conv,e_conv,s_slc3,e_cut3,e_cut3n,e_bns,e_bnn,e_splice,if_true,if_false,ite_true,ite_false,true_or,ne_eq,seval,h_putc,beq_self_eq_true,eq_self,exists_eq_left,exists_eq_left',m.enc_eq]
  have kk : ∀ z b,b < H.next→(H1.alloc z).cells b = H.cells b:=fun z b hb => by rw [c_alloc_ne (by omega),k1 b hb]
  refine wA_appQ noteC (H0:=H) hA (y:=m) (r:=m.enc.cells) (g:=[]) (fun b hb => kk _ b (hlt b hb)) rfl (asrc_one (by simp -implicitDefEqProofs (maxDischargeDepth:=12) only [WW,List.replicate,Option.some_or,s_conv,e_conv,s_slc3,e_cut3,e_cut3n,e_bns,e_bnn,e_splice,if_true,if_false,ite_true,ite_false,true_or,ne_eq,seval,h_putc,beq_self_eq_true,eq_self,exists_eq_left,exists_eq_left']; rfl) rfl) ⟨rfl,rfl⟩ Apart.nil_right (by rw [l_of]; have h1:=subL_len (l:=c.notes.l.take i) (b:=b) (e:=e); rw [List.length_take] at h1; have:=tc.1; omega) ?_
  intro v' H8 fp' q1 q2 q3 q4 q5 q6
  simp only [AHeap.next_alloc] at q2
  have z8 : ∀ b,b < 2→H8.cells b = H.cells b:=fun b hb => by rw [q3 b (fun h => by have:=hfp b h; omega) (by rw [AHeap.next_alloc]; omega),kk _ b (by omega)]
  simp -implicitDefEqProofs (maxDischargeDepth:=12) only [WW,List.replicate,Option.some_or,s_conv,e_conv,s_slc3,e_cut3,e_cut3n,e_bns,e_bnn,e_splice,if_true,if_false,ite_true,ite_false,true_or,ne_eq,seval,h_putc,beq_self_eq_true,eq_self,exists_eq_left,exists_eq_left',q5,q6,e2]
  refine ⟨k - 1,by omega,i + 1,v',fp',by omega,by rw [z8 0 (by decide)]; exact p0,by rw [z8 1 (by decide)]; exact p1,?_,fun b hb => ?_,by omega,ex_x rfl⟩
  · rw [es,of_cons (by simp)]
    rw [l_of] at q1; exact q1
  · rcases q4 b hb with h | h | h
    · exact hfp b h
    · simp at h
    · rw [AHeap.next_alloc] at h; omega
end
end Go.Hem
namespace Go.Hem
noncomputable section
def cutHead (n : Note) (b e : Int) (h : Head) : Head:={ h with shown:=if n.at_ < b then 0 else h.shown,tied:=if e < n.fin then false else h.tied }
def cutP (n : Note) (b e : Int) : Note :=
  { at_:=IntKind.i64.wrap (max n.at_ b - b),len:=IntKind.i64.wrap (min n.fin e - max n.at_ b),heads:=some (n.heads.l.map (cutHead n b e)),
    graces:=if n.at_ < b then none else n.graces,articulations:=if n.at_ < b then 0 else n.articulations,ornament:=if n.at_ < b then 0 else n.ornament,dynamic:=if n.at_ < b then 0 else n.dynamic,lyrics:=if n.at_ < b then none else n.lyrics }
theorem limitP_heads {n : Note} {b e : Int} : (limitP n b e).heads.l = n.heads.l.map (cutHead n b e):=by
  show Sl.l (n.cutTie (n.part b) e).heads = _
  unfold Note.cutTie Note.part
  by_cases h1 : n.at_ < b <;> by_cases h2 : e < n.fin
  · simp only [if_pos h1,if_pos h2,Note.untied,Note.bare]
    cases n.heads with
    | none => rfl
    | some l =>
      simp only [Option.map_some,l_some,List.map_map]
      exact List.map_congr_left fun h _ => by unfold cutHead; rw [if_pos h1,if_pos h2]; rfl
  · simp only [if_pos h1,if_neg h2,Note.bare]
    cases n.heads with
    | none => rfl
    | some l =>
      simp only [Option.map_some,l_some]
      exact List.map_congr_left fun h _ => by unfold cutHead; rw [if_pos h1,if_neg h2]; rfl
  · simp only [if_neg h1,if_pos h2,Note.untied]
    cases n.heads with
    | none => rfl
    | some l =>
      simp only [Option.map_some,l_some]
      exact List.map_congr_left fun h _ => by unfold cutHead; rw [if_neg h1,if_pos h2]; rfl
  · simp only [if_neg h1,if_neg h2]
    have : cutHead n b e = id:=by funext h; unfold cutHead; rw [if_neg h1,if_neg h2]; rfl
    rw [this]; simp
theorem cut_limit {n : Note} {b e : Int} : (cutP n b e).cn = (limitP n b e).cn:=by
  have h:=limitP_heads (n:=n) (b:=b) (e:=e)
  unfold Note.cn
  rw [h]
  unfold cutP limitP Note.cutTie Note.part
  by_cases h1 : n.at_ < b <;> by_cases h2 : e < n.fin
  · simp only [if_pos h1,if_pos h2,Note.untied,Note.bare,l_some]
  · simp only [if_pos h1,if_neg h2,Note.bare,l_some]
  · simp only [if_neg h1,if_pos h2,Note.untied,l_some]
  · simp only [if_neg h1,if_neg h2,l_some]
def noNote : Note:={ at_:=0,len:=0,heads:=none,graces:=none,articulations:=0,ornament:=0,dynamic:=0,lyrics:=none }
def cutR (n : Note) (b e : Int) : Note:=if cutB n b e then cutP n b e else noNote
theorem frz_no {H : AHeap} {x : Bool} : Frz (.tup [.agg noNote.enc.cells,.sc (.bool x)]) H (.tup [noNote.enc,.sc (.bool x)]) :=
  frz_tup (I:=true) (own_closed (d:=3) (cs:=noNote.enc.cells) (Note.enc_plain _)) (by decide)
theorem frz_cut {H : AHeap} {m : Note} {hv : AV} {f : List Nat} {y : Bool} (hA : AccQ HeadQ 5 H hv m.heads f) : Frz (.tup [.agg [.sc (.int .i64 m.at_),.sc (.int .i64 m.len),hv,slm Grace.enc m.graces,.sc (.int .i64 m.articulations),.sc (.int .i64 m.ornament),.sc (.int .i64 m.dynamic),slm Syllable.enc m.lyrics],.sc (.bool y)]) H (.tup [m.enc,.sc (.bool y)]):=by
  obtain ⟨g',h1,_⟩:=noteQ.own (noteQ_heads hA)
  exact frz_tup (I:=true) (d:=5) ⟨_,rfl,h1.mono (by decide)⟩ (by decide)
theorem mapTo_same {α : Type} {f : α→α} {i : Nat} {l : List α} {x : α} (h : l[i]? = some x) (e : f x = x) : mapTo f (i + 1) l = mapTo f i l:=by
  have a:=mapTo_set (f:=f) h
  rw [e] at a
  rw [← a]
  apply List.ext_getElem?
  intro q
  rw [List.getElem?_set]
  split
  · rename_i k; subst k
    rw [mapTo_len,if_pos (List.getElem?_eq_some_iff.1 h).1,mapTo_get h]
  · rfl
theorem cut_pv (x : Note) (tx : x.tame) (b e : Int) : Pv prog polS 20 [x.enc,.sc (.int .i64 b),.sc (.int .i64 e)] (.tup [(cutR x b e).enc,.sc (.bool (cutB x b e))]):=by
  refine Pv_of' ok20 (by simp only [AV.closedBs,Note.enc_closed,AV.closedB,Bool.and_self]) ?_
  unfold cutR
  generalize hr : cutB x b e = r
  unfold cutB at hr
  have hfin : IntKind.i64.wrap (x.at_ + x.len) = x.fin:=rfl
  by_cases d1 : b < e
  rotate_left
  · rw [decide_eq_false d1,Bool.false_and] at hr; subst hr
    have d1' : e ≤ b:=by omega
    simp -implicitDefEqProofs (maxDischargeDepth:=12) only [wpF,cf20,WW,List.replicate,Option.some_or,s_conv,e_conv,s_slc3,e_cut3,e_cut3n,e_bns,e_bnn,e_splice,if_true,if_false,ite_true,ite_false,true_or,ne_eq,seval,h_putc,beq_self_eq_true,eq_self,exists_eq_left,exists_eq_left',x.enc_eq,hfin,d1']
    exact frz_no
  have d1' : ¬ e ≤ b:=by omega
  by_cases d3 : b < x.fin
  rotate_left
  · rw [decide_eq_false d3,Bool.and_false,Bool.and_false] at hr; subst hr
    have d3' : x.fin ≤ b:=by omega
    simp -implicitDefEqProofs (maxDischargeDepth:=12) only [wpF,cf20,WW,List.replicate,Option.some_or,s_conv,e_conv,s_slc3,e_cut3,e_cut3n,e_bns,e_bnn,e_splice,if_true,if_false,ite_true,ite_false,true_or,ne_eq,seval,h_putc,beq_self_eq_true,eq_self,exists_eq_left,exists_eq_left',x.enc_eq,hfin,d1',d3']
    exact frz_no
  have d3' : ¬ x.fin ≤ b:=by omega
  by_cases d2 : x.at_ < e
  rotate_left
  · rw [decide_eq_false d2,Bool.false_and,Bool.and_false] at hr; subst hr
    have d2' : e ≤ x.at_:=by omega
    simp -implicitDefEqProofs (maxDischargeDepth:=12) only [wpF,cf20,WW,List.replicate,Option.some_or,s_conv,e_conv,s_slc3,e_cut3,e_cut3n,e_bns,e_bnn,e_splice,if_true,if_false,ite_true,ite_false,true_or,ne_eq,seval,h_putc,beq_self_eq_true,eq_self,exists_eq_left,exists_eq_left',x.enc_eq,hfin,d1',d3',d2']
    exact frz_no
  have d2' : ¬ e ≤ x.at_:=by omega
  rw [decide_eq_true d1,decide_eq_true d2,decide_eq_true d3] at hr
  have hr : r = true:=hr.symm
  subst hr
  rw [if_pos rfl]
  unfold cutP
  by_cases b1 : x.at_ < b
  · have b1' : ¬ b ≤ x.at_:=by omega
    have em : max x.at_ b = b:=by omega
    by_cases b2 : e < x.fin
    · have en : min x.fin e = e:=by omega
      simp -implicitDefEqProofs (maxDischargeDepth:=12) only [wpF,cf20,WW,List.replicate,Option.some_or,s_conv,e_conv,s_slc3,e_cut3,e_cut3n,e_bns,e_bnn,e_splice,if_true,if_false,ite_true,ite_false,true_or,ne_eq,seval,h_putc,beq_self_eq_true,eq_self,exists_eq_left,exists_eq_left',x.enc_eq,hfin,d1',d2',d3',b1,b1',b2,em,en]
      refine wA_call rfl ((rheads_ok x.heads tx.heads _).mono ?_)
      rintro o H2 ⟨hv,fh,rfl,hh,hF⟩
      refine ⟨_,rfl,?_⟩
      have z0:=hF.2.2 0 (by simp)
      have z1:=hF.2.2 1 (by simp)
      simp -implicitDefEqProofs (maxDischargeDepth:=12) only [WW,List.replicate,Option.some_or,s_conv,e_conv,s_slc3,e_cut3,e_cut3n,e_bns,e_bnn,e_splice,if_true,if_false,ite_true,ite_false,true_or,ne_eq,seval,h_putc,beq_self_eq_true,eq_self,exists_eq_left,exists_eq_left',x.enc_eq] at z0 z1
      have hho:=hh.one
      have hhc:=hh.cells
      simp -implicitDefEqProofs (maxDischargeDepth:=12) only [WW,List.replicate,Option.some_or,s_conv,e_conv,s_slc3,e_cut3,e_cut3n,e_bns,e_bnn,e_splice,if_true,if_false,ite_true,ite_false,true_or,ne_eq,seval,h_putc,beq_self_eq_true,eq_self,exists_eq_left,exists_eq_left',z0,z1,b1,b1',hho,hhc]
      refine wp_loop (Inv:=fun k t H => ∃ (i : Nat) (f' : List Nat),i + k = x.heads.l.length∧H.cells 0 = some x.enc.cells∧H.cells 1 = some [.sc (.int .i64 (IntKind.i64.wrap (b - b))),.sc (.int .i64 (IntKind.i64.wrap (e - b))),hv,.sc .nils,.sc (.int .i64 0),.sc (.int .i64 0),.sc (.int .i64 0),.sc .nils]∧AccQ HeadQ 5 H hv (some (mapTo (cutHead x b e) i x.heads.l)) f'∧(∀ c ∈ f',2 ≤ c) ∧
        ∃ y : Nat→AV,t = [x.enc,.sc (.int .i64 b),.sc (.int .i64 e),.ptr 0 0,y 4,y 5,.ptr 1 0,y 7,.sc (.int .i64 i),y 9,y 10,y 11,y 12,y 13,y 14,y 15,y 16,y 17,y 18,y 19,y 20,y 21,y 22,y 23,y 24,y 25,y 26,y 27,y 28,y 29,y 30,y 31,y 32,y 33,y 34,y 35,y 36,y 37,y 38,y 39,y 40,y 41,y 42,y 43,y 44,y 45,y 46,y 47,y 48,y 49,y 50,y 51,y 52,y 53,y 54,y 55,y 56,y 57,y 58,y 59,y 60,y 61,y 62,y 63,y 64,y 65,y 66,y 67,y 68,y 69,y 70,y 71,y 72,y 73,y 74,y 75,y 76,y 77,y 78,y 79,y 80,y 81,y 82,y 83,y 84,y 85,y 86,y 87,y 88,y 89,y 90,y 91,y 92,y 93,y 94,y 95,y 96,y 97]) (k:=x.heads.l.length) ?_ ⟨0,fh,by omega,?_,?_,?_,?_,ex_x rfl⟩
      rotate_left
      · repeat rw [c_put_ne (show (0 : Nat) ≠ 1 by decide)]
        exact z0
      · simp -implicitDefEqProofs (maxDischargeDepth:=12) only [WW,List.replicate,Option.some_or,s_conv,e_conv,s_slc3,e_cut3,e_cut3n,e_bns,e_bnn,e_splice,if_true,if_false,ite_true,ite_false,true_or,ne_eq,seval,h_putc,beq_self_eq_true,eq_self,exists_eq_left,exists_eq_left',z1]
      · rw [mapTo_zero]
        refine (acc_heads hh).fr headQ fun c hc => ?_
        have h2:=hF.1 c hc
        have h3 : c ≠ 1:=by simp at h2; omega
        repeat rw [c_put_ne h3]
      · exact fun c hc => by have:=hF.1 c hc; simpa using this
      clear hh hF z0 z1
      rintro k t H ⟨i,f',hk,p0,p1,hA,hf,y,rfl⟩
      simp only [x.enc_eq,c_agg] at p0
      have hl:=hA.length.1
      rw [l_some,mapTo_len] at hl
      by_cases c1 : (i : Int) < (x.heads.l.length : Int)
      rotate_left
      · rw [mapTo_all (by omega)] at hA
        have ho:=hA.one
        simp -implicitDefEqProofs (maxDischargeDepth:=12) only [WW,List.replicate,Option.some_or,s_conv,e_conv,s_slc3,e_cut3,e_cut3n,e_bns,e_bnn,e_splice,if_true,if_false,ite_true,ite_false,true_or,ne_eq,seval,h_putc,beq_self_eq_true,eq_self,exists_eq_left,exists_eq_left',p0,p1,c1,hl,ho.1,ho.2]
        refine frz_cut (m:={ at_:=_,len:=_,heads:=some _,graces:=none,articulations:=_,ornament:=_,dynamic:=_,lyrics:=none }) (f:=f') ?_
        exact hA.fr headQ fun c hc => by have:=hf c hc; rw [c_put_ne]; omega
      obtain ⟨h,hh⟩ : ∃ y,x.heads.l[i]? = some y:=⟨_,List.getElem?_eq_getElem (by omega)⟩
      have e2 : IntKind.i64.wrap ((i : Int) + 1) = ((i + 1 : Nat) : Int):=by rw [w64 (by omega) (by have:=tx.heads; omega)]; omega
      obtain ⟨bh,cap,cs,r,g,a1,a2,a3,a4,a5,a6,a7,a8,a9,a10,a11⟩:=hA.cell headQ (i:=i) (x:=h) (by rw [l_some]; exact mapTo_get hh)
      obtain ⟨rfl,rfl⟩:=a6
      rw [l_some,mapTo_len] at a1
      subst a1
      have il : i < x.heads.l.length:=by omega
      have g1 : ¬ 1 = bh:=by have:=hf bh a7; omega
      have g0 : ¬ 0 = bh:=by have:=hf bh a7; omega
      have c1x : ∀ z,(H.put bh (some (.cells z))).cells 1 = H.cells 1:=fun z => c_put_ne g1
      have c0x : ∀ z,(H.put bh (some (.cells z))).cells 0 = H.cells 0:=fun z => c_put_ne g0
      have cb : ∀ z,(H.put bh (some (.cells z))).cells bh = some z:=fun z => h_put_self a2
      have l3 : i * 5 + 3 + 1 ≤ cs.length:=by omega
      have l4 : i * 5 + 4 + 1 ≤ cs.length:=by omega
      have sl : ∀ w,(splice cs (i * 5 + 4) [w]).length = cs.length:=fun w => by rw [splice_set l4,List.length_set]
      obtain ⟨f2,q1,q2⟩:=a10 4 (intE 0) { h with shown:=0 } (by decide) (fun H' _ => ⟨rfl,rfl⟩)
      obtain ⟨b',cap',cs',r',g',t1,t2,t3,t4,t5,t6,t7,t8,t9,t10,t11⟩:=q1.cell headQ (i:=i) (x:={ h with shown:=0 }) (by rw [l_some,List.getElem?_set_self (by rw [l_some,mapTo_len]; exact il)])
      obtain ⟨rfl,rfl⟩:=t6
      simp only [l_some,List.length_set,mapTo_len,AV.slice.injEq,true_and,and_true] at t1
      obtain ⟨rfl,rfl⟩:=t1
      rw [cb,Option.some.injEq] at t2
      subst t2
      obtain ⟨f3,u1,u2⟩:=t10 3 (.sc (.bool false)) (cutHead x b e h) (by decide) (fun H' _ => ⟨by unfold cutHead; rw [if_pos b1,if_pos b2]; rfl,rfl⟩)
      simp -implicitDefEqProofs (maxDischargeDepth:=12) only [WW,List.replicate,Option.some_or,s_conv,e_conv,s_slc3,e_cut3,e_cut3n,e_bns,e_bnn,if_true,if_false,ite_true,ite_false,true_or,ne_eq,seval,beq_self_eq_true,eq_self,exists_eq_left,exists_eq_left',c1,hl,p0,p1,b1,b2,hfin,a2,il,l3,l4,c0x,c1x,cb,sl,e2]
      simp only [l_some,List.set_set] at u1
      rw [mapTo_set (f:=cutHead x b e) hh] at u1
      refine ⟨k - 1,by omega,i + 1,f3,by omega,?_,?_,u1,fun c hc => hf c (q2 c (u2 c hc)),ex_x rfl⟩
      · rw [c_put_ne g0,c0x]; exact p0
      · rw [c_put_ne g1,c1x]; exact p1
    · have en : min x.fin e = x.fin:=by omega
      simp -implicitDefEqProofs (maxDischargeDepth:=12) only [wpF,cf20,WW,List.replicate,Option.some_or,s_conv,e_conv,s_slc3,e_cut3,e_cut3n,e_bns,e_bnn,e_splice,if_true,if_false,ite_true,ite_false,true_or,ne_eq,seval,h_putc,beq_self_eq_true,eq_self,exists_eq_left,exists_eq_left',x.enc_eq,hfin,d1',d2',d3',b1,b1',b2,em,en]
      refine wA_call rfl ((rheads_ok x.heads tx.heads _).mono ?_)
      rintro o H2 ⟨hv,fh,rfl,hh,hF⟩
      refine ⟨_,rfl,?_⟩
      have z0:=hF.2.2 0 (by simp)
      have z1:=hF.2.2 1 (by simp)
      simp -implicitDefEqProofs (maxDischargeDepth:=12) only [WW,List.replicate,Option.some_or,s_conv,e_conv,s_slc3,e_cut3,e_cut3n,e_bns,e_bnn,e_splice,if_true,if_false,ite_true,ite_false,true_or,ne_eq,seval,h_putc,beq_self_eq_true,eq_self,exists_eq_left,exists_eq_left',x.enc_eq] at z0 z1
      have hho:=hh.one
      have hhc:=hh.cells
      simp -implicitDefEqProofs (maxDischargeDepth:=12) only [WW,List.replicate,Option.some_or,s_conv,e_conv,s_slc3,e_cut3,e_cut3n,e_bns,e_bnn,e_splice,if_true,if_false,ite_true,ite_false,true_or,ne_eq,seval,h_putc,beq_self_eq_true,eq_self,exists_eq_left,exists_eq_left',z0,z1,b1,b1',hho,hhc]
      refine wp_loop (Inv:=fun k t H => ∃ (i : Nat) (f' : List Nat),i + k = x.heads.l.length∧H.cells 0 = some x.enc.cells∧H.cells 1 = some [.sc (.int .i64 (IntKind.i64.wrap (b - b))),.sc (.int .i64 (IntKind.i64.wrap (x.fin - b))),hv,.sc .nils,.sc (.int .i64 0),.sc (.int .i64 0),.sc (.int .i64 0),.sc .nils]∧AccQ HeadQ 5 H hv (some (mapTo (cutHead x b e) i x.heads.l)) f'∧(∀ c ∈ f',2 ≤ c) ∧
        ∃ y : Nat→AV,t = [x.enc,.sc (.int .i64 b),.sc (.int .i64 e),.ptr 0 0,y 4,y 5,.ptr 1 0,y 7,.sc (.int .i64 i),y 9,y 10,y 11,y 12,y 13,y 14,y 15,y 16,y 17,y 18,y 19,y 20,y 21,y 22,y 23,y 24,y 25,y 26,y 27,y 28,y 29,y 30,y 31,y 32,y 33,y 34,y 35,y 36,y 37,y 38,y 39,y 40,y 41,y 42,y 43,y 44,y 45,y 46,y 47,y 48,y 49,y 50,y 51,y 52,y 53,y 54,y 55,y 56,y 57,y 58,y 59,y 60,y 61,y 62,y 63,y 64,y 65,y 66,y 67,y 68,y 69,y 70,y 71,y 72,y 73,y 74,y 75,y 76,y 77,y 78,y 79,y 80,y 81,y 82,y 83,y 84,y 85,y 86,y 87,y 88,y 89,y 90,y 91,y 92,y 93,y 94,y 95,y 96,y 97]) (k:=x.heads.l.length) ?_ ⟨0,fh,by omega,?_,?_,?_,?_,ex_x rfl⟩
      rotate_left
      · repeat rw [c_put_ne (show (0 : Nat) ≠ 1 by decide)]
        exact z0
      · simp -implicitDefEqProofs (maxDischargeDepth:=12) only [WW,List.replicate,Option.some_or,s_conv,e_conv,s_slc3,e_cut3,e_cut3n,e_bns,e_bnn,e_splice,if_true,if_false,ite_true,ite_false,true_or,ne_eq,seval,h_putc,beq_self_eq_true,eq_self,exists_eq_left,exists_eq_left',z1]
      · rw [mapTo_zero]
        refine (acc_heads hh).fr headQ fun c hc => ?_
        have h2:=hF.1 c hc
        have h3 : c ≠ 1:=by simp at h2; omega
        repeat rw [c_put_ne h3]
      · exact fun c hc => by have:=hF.1 c hc; simpa using this
      clear hh hF z0 z1
      rintro k t H ⟨i,f',hk,p0,p1,hA,hf,y,rfl⟩
      simp only [x.enc_eq,c_agg] at p0
      have hl:=hA.length.1
      rw [l_some,mapTo_len] at hl
      by_cases c1 : (i : Int) < (x.heads.l.length : Int)
      rotate_left
      · rw [mapTo_all (by omega)] at hA
        have ho:=hA.one
        simp -implicitDefEqProofs (maxDischargeDepth:=12) only [WW,List.replicate,Option.some_or,s_conv,e_conv,s_slc3,e_cut3,e_cut3n,e_bns,e_bnn,e_splice,if_true,if_false,ite_true,ite_false,true_or,ne_eq,seval,h_putc,beq_self_eq_true,eq_self,exists_eq_left,exists_eq_left',p0,p1,c1,hl,ho.1,ho.2]
        refine frz_cut (m:={ at_:=_,len:=_,heads:=some _,graces:=none,articulations:=_,ornament:=_,dynamic:=_,lyrics:=none }) (f:=f') ?_
        exact hA.fr headQ fun c hc => by have:=hf c hc; rw [c_put_ne]; omega
      obtain ⟨h,hh⟩ : ∃ y,x.heads.l[i]? = some y:=⟨_,List.getElem?_eq_getElem (by omega)⟩
      have e2 : IntKind.i64.wrap ((i : Int) + 1) = ((i + 1 : Nat) : Int):=by rw [w64 (by omega) (by have:=tx.heads; omega)]; omega
      obtain ⟨bh,cap,cs,r,g,a1,a2,a3,a4,a5,a6,a7,a8,a9,a10,a11⟩:=hA.cell headQ (i:=i) (x:=h) (by rw [l_some]; exact mapTo_get hh)
      obtain ⟨rfl,rfl⟩:=a6
      rw [l_some,mapTo_len] at a1
      subst a1
      have il : i < x.heads.l.length:=by omega
      have g1 : ¬ 1 = bh:=by have:=hf bh a7; omega
      have g0 : ¬ 0 = bh:=by have:=hf bh a7; omega
      have c1x : ∀ z,(H.put bh (some (.cells z))).cells 1 = H.cells 1:=fun z => c_put_ne g1
      have c0x : ∀ z,(H.put bh (some (.cells z))).cells 0 = H.cells 0:=fun z => c_put_ne g0
      have cb : ∀ z,(H.put bh (some (.cells z))).cells bh = some z:=fun z => h_put_self a2
      have l3 : i * 5 + 3 + 1 ≤ cs.length:=by omega
      have l4 : i * 5 + 4 + 1 ≤ cs.length:=by omega
      have sl : ∀ w,(splice cs (i * 5 + 4) [w]).length = cs.length:=fun w => by rw [splice_set l4,List.length_set]
      obtain ⟨f2,q1,q2⟩:=a10 4 (intE 0) (cutHead x b e h) (by decide) (fun H' _ => ⟨by unfold cutHead; rw [if_pos b1,if_neg b2]; rfl,rfl⟩)
      simp -implicitDefEqProofs (maxDischargeDepth:=12) only [WW,List.replicate,Option.some_or,s_conv,e_conv,s_slc3,e_cut3,e_cut3n,e_bns,e_bnn,if_true,if_false,ite_true,ite_false,true_or,ne_eq,seval,beq_self_eq_true,eq_self,exists_eq_left,exists_eq_left',c1,hl,p0,p1,b1,b2,hfin,a2,il,l3,l4,c0x,c1x,cb,sl,e2]
      refine ⟨k - 1,by omega,i + 1,f2,by omega,rfl,?_,fun c hc => hf c (q2 c hc),ex_x rfl⟩
      rw [l_some,mapTo_set (f:=cutHead x b e) hh] at q1
      exact q1
  · have b1' : b ≤ x.at_:=by omega
    have em : max x.at_ b = x.at_:=by omega
    by_cases b2 : e < x.fin
    · have en : min x.fin e = e:=by omega
      simp -implicitDefEqProofs (maxDischargeDepth:=12) only [wpF,cf20,WW,List.replicate,Option.some_or,s_conv,e_conv,s_slc3,e_cut3,e_cut3n,e_bns,e_bnn,e_splice,if_true,if_false,ite_true,ite_false,true_or,ne_eq,seval,h_putc,beq_self_eq_true,eq_self,exists_eq_left,exists_eq_left',x.enc_eq,hfin,d1',d2',d3',b1,b1',b2,em,en]
      refine wA_call rfl ((rheads_ok x.heads tx.heads _).mono ?_)
      rintro o H2 ⟨hv,fh,rfl,hh,hF⟩
      refine ⟨_,rfl,?_⟩
      have z0:=hF.2.2 0 (by simp)
      have z1:=hF.2.2 1 (by simp)
      simp -implicitDefEqProofs (maxDischargeDepth:=12) only [WW,List.replicate,Option.some_or,s_conv,e_conv,s_slc3,e_cut3,e_cut3n,e_bns,e_bnn,e_splice,if_true,if_false,ite_true,ite_false,true_or,ne_eq,seval,h_putc,beq_self_eq_true,eq_self,exists_eq_left,exists_eq_left',x.enc_eq] at z0 z1
      have hho:=hh.one
      have hhc:=hh.cells
      simp -implicitDefEqProofs (maxDischargeDepth:=12) only [WW,List.replicate,Option.some_or,s_conv,e_conv,s_slc3,e_cut3,e_cut3n,e_bns,e_bnn,e_splice,if_true,if_false,ite_true,ite_false,true_or,ne_eq,seval,h_putc,beq_self_eq_true,eq_self,exists_eq_left,exists_eq_left',z0,z1,b1,b1',hho,hhc]
      refine wp_loop (Inv:=fun k t H => ∃ (i : Nat) (f' : List Nat),i + k = x.heads.l.length∧H.cells 0 = some x.enc.cells∧H.cells 1 = some [.sc (.int .i64 (IntKind.i64.wrap (x.at_ - b))),.sc (.int .i64 (IntKind.i64.wrap (e - x.at_))),hv,slm Grace.enc x.graces,.sc (.int .i64 x.articulations),.sc (.int .i64 x.ornament),.sc (.int .i64 x.dynamic),slm Syllable.enc x.lyrics]∧AccQ HeadQ 5 H hv (some (mapTo (cutHead x b e) i x.heads.l)) f'∧(∀ c ∈ f',2 ≤ c) ∧
        ∃ y : Nat→AV,t = [x.enc,.sc (.int .i64 b),.sc (.int .i64 e),.ptr 0 0,y 4,y 5,.ptr 1 0,y 7,.sc (.int .i64 i),y 9,y 10,y 11,y 12,y 13,y 14,y 15,y 16,y 17,y 18,y 19,y 20,y 21,y 22,y 23,y 24,y 25,y 26,y 27,y 28,y 29,y 30,y 31,y 32,y 33,y 34,y 35,y 36,y 37,y 38,y 39,y 40,y 41,y 42,y 43,y 44,y 45,y 46,y 47,y 48,y 49,y 50,y 51,y 52,y 53,y 54,y 55,y 56,y 57,y 58,y 59,y 60,y 61,y 62,y 63,y 64,y 65,y 66,y 67,y 68,y 69,y 70,y 71,y 72,y 73,y 74,y 75,y 76,y 77,y 78,y 79,y 80,y 81,y 82,y 83,y 84,y 85,y 86,y 87,y 88,y 89,y 90,y 91,y 92,y 93,y 94,y 95,y 96,y 97]) (k:=x.heads.l.length) ?_ ⟨0,fh,by omega,?_,?_,?_,?_,ex_x rfl⟩
      rotate_left
      · repeat rw [c_put_ne (show (0 : Nat) ≠ 1 by decide)]
        exact z0
      · simp -implicitDefEqProofs (maxDischargeDepth:=12) only [WW,List.replicate,Option.some_or,s_conv,e_conv,s_slc3,e_cut3,e_cut3n,e_bns,e_bnn,e_splice,if_true,if_false,ite_true,ite_false,true_or,ne_eq,seval,h_putc,beq_self_eq_true,eq_self,exists_eq_left,exists_eq_left',z1]
      · rw [mapTo_zero]
        refine (acc_heads hh).fr headQ fun c hc => ?_
        have h2:=hF.1 c hc
        have h3 : c ≠ 1:=by simp at h2; omega
        repeat rw [c_put_ne h3]
      · exact fun c hc => by have:=hF.1 c hc; simpa using this
      clear hh hF z0 z1
      rintro k t H ⟨i,f',hk,p0,p1,hA,hf,y,rfl⟩
      simp only [x.enc_eq,c_agg] at p0
      have hl:=hA.length.1
      rw [l_some,mapTo_len] at hl
      by_cases c1 : (i : Int) < (x.heads.l.length : Int)
      rotate_left
      · rw [mapTo_all (by omega)] at hA
        have ho:=hA.one
        simp -implicitDefEqProofs (maxDischargeDepth:=12) only [WW,List.replicate,Option.some_or,s_conv,e_conv,s_slc3,e_cut3,e_cut3n,e_bns,e_bnn,e_splice,if_true,if_false,ite_true,ite_false,true_or,ne_eq,seval,h_putc,beq_self_eq_true,eq_self,exists_eq_left,exists_eq_left',p0,p1,c1,hl,ho.1,ho.2]
        refine frz_cut (m:={ at_:=_,len:=_,heads:=some _,graces:=x.graces,articulations:=_,ornament:=_,dynamic:=_,lyrics:=x.lyrics }) (f:=f') ?_
        exact hA.fr headQ fun c hc => by have:=hf c hc; rw [c_put_ne]; omega
      obtain ⟨h,hh⟩ : ∃ y,x.heads.l[i]? = some y:=⟨_,List.getElem?_eq_getElem (by omega)⟩
      have e2 : IntKind.i64.wrap ((i : Int) + 1) = ((i + 1 : Nat) : Int):=by rw [w64 (by omega) (by have:=tx.heads; omega)]; omega
      obtain ⟨bh,cap,cs,r,g,a1,a2,a3,a4,a5,a6,a7,a8,a9,a10,a11⟩:=hA.cell headQ (i:=i) (x:=h) (by rw [l_some]; exact mapTo_get hh)
      obtain ⟨rfl,rfl⟩:=a6
      rw [l_some,mapTo_len] at a1
      subst a1
      have il : i < x.heads.l.length:=by omega
      have g1 : ¬ 1 = bh:=by have:=hf bh a7; omega
      have g0 : ¬ 0 = bh:=by have:=hf bh a7; omega
      have c1x : ∀ z,(H.put bh (some (.cells z))).cells 1 = H.cells 1:=fun z => c_put_ne g1
      have c0x : ∀ z,(H.put bh (some (.cells z))).cells 0 = H.cells 0:=fun z => c_put_ne g0
      have cb : ∀ z,(H.put bh (some (.cells z))).cells bh = some z:=fun z => h_put_self a2
      have l3 : i * 5 + 3 + 1 ≤ cs.length:=by omega
      have l4 : i * 5 + 4 + 1 ≤ cs.length:=by omega
      have sl : ∀ w,(splice cs (i * 5 + 4) [w]).length = cs.length:=fun w => by rw [splice_set l4,List.length_set]
      obtain ⟨f2,q1,q2⟩:=a10 3 (.sc (.bool false)) (cutHead x b e h) (by decide) (fun H' _ => ⟨by unfold cutHead; rw [if_neg b1,if_pos b2]; rfl,rfl⟩)
      simp -implicitDefEqProofs (maxDischargeDepth:=12) only [WW,List.replicate,Option.some_or,s_conv,e_conv,s_slc3,e_cut3,e_cut3n,e_bns,e_bnn,if_true,if_false,ite_true,ite_false,true_or,ne_eq,seval,beq_self_eq_true,eq_self,exists_eq_left,exists_eq_left',c1,hl,p0,p1,b1,b2,hfin,a2,il,l3,l4,c0x,c1x,cb,sl,e2]
      refine ⟨k - 1,by omega,i + 1,f2,by omega,rfl,?_,fun c hc => hf c (q2 c hc),ex_x rfl⟩
      rw [l_some,mapTo_set (f:=cutHead x b e) hh] at q1
      exact q1
    · have en : min x.fin e = x.fin:=by omega
      simp -implicitDefEqProofs (maxDischargeDepth:=12) only [wpF,cf20,WW,List.replicate,Option.some_or,s_conv,e_conv,s_slc3,e_cut3,e_cut3n,e_bns,e_bnn,e_splice,if_true,if_false,ite_true,ite_false,true_or,ne_eq,seval,h_putc,beq_self_eq_true,eq_self,exists_eq_left,exists_eq_left',x.enc_eq,hfin,d1',d2',d3',b1,b1',b2,em,en]
      refine wA_call rfl ((rheads_ok x.heads tx.heads _).mono ?_)
      rintro o H2 ⟨hv,fh,rfl,hh,hF⟩
      refine ⟨_,rfl,?_⟩
      have z0:=hF.2.2 0 (by simp)
      have z1:=hF.2.2 1 (by simp)
      simp -implicitDefEqProofs (maxDischargeDepth:=12) only [WW,List.replicate,Option.some_or,s_conv,e_conv,s_slc3,e_cut3,e_cut3n,e_bns,e_bnn,e_splice,if_true,if_false,ite_true,ite_false,true_or,ne_eq,seval,h_putc,beq_self_eq_true,eq_self,exists_eq_left,exists_eq_left',x.enc_eq] at z0 z1
      have hho:=hh.one
      have hhc:=hh.cells
      simp -implicitDefEqProofs (maxDischargeDepth:=12) only [WW,List.replicate,Option.some_or,s_conv,e_conv,s_slc3,e_cut3,e_cut3n,e_bns,e_bnn,e_splice,if_true,if_false,ite_true,ite_false,true_or,ne_eq,seval,h_putc,beq_self_eq_true,eq_self,exists_eq_left,exists_eq_left',z0,z1,b1,b1',hho,hhc]
      refine wp_loop (Inv:=fun k t H => ∃ (i : Nat) (f' : List Nat),i + k = x.heads.l.length∧H.cells 0 = some x.enc.cells∧H.cells 1 = some [.sc (.int .i64 (IntKind.i64.wrap (x.at_ - b))),.sc (.int .i64 (IntKind.i64.wrap (x.fin - x.at_))),hv,slm Grace.enc x.graces,.sc (.int .i64 x.articulations),.sc (.int .i64 x.ornament),.sc (.int .i64 x.dynamic),slm Syllable.enc x.lyrics]∧AccQ HeadQ 5 H hv (some (mapTo (cutHead x b e) i x.heads.l)) f'∧(∀ c ∈ f',2 ≤ c) ∧
        ∃ y : Nat→AV,t = [x.enc,.sc (.int .i64 b),.sc (.int .i64 e),.ptr 0 0,y 4,y 5,.ptr 1 0,y 7,.sc (.int .i64 i),y 9,y 10,y 11,y 12,y 13,y 14,y 15,y 16,y 17,y 18,y 19,y 20,y 21,y 22,y 23,y 24,y 25,y 26,y 27,y 28,y 29,y 30,y 31,y 32,y 33,y 34,y 35,y 36,y 37,y 38,y 39,y 40,y 41,y 42,y 43,y 44,y 45,y 46,y 47,y 48,y 49,y 50,y 51,y 52,y 53,y 54,y 55,y 56,y 57,y 58,y 59,y 60,y 61,y 62,y 63,y 64,y 65,y 66,y 67,y 68,y 69,y 70,y 71,y 72,y 73,y 74,y 75,y 76,y 77,y 78,y 79,y 80,y 81,y 82,y 83,y 84,y 85,y 86,y 87,y 88,y 89,y 90,y 91,y 92,y 93,y 94,y 95,y 96,y 97]) (k:=x.heads.l.length) ?_ ⟨0,fh,by omega,?_,?_,?_,?_,ex_x rfl⟩
      rotate_left
      · repeat rw [c_put_ne (show (0 : Nat) ≠ 1 by decide)]
        exact z0
      · simp -implicitDefEqProofs (maxDischargeDepth:=12) only [WW,List.replicate,Option.some_or,s_conv,e_conv,s_slc3,e_cut3,e_cut3n,e_bns,e_bnn,e_splice,if_true,if_false,ite_true,ite_false,true_or,ne_eq,seval,h_putc,beq_self_eq_true,eq_self,exists_eq_left,exists_eq_left',z1]
      · rw [mapTo_zero]
        refine (acc_heads hh).fr headQ fun c hc => ?_
        have h2:=hF.1 c hc
        have h3 : c ≠ 1:=by simp at h2; omega
        repeat rw [c_put_ne h3]
      · exact fun c hc => by have:=hF.1 c hc; simpa using this
      clear hh hF z0 z1
      rintro k t H ⟨i,f',hk,p0,p1,hA,hf,y,rfl⟩
      simp only [x.enc_eq,c_agg] at p0
      have hl:=hA.length.1
      rw [l_some,mapTo_len] at hl
      by_cases c1 : (i : Int) < (x.heads.l.length : Int)
      rotate_left
      · rw [mapTo_all (by omega)] at hA
        have ho:=hA.one
        simp -implicitDefEqProofs (maxDischargeDepth:=12) only [WW,List.replicate,Option.some_or,s_conv,e_conv,s_slc3,e_cut3,e_cut3n,e_bns,e_bnn,e_splice,if_true,if_false,ite_true,ite_false,true_or,ne_eq,seval,h_putc,beq_self_eq_true,eq_self,exists_eq_left,exists_eq_left',p0,p1,c1,hl,ho.1,ho.2]
        refine frz_cut (m:={ at_:=_,len:=_,heads:=some _,graces:=x.graces,articulations:=_,ornament:=_,dynamic:=_,lyrics:=x.lyrics }) (f:=f') ?_
        exact hA.fr headQ fun c hc => by have:=hf c hc; rw [c_put_ne]; omega
      obtain ⟨h,hh⟩ : ∃ y,x.heads.l[i]? = some y:=⟨_,List.getElem?_eq_getElem (by omega)⟩
      have e2 : IntKind.i64.wrap ((i : Int) + 1) = ((i + 1 : Nat) : Int):=by rw [w64 (by omega) (by have:=tx.heads; omega)]; omega
      simp -implicitDefEqProofs (maxDischargeDepth:=12) only [WW,List.replicate,Option.some_or,s_conv,e_conv,s_slc3,e_cut3,e_cut3n,e_bns,e_bnn,e_splice,if_true,if_false,ite_true,ite_false,true_or,ne_eq,seval,h_putc,beq_self_eq_true,eq_self,exists_eq_left,exists_eq_left',c1,hl,p0,p1,b1,b2,hfin,e2]
      refine ⟨k - 1,by omega,i + 1,f',by omega,rfl,?_,hf,ex_x rfl⟩
      rw [mapTo_same hh (by unfold cutHead; rw [if_neg b1,if_neg b2])]
      exact hA
end
end Go.Hem
namespace Go.Hem
noncomputable section
theorem firstE_zero : ∀ {l : List Int},firstE l = 0→∀ e ∈ l,e = 0
  | [],_,e,h => by simp at h
  | a :: l,k,e,h => by
    simp only [firstE] at k
    by_cases c : a = 0
    · rw [if_pos c] at k
      rcases List.mem_cons.1 h with rfl | h
      · exact c
      · exact firstE_zero k e h
    · rw [if_neg c] at k; exact absurd k c
theorem headsL_plain : ∀ {l m : List Head} {q : Int},l.map Head.pitch = m.map Head.pitch→(∀ h ∈ m,h.shown = 0)→headsL q l = 0→headsL q m = 0
  | [],[],_,_,_,_ => rfl
  | [],_ :: _,_,h,_,_ => by simp at h
  | _ :: _,[],_,h,_,_ => by simp at h
  | x :: l,y :: m,q,h1,h2,h3 => by
    simp only [List.map_cons,List.cons.injEq] at h1
    simp only [headsL] at h3 ⊢
    by_cases c1 : wellE x = 0
    · rw [if_neg (by simpa using c1)] at h3
      have:=wellE_ok c1
      have c2 : wellE y = 0:=by
        unfold wellE
        rw [← h1.1,if_pos this.1,h2 y (by simp)]; rfl
      rw [if_neg (by simpa using c2)]
      by_cases c3 : x.pitch.num ≤ q
      · rw [if_pos c3] at h3; simp at h3
      · rw [if_neg c3] at h3
        rw [← h1.1,if_neg c3]
        exact headsL_plain h1.2 (fun h hh => h2 h (by simp [hh])) h3
    · rw [if_pos c1] at h3; exact absurd h3 c1
theorem headsE_plain {l m : List Head} (h1 : l.map Head.pitch = m.map Head.pitch) (h2 : ∀ h ∈ m,h.shown = 0) (h3 : headsE l = 0) : headsE m = 0:=by
  unfold headsE at h3 ⊢
  rw [← map_inj_len h1]
  by_cases c1 : l.length = 0
  · rw [if_pos c1] at h3; simp at h3
  rw [if_neg c1] at h3 ⊢
  by_cases c2 : 10 < l.length
  · rw [if_pos c2] at h3; simp at h3
  rw [if_neg c2] at h3 ⊢
  exact headsL_plain h1 h2 h3
theorem chordE_parts {x : Note} (h : chordE x = 0) : headsE x.heads.l = 0∧gracesE x.graces.l = 0∧lyricsE x.lyrics.l = 0:=by
  unfold chordE at h
  by_cases c : firstE [headsE x.heads.l,gracesE x.graces.l,lyricsE x.lyrics.l] = 0
  · have:=firstE_zero c
    exact ⟨this _ (by simp),this _ (by simp),this _ (by simp)⟩
  · rw [if_pos c] at h; exact absurd h c
theorem lyricsE_nil : lyricsE [] = 0:=by
  unfold lyricsE lastE
  simp [firstE]
theorem chordE_plain {x y : Note} (h : chordE x = 0) (h1 : x.heads.l.map Head.pitch = y.heads.l.map Head.pitch) (h2 : ∀ h ∈ y.heads.l,h.shown = 0) (h3 : y.graces.l = []) (h4 : y.lyrics.l = []) (h5 : y.articulations = 0) (h6 : y.ornament = 0) (h7 : y.dynamic = 0) : chordE y = 0:=by
  have e1:=headsE_plain h1 h2 (chordE_parts h).1
  unfold chordE
  rw [e1,h3,h4,h5,h6,h7,lyricsE_nil]
  rfl
theorem limit_chord {n : Note} {b e : Int} (h : chordE n = 0) : chordE (limitP n b e) = 0:=by
  have hp : (limitP n b e).heads.l.map Head.pitch = n.heads.l.map Head.pitch:=by rw [limitP_heads,List.map_map]; rfl
  by_cases c : n.at_ < b
  · have e1 : n.part b = n.bare:=by unfold Note.part; rw [if_pos c]
    have e2 : ∀ m : Note,(n.cutTie m e).graces = m.graces∧(n.cutTie m e).lyrics = m.lyrics∧(n.cutTie m e).articulations = m.articulations∧(n.cutTie m e).ornament = m.ornament∧(n.cutTie m e).dynamic = m.dynamic:=fun m => by
      unfold Note.cutTie; split <;> exact ⟨rfl,rfl,rfl,rfl,rfl⟩
    obtain ⟨a1,a2,a3,a4,a5⟩:=e2 (n.part b)
    rw [e1] at a1 a2 a3 a4 a5
    refine chordE_plain h hp.symm (fun k hk => ?_) ?_ ?_ ?_ ?_ ?_
    · rw [limitP_heads] at hk
      obtain ⟨z,_,rfl⟩:=List.mem_map.1 hk
      unfold cutHead; rw [if_pos c]
    · show (n.cutTie (n.part b) e).graces.l = []
      rw [e1,a1]; rfl
    · show (n.cutTie (n.part b) e).lyrics.l = []
      rw [e1,a2]; rfl
    · show (n.cutTie (n.part b) e).articulations = 0
      rw [e1,a3]; rfl
    · show (n.cutTie (n.part b) e).ornament = 0
      rw [e1,a4]; rfl
    · show (n.cutTie (n.part b) e).dynamic = 0
      rw [e1,a5]; rfl
  · have e1 : n.part b = n:=by unfold Note.part; rw [if_neg c]
    have e2 : (n.cutTie n e).graces = n.graces∧(n.cutTie n e).lyrics = n.lyrics∧(n.cutTie n e).articulations = n.articulations∧(n.cutTie n e).ornament = n.ornament∧(n.cutTie n e).dynamic = n.dynamic:=by
      unfold Note.cutTie; split <;> exact ⟨rfl,rfl,rfl,rfl,rfl⟩
    obtain ⟨a1,a2,a3,a4,a5⟩:=e2
    rw [← h]
    refine chordE_of hp ?_ ?_ ?_ ?_ ?_ ?_
    · rw [limitP_heads,List.map_map]
      exact List.map_congr_left fun k _ => by show (cutHead n b e k).shown = _; unfold cutHead; rw [if_neg c]
    · show (n.cutTie (n.part b) e).graces.l = _
      rw [e1,a1]
    · show (n.cutTie (n.part b) e).lyrics.l = _
      rw [e1,a2]
    · show (n.cutTie (n.part b) e).articulations = _
      rw [e1,a3]
    · show (n.cutTie (n.part b) e).ornament = _
      rw [e1,a4]
    · show (n.cutTie (n.part b) e).dynamic = _
      rw [e1,a5]
theorem cutB_iff {n : Note} {b e : Int} : cutB n b e = true ↔ b < e∧n.at_ < e∧b < n.fin:=by
  unfold cutB; simp only [Bool.and_eq_true,decide_eq_true_eq]
theorem limit_fit {L b e : Int} {n : Note} (hL : L ≤ 123863040) (f : NFit L n) (hb : 0 ≤ b) (he : b ≤ e) (hel : e ≤ L) (hc : cutB n b e = true) :
    NFit (e - b) (limitP n b e)∧(limitP n b e).at_ = max n.at_ b - b∧(limitP n b e).len = min (n.at_ + n.len) e - max n.at_ b:=by
  have q1:=f.lo; have q2:=f.one; have q3:=f.hi; have q4:=f.fin_eq hL
  obtain ⟨c1,c2,c3⟩:=cutB_iff.1 hc
  have e1 : (limitP n b e).at_ = max n.at_ b - b:=by show IntKind.i64.wrap _ = _; exact w64 (by omega) (by omega)
  have e2 : (limitP n b e).len = min (n.at_ + n.len) e - max n.at_ b:=by show IntKind.i64.wrap _ = _; rw [q4]; exact w64 (by omega) (by omega)
  rw [q4] at c3
  exact ⟨⟨by omega,by omega,by omega,limit_chord f.ok⟩,e1,e2⟩
theorem sub_row {L b e : Int} {l : List Note} (hL : L ≤ 123863040) (h : Row L l) (hb : 0 ≤ b) (he : b ≤ e) (hel : e ≤ L) : Row (e - b) (subL l b e):=by
  unfold subL
  refine ⟨fun n hn => ?_,?_⟩
  · obtain ⟨m,hm,rfl⟩:=List.mem_map.1 hn
    obtain ⟨h1,h2⟩:=List.mem_filter.1 hm
    exact (limit_fit hL (h.fit m h1) hb he hel h2).1
  · refine List.pairwise_map.2 (List.Pairwise.imp_of_mem ?_ (h.ord.filter _))
    intro m n hm hn k
    obtain ⟨m1,m2⟩:=List.mem_filter.1 hm
    obtain ⟨n1,n2⟩:=List.mem_filter.1 hn
    obtain ⟨_,a1,a2⟩:=limit_fit hL (h.fit m m1) hb he hel m2
    obtain ⟨_,b1,b2⟩:=limit_fit hL (h.fit n n1) hb he hel n2
    unfold Before at k ⊢
    rw [a1,a2,b1]
    omega
def cutsL (l : List Note) (b e : Int) : List Note:=(l.filter fun n => cutB n b e).map fun n => cutP n b e
theorem cuts_cn {l : List Note} {b e : Int} : (cutsL l b e).map Note.cn = (subL l b e).map Note.cn:=by
  unfold cutsL subL
  rw [List.map_map,List.map_map]
  exact List.map_congr_left fun n _ => cut_limit
theorem tidyR_of {l m : List Note} (h : l.map Note.cn = m.map Note.cn) : (tidyR l).map Note.cn = (tidyP m).map Note.cn:=by
  rw [tidyR_eq,tidyP_of h]
theorem subC_good {c : Clip} {b e : Int} (h : subE c b e = 0) (hl : c.notes.l.length ≤ 4096) : subC c b e = ⟨e - b,Sl.of (tidyP (subL c.notes.l b e))⟩∧Good (subC c b e)∧0 ≤ b∧b ≤ e∧e ≤ c.len∧Good c:=by
  have hs : subC c b e = ⟨IntKind.i64.wrap (e - b),Sl.of (tidyP (subL c.notes.l b e))⟩:=by unfold subC; rw [if_pos h]
  unfold subE at h
  by_cases c1 : checkE c = 0
  rotate_left
  · rw [if_pos c1] at h; exact absurd h c1
  rw [if_neg (by simpa using c1)] at h
  by_cases c2 : b < 0 ∨ e < b ∨ c.len < e
  · rw [if_pos c2] at h; simp at h
  have g:=good_of c1
  have g1:=g.lo; have g2:=g.hi
  rw [w64 (by omega) (by omega)] at hs
  refine ⟨hs,?_,by omega,by omega,by omega,g⟩
  rw [hs]
  refine ⟨?_,?_,?_,?_⟩
  · show 0 ≤ e - b; omega
  · show e - b ≤ _; omega
  · show Row (e - b) _
    rw [l_of]
    exact tidy_row (by omega) (sub_row g2 g.row (by omega) (by omega) (by omega))
  · show Neat _
    rw [l_of]; exact neat_tidy
theorem subC_tame {c : Clip} (tc : c.tame) {b e : Int} : (subC c b e).tame:=by
  unfold subC
  split
  · have:=tidyP_tame (subL_tame (b:=b) (e:=e) tc.2)
    refine ⟨?_,?_⟩
    · rw [l_of]; have h1:=this.2; have h2:=subL_len (l:=c.notes.l) (b:=b) (e:=e); have:=tc.1; omega
    · rw [l_of]; exact this.1
  · exact noClip_tame
end
end Go.Hem
namespace Go.Hem
noncomputable section
theorem cutP_tame {x : Note} {b e : Int} (h : x.tame) : (cutP x b e).tame:=by
  refine ⟨?_,?_,?_,?_⟩
  · show (Sl.l (some (List.map _ _))).length < _
    rw [l_some,List.length_map]; exact h.heads
  · show (Sl.l (if _ then _ else _)).length < _
    split
    · show 0 < _; omega
    · exact h.graces
  · show (Sl.l (if _ then _ else _)).length < _
    split
    · show 0 < _; omega
    · exact h.lyrics
  · intro s hs
    have : s ∈ Sl.l (if x.at_ < b then none else x.lyrics):=hs
    split at this
    · simp [Sl.l] at this
    · exact h.text s this
theorem cutsL_take {l : List Note} {i : Nat} {x : Note} {b e : Int} (h : l[i]? = some x) : cutsL (l.take (i + 1)) b e = cutsL (l.take i) b e ++ if cutB x b e then [cutP x b e] else []:=by
  unfold cutsL
  rw [List.take_add_one,h,List.filter_append,List.map_append]
  congr 1
  cases q : cutB x b e <;> simp [List.filter,q]
theorem cutsL_len {l : List Note} {b e : Int} : (cutsL l b e).length ≤ l.length:=by
  unfold cutsL; rw [List.length_map]; exact List.length_filter_le _ _
theorem cutsL_tame {l : List Note} {b e : Int} (h : ∀ y ∈ l,y.tame) : ∀ y ∈ cutsL l b e,y.tame:=fun y hy => by
  unfold cutsL at hy
  obtain ⟨z,hz,rfl⟩:=List.mem_map.1 hy
  exact cutP_tame (h z (List.mem_filter.1 hz).1)
theorem law6_pv (c : Clip) (b e : Int) : Pv prog polS 6 [c.enc,.sc (.int .i64 b),.sc (.int .i64 e)] (.sc (.bool true)):=by
  refine Pv_of' ok6 (by simp only [AV.closedBs,Clip.enc_closed,AV.closedB,Bool.and_self]) ?_
  simp -implicitDefEqProofs (maxDischargeDepth:=12) only [wpF,cf6,WW,List.replicate,Option.some_or,s_conv,e_conv,s_slc3,e_cut3,e_cut3n,e_bns,e_bnn,e_splice,if_true,if_false,ite_true,ite_false,true_or,ne_eq,seval,h_putc,beq_self_eq_true,eq_self,exists_eq_left,exists_eq_left',c.enc_eq]
  refine wA_pure rfl known_pv ?_
  simp -implicitDefEqProofs (maxDischargeDepth:=12) only [WW,List.replicate,Option.some_or,s_conv,e_conv,s_slc3,e_cut3,e_cut3n,e_bns,e_bnn,e_splice,if_true,if_false,ite_true,ite_false,true_or,ne_eq,seval,h_putc,beq_self_eq_true,eq_self,exists_eq_left,exists_eq_left',c.enc_eq]
  rw [← c.enc_eq]
  refine wA_pure rfl (small_pv c) ?_
  cases hc : c.smallB with
  | false =>
    simp -implicitDefEqProofs (maxDischargeDepth:=12) only [WW,List.replicate,Option.some_or,s_conv,e_conv,s_slc3,e_cut3,e_cut3n,e_bns,e_bnn,e_splice,if_true,if_false,ite_true,ite_false,true_or,ne_eq,seval,h_putc,beq_self_eq_true,eq_self,exists_eq_left,exists_eq_left']
    refine wA_pure rfl known_pv ?_
    simp -implicitDefEqProofs (maxDischargeDepth:=12) only [WW,List.replicate,Option.some_or,s_conv,e_conv,s_slc3,e_cut3,e_cut3n,e_bns,e_bnn,e_splice,if_true,if_false,ite_true,ite_false,true_or,ne_eq,seval,h_putc,beq_self_eq_true,eq_self,exists_eq_left,exists_eq_left']
    exact frz_sc
  | true =>
  have tc:=smallB_tame hc
  simp -implicitDefEqProofs (maxDischargeDepth:=12) only [WW,List.replicate,Option.some_or,s_conv,e_conv,s_slc3,e_cut3,e_cut3n,e_bns,e_bnn,e_splice,if_true,if_false,ite_true,ite_false,true_or,ne_eq,seval,h_putc,beq_self_eq_true,eq_self,exists_eq_left,exists_eq_left',c.enc_eq]
  rw [← c.enc_eq]
  refine wA_pure rfl (sub_pv c tc b e) ?_
  have hX:=subC_tame tc (b:=b) (e:=e)
  have hG:=subC_good (c:=c) (b:=b) (e:=e)
  have hXd : subC c b e = if subE c b e = 0 then ⟨IntKind.i64.wrap (e - b),Sl.of (tidyP (subL c.notes.l b e))⟩ else noClip:=rfl
  generalize subC c b e = X at hX hXd hG
  generalize hE : subE c b e = E at hXd hG
  unfold subE at hE
  simp -implicitDefEqProofs (maxDischargeDepth:=12) only [WW,List.replicate,Option.some_or,s_conv,e_conv,s_slc3,e_cut3,e_cut3n,e_bns,e_bnn,e_splice,if_true,if_false,ite_true,ite_false,true_or,ne_eq,seval,h_putc,beq_self_eq_true,eq_self,exists_eq_left,exists_eq_left',c.enc_eq,X.enc_eq]
  rw [← c.enc_eq]
  refine wA_pure rfl (rcheck_pv c tc) ?_
  rw [← X.enc_eq]
  by_cases h1 : checkE c = 0
  rotate_left
  · rw [if_pos h1] at hE; subst hE
    have hXv : X = noClip:=by rw [hXd,if_neg h1]
    rw [hXv]
    simp -implicitDefEqProofs (maxDischargeDepth:=12) only [WW,List.replicate,Option.some_or,s_conv,e_conv,s_slc3,e_cut3,e_cut3n,e_bns,e_bnn,e_splice,if_true,if_false,ite_true,ite_false,true_or,ne_eq,seval,h_putc,beq_self_eq_true,eq_self,exists_eq_left,exists_eq_left',h1,noClip_enc,c.enc_eq]
    rw [← noClip_enc]
    refine wA_pure rfl (same_pv noClip noClip noClip_tame.1 (chord_tames noClip_tame)) ?_
    simp -implicitDefEqProofs (maxDischargeDepth:=12) only [WW,List.replicate,Option.some_or,s_conv,e_conv,s_slc3,e_cut3,e_cut3n,e_bns,e_bnn,e_splice,if_true,if_false,ite_true,ite_false,true_or,ne_eq,seval,h_putc,beq_self_eq_true,eq_self,exists_eq_left,exists_eq_left']
    exact frz_sc
  rw [if_neg (by simpa using h1)] at hE
  by_cases b1 : b < 0
  · rw [if_pos (by omega)] at hE; subst hE
    have hXv : X = noClip:=by rw [hXd,if_neg (by decide)]
    rw [hXv]
    simp -implicitDefEqProofs (maxDischargeDepth:=12) only [WW,List.replicate,Option.some_or,s_conv,e_conv,s_slc3,e_cut3,e_cut3n,e_bns,e_bnn,e_splice,if_true,if_false,ite_true,ite_false,true_or,ne_eq,seval,h_putc,beq_self_eq_true,eq_self,exists_eq_left,exists_eq_left',eq_true h1,b1,noClip_enc,c.enc_eq]
    rw [← noClip_enc]
    refine wA_pure rfl (same_pv noClip noClip noClip_tame.1 (chord_tames noClip_tame)) ?_
    simp -implicitDefEqProofs (maxDischargeDepth:=12) only [WW,List.replicate,Option.some_or,s_conv,e_conv,s_slc3,e_cut3,e_cut3n,e_bns,e_bnn,e_splice,if_true,if_false,ite_true,ite_false,true_or,ne_eq,seval,h_putc,beq_self_eq_true,eq_self,exists_eq_left,exists_eq_left']
    exact frz_sc
  by_cases b2 : e < b
  · rw [if_pos (by omega)] at hE; subst hE
    have hXv : X = noClip:=by rw [hXd,if_neg (by decide)]
    rw [hXv]
    simp -implicitDefEqProofs (maxDischargeDepth:=12) only [WW,List.replicate,Option.some_or,s_conv,e_conv,s_slc3,e_cut3,e_cut3n,e_bns,e_bnn,e_splice,if_true,if_false,ite_true,ite_false,true_or,ne_eq,seval,h_putc,beq_self_eq_true,eq_self,exists_eq_left,exists_eq_left',eq_true h1,b1,b2,noClip_enc,c.enc_eq]
    rw [← noClip_enc]
    refine wA_pure rfl (same_pv noClip noClip noClip_tame.1 (chord_tames noClip_tame)) ?_
    simp -implicitDefEqProofs (maxDischargeDepth:=12) only [WW,List.replicate,Option.some_or,s_conv,e_conv,s_slc3,e_cut3,e_cut3n,e_bns,e_bnn,e_splice,if_true,if_false,ite_true,ite_false,true_or,ne_eq,seval,h_putc,beq_self_eq_true,eq_self,exists_eq_left,exists_eq_left']
    exact frz_sc
  by_cases b3 : c.len < e
  · rw [if_pos (by omega)] at hE; subst hE
    have hXv : X = noClip:=by rw [hXd,if_neg (by decide)]
    rw [hXv]
    simp -implicitDefEqProofs (maxDischargeDepth:=12) only [WW,List.replicate,Option.some_or,s_conv,e_conv,s_slc3,e_cut3,e_cut3n,e_bns,e_bnn,e_splice,if_true,if_false,ite_true,ite_false,true_or,ne_eq,seval,h_putc,beq_self_eq_true,eq_self,exists_eq_left,exists_eq_left',eq_true h1,b1,b2,b3,noClip_enc,c.enc_eq]
    rw [← noClip_enc]
    refine wA_pure rfl (same_pv noClip noClip noClip_tame.1 (chord_tames noClip_tame)) ?_
    simp -implicitDefEqProofs (maxDischargeDepth:=12) only [WW,List.replicate,Option.some_or,s_conv,e_conv,s_slc3,e_cut3,e_cut3n,e_bns,e_bnn,e_splice,if_true,if_false,ite_true,ite_false,true_or,ne_eq,seval,h_putc,beq_self_eq_true,eq_self,exists_eq_left,exists_eq_left']
    exact frz_sc
  rw [if_neg (by omega)] at hE
  subst hE
  rw [if_pos rfl] at hXd
  obtain ⟨hXs,hgood,_⟩:=hG rfl (by unfold Clip.smallB at hc; simp only [Bool.and_eq_true,decide_eq_true_eq] at hc; omega)
  simp -implicitDefEqProofs (maxDischargeDepth:=12) only [WW,List.replicate,Option.some_or,s_conv,e_conv,s_slc3,e_cut3,e_cut3n,e_bns,e_bnn,e_splice,if_true,if_false,ite_true,ite_false,true_or,ne_eq,seval,h_putc,beq_self_eq_true,eq_self,exists_eq_left,exists_eq_left',eq_true h1,b1,b2,b3,c.enc_eq,X.enc_eq]
  refine wp_loop (Inv:=fun k t H => ∃ (i : Nat) (v : AV) (fp : List Nat),i + k = c.notes.l.length∧H.cells 0 = some c.enc.cells∧H.cells 1 = some X.enc.cells ∧
    AccQ NoteC 8 H v (Sl.of (cutsL (c.notes.l.take i) b e)) fp∧(∀ b ∈ fp,2 ≤ b)∧2 ≤ H.next ∧
    ∃ y : Nat→AV,t = [c.enc,.sc (.int .i64 b),.sc (.int .i64 e),.ptr 0 0,y 4,y 5,.sc (.bool false),.ptr 1 0,.sc (.int .i64 0),y 9,v,.sc (.int .i64 i),y 12,y 13,y 14,y 15,y 16,y 17,y 18,y 19,y 20,y 21,y 22,y 23,y 24,y 25,y 26,y 27,y 28,y 29,y 30,y 31,y 32,y 33,y 34,y 35,y 36,y 37,y 38,y 39,y 40,y 41,y 42,y 43,y 44,y 45,y 46,y 47,y 48,y 49,y 50,y 51,y 52,y 53,y 54,y 55,y 56,y 57,y 58,y 59,y 60,y 61,y 62,y 63,y 64,y 65,y 66,y 67,y 68,y 69,y 70,y 71,y 72,y 73,y 74,y 75,y 76,y 77,y 78,y 79,y 80,y 81,y 82,y 83,y 84,y 85,y 86,y 87,y 88,y 89,y 90,y 91,y 92,y 93,y 94,y 95,y 96,y 97,y 98,y 99,y 100]) (k:=c.notes.l.length) ?_
    ⟨0,_,[],by omega,?_,?_,accQ_none,by simp,?_,ex_x rfl⟩
  rotate_left
  · simp -implicitDefEqProofs (maxDischargeDepth:=12) only [WW,List.replicate,Option.some_or,s_conv,e_conv,s_slc3,e_cut3,e_cut3n,e_bns,e_bnn,e_splice,if_true,if_false,ite_true,ite_false,true_or,ne_eq,seval,h_putc,beq_self_eq_true,eq_self,exists_eq_left,exists_eq_left',c.enc_eq]
  · simp -implicitDefEqProofs (maxDischargeDepth:=12) only [WW,List.replicate,Option.some_or,s_conv,e_conv,s_slc3,e_cut3,e_cut3n,e_bns,e_bnn,e_splice,if_true,if_false,ite_true,ite_false,true_or,ne_eq,seval,h_putc,beq_self_eq_true,eq_self,exists_eq_left,exists_eq_left',X.enc_eq]
  · simp only [AHeap.next_put,AHeap.next_alloc]; decide
  rintro k t H ⟨i,v,fp,hk,p0,p1,hA,hfp,hN,y,rfl⟩
  simp only [c.enc_eq,X.enc_eq,c_agg] at p0 p1
  by_cases c1 : (i : Int) < (c.notes.l.length : Int)
  rotate_left
  · rw [List.take_of_length_le (by omega)] at hA
    have hvo:=hA.one
    obtain ⟨f,o1,o2⟩:=hA.own noteC
    simp -implicitDefEqProofs (maxDischargeDepth:=12) only [WW,List.replicate,Option.some_or,s_conv,e_conv,s_slc3,e_cut3,e_cut3n,e_bns,e_bnn,e_splice,if_true,if_false,ite_true,ite_false,true_or,ne_eq,seval,h_putc,beq_self_eq_true,eq_self,exists_eq_left,exists_eq_left',c1,p0,p1,hvo.1,hvo.2]
    refine wA_ownA rfl (.cons (o1.mono (by decide)) .nil Apart.nil_right) (rtidy_pv (Sl.of (cutsL c.notes.l b e)) (by rw [l_of]; have:=cutsL_len (l:=c.notes.l) (b:=b) (e:=e); have:=tc.1; omega) (by rw [l_of]; exact cutsL_tame tc.2)) ?_
    intro H1 hL
    have q1:=(cells_of_get (hL 1 (fun h => by have:=hfp 1 (o2 1 (by simpa using h)); omega))).trans p1
    rw [l_of]
    have tR:=tidyR_tame (cutsL_tame (b:=b) (e:=e) tc.2)
    have lR : (tidyR (cutsL c.notes.l b e)).length < 1000000:=by have h1:=tR.2; have h2:=cutsL_len (l:=c.notes.l) (b:=b) (e:=e); have:=tc.1; omega
    simp -implicitDefEqProofs (maxDischargeDepth:=12) only [WW,List.replicate,Option.some_or,s_conv,e_conv,s_slc3,e_cut3,e_cut3n,e_bns,e_bnn,e_splice,if_true,if_false,ite_true,ite_false,true_or,ne_eq,seval,h_putc,beq_self_eq_true,eq_self,exists_eq_left,exists_eq_left',p1,q1]
    rw [← X.enc_eq]
    have eY : X.cn = (⟨IntKind.i64.wrap (e - b),Sl.of (tidyR (cutsL c.notes.l b e))⟩ : Clip).cn:=by
      rw [hXd]
      refine Clip.cn_iff.2 ⟨rfl,?_⟩
      rw [l_of,l_of,tidyR_of cuts_cn]
    refine wA_pure rfl (same_pv X ⟨IntKind.i64.wrap (e - b),Sl.of (tidyR (cutsL c.notes.l b e))⟩ hX.1 (chord_tames hX)) ?_
    rw [decide_eq_true eY]
    simp -implicitDefEqProofs (maxDischargeDepth:=12) only [WW,List.replicate,Option.some_or,s_conv,e_conv,s_slc3,e_cut3,e_cut3n,e_bns,e_bnn,e_splice,if_true,if_false,ite_true,ite_false,true_or,ne_eq,seval,h_putc,beq_self_eq_true,eq_self,exists_eq_left,exists_eq_left',q1]
    rw [← X.enc_eq]
    refine wA_pure rfl (check_pv X hX) ?_
    rw [check_of hgood (by rw [hXd,l_of]; have h1:=(tidyP_tame (subL_tame (b:=b) (e:=e) tc.2)).2; have h2:=subL_len (l:=c.notes.l) (b:=b) (e:=e); unfold Clip.smallB at hc; simp only [Bool.and_eq_true,decide_eq_true_eq] at hc; omega)]
    simp -implicitDefEqProofs (maxDischargeDepth:=12) only [WW,List.replicate,Option.some_or,s_conv,e_conv,s_slc3,e_cut3,e_cut3n,e_bns,e_bnn,e_splice,if_true,if_false,ite_true,ite_false,true_or,ne_eq,seval,h_putc,beq_self_eq_true,eq_self,exists_eq_left,exists_eq_left']
    exact frz_sc
  obtain ⟨x,hx⟩ : ∃ x,c.notes.l[i]? = some x:=⟨_,List.getElem?_eq_getElem (by omega)⟩
  have e2 : IntKind.i64.wrap ((i : Int) + 1) = ((i + 1 : Nat) : Int):=by rw [w64 (by omega) (by have:=tc.1; omega)]; omega
  have tx:=tc.2 x (List.mem_of_getElem? hx)
  have hlt:=hA.lt noteC
  have es:=cutsL_take (b:=b) (e:=e) hx
  simp -implicitDefEqProofs (maxDischargeDepth:=12) only [WW,List.replicate,Option.some_or,s_conv,e_conv,s_slc3,e_cut3,e_cut3n,e_bns,e_bnn,e_splice,if_true,if_false,ite_true,ite_false,true_or,ne_eq,seval,h_putc,beq_self_eq_true,eq_self,exists_eq_left,exists_eq_left',p0,c1,hx,x.enc_eq]
  rw [← x.enc_eq]
  refine wA_pure rfl (cut_pv x tx b e) ?_
  unfold cutR
  cases hcb : cutB x b e with
  | false =>
    rw [hcb,if_neg (by simp),List.append_nil] at es
    simp -implicitDefEqProofs (maxDischargeDepth:=12) only [WW,List.replicate,Option.some_or,s_conv,e_conv,s_slc3,e_cut3,e_cut3n,e_bns,e_bnn,if_true,if_false,ite_true,ite_false,true_or,ne_eq,seval,beq_self_eq_true,eq_self,exists_eq_left,exists_eq_left',noNote,Note.enc_eq,e2]
    refine ⟨k - 1,by omega,i + 1,v,fp,by omega,?_,?_,?_,hfp,?_,ex_x rfl⟩
    · rw [c_put_ne (by omega),c_alloc_ne (by omega)]; exact p0
    · rw [c_put_ne (by omega),c_alloc_ne (by omega)]; exact p1
    · rw [es]
      exact hA.fr noteC fun q hq => by have:=hlt q hq; rw [c_put_ne (by omega),c_alloc_ne (by omega)]
    · omega
  | true =>
    rw [hcb,if_pos rfl] at es
    generalize cutP x b e = m at es
    simp -implicitDefEqProofs (maxDischargeDepth:=12) only [WW,List.replicate,Option.some_or,s_conv,e_conv,s_slc3,e_cut3,e_cut3n,e_bns,e_bnn,e_splice,if_true,if_false,ite_true,ite_false,true_or,ne_eq,seval,h_putc,beq_self_eq_true,eq_self,exists_eq_left,exists_eq_left',m.enc_eq]
    generalize hHb : AHeap.alloc (AHeap.put _ _ _) _ = Hb
    have nb : Hb.next = H.next + 2:=by subst hHb; simp only [AHeap.next_put,AHeap.next_alloc]
    have kk : ∀ b,b < H.next→Hb.cells b = H.cells b:=fun b hb => by subst hHb; rw [c_alloc_ne (by simp only [AHeap.next_put,AHeap.next_alloc]; omega),c_put_ne (by omega),c_alloc_ne (by omega)]
    have cb:=congrArg (fun h => AHeap.cells h (H.next + 1)) hHb
    simp -implicitDefEqProofs (maxDischargeDepth:=12) only [WW,List.replicate,Option.some_or,s_conv,e_conv,s_slc3,e_cut3,e_cut3n,e_bns,e_bnn,e_splice,if_true,if_false,ite_true,ite_false,true_or,ne_eq,seval,h_putc,beq_self_eq_true,eq_self,exists_eq_left,exists_eq_left'] at cb
    replace cb:=cb.symm
    clear hHb
    refine wA_appQ noteC (H0:=H) hA (y:=m) (r:=m.enc.cells) (g:=[]) (fun b hb => kk b (hlt b hb)) rfl (asrc_one cb rfl) ⟨rfl,rfl⟩ Apart.nil_right (by rw [l_of]; have h1:=cutsL_len (l:=c.notes.l.take i) (b:=b) (e:=e); rw [List.length_take] at h1; have:=tc.1; omega) ?_
    intro v' H8 fp' q1 q2 q3 q4 q5 q6
    have z8 : ∀ b,b < 2→H8.cells b = H.cells b:=fun b hb => by rw [q3 b (fun h => by have:=hfp b h; omega) (by omega),kk b (by omega)]
    simp -implicitDefEqProofs (maxDischargeDepth:=12) only [WW,List.replicate,Option.some_or,s_conv,e_conv,s_slc3,e_cut3,e_cut3n,e_bns,e_bnn,e_splice,if_true,if_false,ite_true,ite_false,true_or,ne_eq,seval,h_putc,beq_self_eq_true,eq_self,exists_eq_left,exists_eq_left',q5,q6,e2]
    refine ⟨k - 1,by omega,i + 1,v',fp',by omega,by rw [z8 0 (by decide)]; exact p0,by rw [z8 1 (by decide)]; exact p1,?_,fun b hb => ?_,by omega,ex_x rfl⟩
    · rw [es,of_cons (by simp)]
      rw [l_of] at q1; exact q1
    · rcases q4 b hb with h | h | h
      · exact hfp b h
      · simp at h
      · omega
end
end Go.Hem
