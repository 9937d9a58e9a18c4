/- Walks. -/
import Derived.Test.YtipbkcegnkpcmaaWalks0
set_option maxRecDepth 10000
set_option maxHeartbeats 4000000
set_option linter.unusedSimpArgs false
set_option linter.unusedVariables false
namespace Go.Hem
noncomputable section
open Classical in
def sylE (s : Syllable) : Int:=if h : ∃ e : Int,Pv prog polS 84 [s.enc] (.sc (.int .i64 e)) then h.choose else 0
theorem sylE_pv {s : Syllable} (hs : s.text.size < 1000000) : Pv prog polS 84 [s.enc] (.sc (.int .i64 (sylE s))):=by
  have h:=syl_pv s hs
  unfold sylE
  rw [dif_pos h]
  exact h.choose_spec
def Syllable.absentB (s : Syllable) : Bool:=decide (s = ⟨⟨#[]⟩,0⟩)
theorem absent_pv (s : Syllable) : Pv prog polS 85 [s.enc] (.sc (.bool s.absentB)):=by
  refine Pv_of' ok85 (by simp only [AV.closedBs,Syllable.enc_closed,Bool.and_self]) ?_
  have e:=syl_eq (a:=s) (b:=⟨⟨#[]⟩,0⟩)
  simp -implicitDefEqProofs (maxDischargeDepth:=12) only [wpF,cf85,WW,List.replicate,Option.some_or,s_conv,e_conv,s_slc3,e_cut3,e_cut3n,e_bns,e_bnn,e_splice,if_true,if_false,ite_true,ite_false,true_or,ne_eq,seval,h_putc,beq_self_eq_true,eq_self,exists_eq_left,exists_eq_left',s.enc_eq,e]
  exact frz_sc
def lastE (l : List Syllable) : Int:=match l.getLast? with
  | some x => if x.absentB = true then 3 else 0
  | none => 0
def lyricsE (l : List Syllable) : Int:=if 4 < l.length then 9 else if firstE (l.map sylE) ≠ 0 then firstE (l.map sylE) else lastE l
theorem getLast_at' {α : Type} {l : List α} (h : 0 < l.length) : ∃ a,l.getLast? = some a∧l[l.length - 1]? = some a:=by
  obtain ⟨a,ha⟩ : ∃ a,l.getLast? = some a:=by
    cases e : l.getLast? with
    | none => rw [List.getLast?_eq_none_iff] at e; subst e; simp at h
    | some a => exact ⟨a,rfl⟩
  exact ⟨a,ha,getLast_at ha⟩
theorem lyrics_pv (s : Sl Syllable) (hs : s.l.length < 1000000) (ht : ∀ x ∈ s.l,x.text.size < 1000000) : Pv prog polS 64 [slm Syllable.enc s] (.sc (.int .i64 (lyricsE s.l))):=by
  refine Pv_of' ok64 (by simp only [AV.closedBs,closedB_slm Syllable.enc_closed,Bool.and_self]) ?_
  generalize hr : lyricsE s.l = r
  unfold lyricsE at hr
  by_cases h2 : 4 < s.l.length
  · rw [if_pos h2] at hr; subst hr
    have h2' : (4 : Int) < (s.l.length : Int):=by omega
    simp -implicitDefEqProofs (maxDischargeDepth:=12) only [wpF,cf64,WW,List.replicate,Option.some_or,s_conv,e_conv,s_slc3,e_cut3,e_cut3n,e_bns,e_bnn,e_splice,if_true,if_false,ite_true,ite_false,true_or,ne_eq,seval,h_putc,beq_self_eq_true,eq_self,exists_eq_left,exists_eq_left',h2']
    exact frz_sc
  rw [if_neg h2] at hr
  have h2' : ¬ (4 : Int) < (s.l.length : Int):=by omega
  simp -implicitDefEqProofs (maxDischargeDepth:=12) only [wpF,cf64,WW,List.replicate,Option.some_or,s_conv,e_conv,s_slc3,e_cut3,e_cut3n,e_bns,e_bnn,e_splice,if_true,if_false,ite_true,ite_false,true_or,ne_eq,seval,h_putc,beq_self_eq_true,eq_self,exists_eq_left,exists_eq_left',h2']
  refine wp_loop (Inv:=fun k t H => ∃ (i : Nat),i + k = s.l.length∧firstE ((s.l.drop i).map sylE) = firstE (s.l.map sylE) ∧
    ∃ x : Nat→AV,t = [slm Syllable.enc s,x 1,x 2,x 3,x 4,x 5,x 6,x 7,x 8,x 9,slm Syllable.enc s,.sc (.int .i64 s.l.length),.sc (.int .i64 i),x 13,x 14,x 15,x 16,x 17,x 18,x 19,x 20,x 21,x 22,x 23,x 24,x 25,x 26,x 27,x 28,x 29,x 30,x 31,x 32,x 33]) (k:=s.l.length) ?_
    ⟨0,by omega,rfl,ex_x rfl⟩
  rintro k t H ⟨i,hk,hf,x,rfl⟩
  by_cases c1 : (i : Int) < (s.l.length : Int)
  · obtain ⟨y,hy⟩ : ∃ y,s.l[i]? = some y:=⟨_,List.getElem?_eq_getElem (by omega)⟩
    have e2 : IntKind.i64.wrap ((i : Int) + 1) = ((i + 1 : Nat) : Int):=by rw [w64 (by omega) (by omega)]; omega
    rw [drop_cons hy,List.map_cons] at hf
    simp only [firstE] at hf
    simp -implicitDefEqProofs (maxDischargeDepth:=12) only [WW,List.replicate,Option.some_or,s_conv,e_conv,s_slc3,e_cut3,e_cut3n,e_bns,e_bnn,e_splice,if_true,if_false,ite_true,ite_false,true_or,ne_eq,seval,h_putc,beq_self_eq_true,eq_self,exists_eq_left,exists_eq_left',c1,hy,y.enc_eq]
    rw [← y.enc_eq]
    refine wA_pure rfl (sylE_pv (ht y (List.mem_of_getElem? hy))) ?_
    by_cases c2 : sylE y = 0
    · rw [if_pos c2] at hf
      simp -implicitDefEqProofs (maxDischargeDepth:=12) only [WW,List.replicate,Option.some_or,s_conv,e_conv,s_slc3,e_cut3,e_cut3n,e_bns,e_bnn,e_splice,if_true,if_false,ite_true,ite_false,true_or,ne_eq,seval,h_putc,beq_self_eq_true,eq_self,exists_eq_left,exists_eq_left',c2,e2]
      exact ⟨k - 1,by omega,i + 1,by omega,hf,ex_x rfl⟩
    · rw [if_neg c2] at hf
      rw [← hf,if_pos c2] at hr; subst hr
      simp -implicitDefEqProofs (maxDischargeDepth:=12) only [WW,List.replicate,Option.some_or,s_conv,e_conv,s_slc3,e_cut3,e_cut3n,e_bns,e_bnn,e_splice,if_true,if_false,ite_true,ite_false,true_or,ne_eq,seval,h_putc,beq_self_eq_true,eq_self,exists_eq_left,exists_eq_left',c2]
      exact frz_sc
  · rw [drop_end c1] at hf
    have hf0 : firstE (s.l.map sylE) = 0:=hf.symm
    rw [hf0,if_neg (by simp)] at hr
    by_cases h0 : 0 < s.l.length
    · obtain ⟨a,ha,hat⟩:=getLast_at' h0
      have hr' : (if a.absentB = true then (3 : Int) else 0) = r:=by rw [← hr]; unfold lastE; rw [ha]
      have ei : IntKind.i64.wrap ((s.l.length : Int) - 1) = ((s.l.length - 1 : Nat) : Int):=by rw [w64 (by omega) (by omega)]; omega
      have h0' : (0 : Int) < (s.l.length : Int):=by omega
      simp -implicitDefEqProofs (maxDischargeDepth:=12) only [WW,List.replicate,Option.some_or,s_conv,e_conv,s_slc3,e_cut3,e_cut3n,e_bns,e_bnn,e_splice,if_true,if_false,ite_true,ite_false,true_or,ne_eq,seval,h_putc,beq_self_eq_true,eq_self,exists_eq_left,exists_eq_left',c1,h0',ei,hat,a.enc_eq]
      rw [← a.enc_eq]
      refine wA_pure rfl (absent_pv a) ?_
      cases hab : a.absentB with
      | true =>
        rw [hab,if_pos rfl] at hr'; subst hr'
        simp -implicitDefEqProofs (maxDischargeDepth:=12) only [WW,List.replicate,Option.some_or,s_conv,e_conv,s_slc3,e_cut3,e_cut3n,e_bns,e_bnn,e_splice,if_true,if_false,ite_true,ite_false,true_or,ne_eq,seval,h_putc,beq_self_eq_true,eq_self,exists_eq_left,exists_eq_left']
        exact frz_sc
      | false =>
        rw [hab,if_neg (by simp)] at hr'; subst hr'
        simp -implicitDefEqProofs (maxDischargeDepth:=12) only [WW,List.replicate,Option.some_or,s_conv,e_conv,s_slc3,e_cut3,e_cut3n,e_bns,e_bnn,e_splice,if_true,if_false,ite_true,ite_false,true_or,ne_eq,seval,h_putc,beq_self_eq_true,eq_self,exists_eq_left,exists_eq_left']
        exact frz_sc
    · have hl : s.l = []:=List.length_eq_zero_iff.1 (by omega)
      have h0' : ¬ (0 : Int) < (s.l.length : Int):=by omega
      rw [hl] at hr
      have hr' : (0 : Int) = r:=hr
      subst hr'
      simp -implicitDefEqProofs (maxDischargeDepth:=12) only [WW,List.replicate,Option.some_or,s_conv,e_conv,s_slc3,e_cut3,e_cut3n,e_bns,e_bnn,e_splice,if_true,if_false,ite_true,ite_false,true_or,ne_eq,seval,h_putc,beq_self_eq_true,eq_self,exists_eq_left,exists_eq_left',c1,h0']
      exact frz_sc
def chordE (x : Note) : Int :=
  if firstE [headsE x.heads.l,gracesE x.graces.l,lyricsE x.lyrics.l] ≠ 0 then firstE [headsE x.heads.l,gracesE x.graces.l,lyricsE x.lyrics.l]
  else firstE [within x.articulations 31,within x.ornament 4,within x.dynamic 9,within 0 2,within 0 2]
theorem exists_pv : Pv prog polS 58 [.sc (.int .i64 1)] (.sc (.bool true)):=by
  refine Pv_of' ok58 rfl ?_
  simp -implicitDefEqProofs (maxDischargeDepth:=12) only [wpF,cf58,WW,List.replicate,Option.some_or,s_conv,e_conv,s_slc3,e_cut3,e_cut3n,e_bns,e_bnn,e_splice,if_true,if_false,ite_true,ite_false,true_or,ne_eq,seval,h_putc,beq_self_eq_true,eq_self,exists_eq_left,exists_eq_left']
  exact frz_sc
theorem dur_pv : Pv prog polS 61 [.agg [.sc (.int .i64 0),.sc (.int .i64 0)]] (.sc (.int .i64 0)):=by
  refine Pv_of' ok61 rfl ?_
  simp -implicitDefEqProofs (maxDischargeDepth:=12) only [wpF,cf61,WW,List.replicate,Option.some_or,s_conv,e_conv,s_slc3,e_cut3,e_cut3n,e_bns,e_bnn,e_splice,if_true,if_false,ite_true,ite_false,true_or,ne_eq,seval,h_putc,beq_self_eq_true,eq_self,exists_eq_left,exists_eq_left']
  exact frz_sc
theorem strip_pv (x : Note) : Pv prog polS 60 [x.chord.enc] x.chord.enc:=by
  refine Pv_of' ok60 (by simp only [AV.closedBs,Event.enc_closed,Bool.and_self]) ?_
  have ec : x.chord.enc = .agg [.sc (.int .i64 0),.sc (.int .i64 0),.sc (.int .i64 1),.sc (.int .i64 0),.sc (.int .i64 0),slm Head.enc x.heads,slm Grace.enc x.graces,.sc (.int .i64 x.articulations),.sc (.int .i64 x.ornament),.sc (.int .i64 x.dynamic),slm Syllable.enc x.lyrics,.sc (.int .i64 0),.sc (.int .i64 0)]:=rfl
  have hp : AV.plain x.chord.enc = true:=Event.enc_plain x.chord
  rw [ec] at hp
  simp -implicitDefEqProofs (maxDischargeDepth:=12) only [wpF,cf60,WW,List.replicate,Option.some_or,s_conv,e_conv,s_slc3,e_cut3,e_cut3n,e_bns,e_bnn,e_splice,if_true,if_false,ite_true,ite_false,true_or,ne_eq,seval,h_putc,beq_self_eq_true,eq_self,exists_eq_left,exists_eq_left',ec]
  exact frz_plain rfl hp
theorem echeck_pv (x : Note) (tx : x.tame) : Pv prog polS 31 [x.chord.enc] (.sc (.int .i64 (chordE x))):=by
  refine Pv_of' ok31 (by simp only [AV.closedBs,Event.enc_closed,Bool.and_self]) ?_
  generalize hr : chordE x = r
  unfold chordE at hr
  have ec : x.chord.enc = .agg [.sc (.int .i64 0),.sc (.int .i64 0),.sc (.int .i64 1),.sc (.int .i64 0),.sc (.int .i64 0),slm Head.enc x.heads,slm Grace.enc x.graces,.sc (.int .i64 x.articulations),.sc (.int .i64 x.ornament),.sc (.int .i64 x.dynamic),slm Syllable.enc x.lyrics,.sc (.int .i64 0),.sc (.int .i64 0)]:=rfl
  have w0 : within 0 99 = 0:=rfl
  have w1 : within 0 1073741824 = 0:=rfl
  have f0 : firstE [0,0] = 0:=rfl
  simp -implicitDefEqProofs (maxDischargeDepth:=12) only [wpF,cf31,WW,List.replicate,Option.some_or,s_conv,e_conv,s_slc3,e_cut3,e_cut3n,e_bns,e_bnn,e_splice,if_true,if_false,ite_true,ite_false,true_or,ne_eq,seval,h_putc,beq_self_eq_true,eq_self,exists_eq_left,exists_eq_left',ec]
  refine wA_pure rfl (within_pv _ _) ?_
  simp -implicitDefEqProofs (maxDischargeDepth:=12) only [WW,List.replicate,Option.some_or,s_conv,e_conv,s_slc3,e_cut3,e_cut3n,e_bns,e_bnn,e_splice,if_true,if_false,ite_true,ite_false,true_or,ne_eq,seval,h_putc,beq_self_eq_true,eq_self,exists_eq_left,exists_eq_left',ec]
  refine wA_pure rfl (within_pv _ _) ?_
  simp -implicitDefEqProofs (maxDischargeDepth:=12) only [WW,List.replicate,Option.some_or,s_conv,e_conv,s_slc3,e_cut3,e_cut3n,e_bns,e_bnn,e_splice,if_true,if_false,ite_true,ite_false,true_or,ne_eq,seval,h_putc,beq_self_eq_true,eq_self,exists_eq_left,exists_eq_left',ec,w0,w1]
  refine wA_first (l:=[0,0]) rfl ?_ (by simp) ?_
  · simp -implicitDefEqProofs (maxDischargeDepth:=12) only [WW,List.replicate,Option.some_or,s_conv,e_conv,s_slc3,e_cut3,e_cut3n,e_bns,e_bnn,e_splice,if_true,if_false,ite_true,ite_false,true_or,ne_eq,seval,h_putc,beq_self_eq_true,eq_self,exists_eq_left,exists_eq_left']; rfl
  simp -implicitDefEqProofs (maxDischargeDepth:=12) only [WW,List.replicate,Option.some_or,s_conv,e_conv,s_slc3,e_cut3,e_cut3n,e_bns,e_bnn,e_splice,if_true,if_false,ite_true,ite_false,true_or,ne_eq,seval,h_putc,beq_self_eq_true,eq_self,exists_eq_left,exists_eq_left',ec,f0]
  refine wA_pure rfl exists_pv ?_
  simp -implicitDefEqProofs (maxDischargeDepth:=12) only [WW,List.replicate,Option.some_or,s_conv,e_conv,s_slc3,e_cut3,e_cut3n,e_bns,e_bnn,e_splice,if_true,if_false,ite_true,ite_false,true_or,ne_eq,seval,h_putc,beq_self_eq_true,eq_self,exists_eq_left,exists_eq_left',ec]
  rw [← ec]
  refine wA_pure rfl (strip_pv x) ?_
  simp -implicitDefEqProofs (maxDischargeDepth:=12) only [WW,List.replicate,Option.some_or,s_conv,e_conv,s_slc3,e_cut3,e_cut3n,e_bns,e_bnn,e_splice,if_true,if_false,ite_true,ite_false,true_or,ne_eq,seval,h_putc,beq_self_eq_true,eq_self,exists_eq_left,exists_eq_left',ec]
  rw [← ec]
  refine wA_pure rfl (eSame_pv x.chord x.chord (Note.chord_tame tx)) ?_
  have es : decide (x.chord.noid = x.chord.noid) = true:=decide_eq_true rfl
  simp -implicitDefEqProofs (maxDischargeDepth:=12) only [WW,List.replicate,Option.some_or,s_conv,e_conv,s_slc3,e_cut3,e_cut3n,e_bns,e_bnn,e_splice,if_true,if_false,ite_true,ite_false,true_or,ne_eq,seval,h_putc,beq_self_eq_true,eq_self,exists_eq_left,exists_eq_left',ec,es]
  refine wA_pure rfl dur_pv ?_
  simp -implicitDefEqProofs (maxDischargeDepth:=12) only [WW,List.replicate,Option.some_or,s_conv,e_conv,s_slc3,e_cut3,e_cut3n,e_bns,e_bnn,e_splice,if_true,if_false,ite_true,ite_false,true_or,ne_eq,seval,h_putc,beq_self_eq_true,eq_self,exists_eq_left,exists_eq_left',ec]
  refine wA_pure rfl (heads_pv x.heads tx.heads) ?_
  simp -implicitDefEqProofs (maxDischargeDepth:=12) only [WW,List.replicate,Option.some_or,s_conv,e_conv,s_slc3,e_cut3,e_cut3n,e_bns,e_bnn,e_splice,if_true,if_false,ite_true,ite_false,true_or,ne_eq,seval,h_putc,beq_self_eq_true,eq_self,exists_eq_left,exists_eq_left',ec]
  refine wA_pure rfl (graces_pv x.graces tx.graces) ?_
  simp -implicitDefEqProofs (maxDischargeDepth:=12) only [WW,List.replicate,Option.some_or,s_conv,e_conv,s_slc3,e_cut3,e_cut3n,e_bns,e_bnn,e_splice,if_true,if_false,ite_true,ite_false,true_or,ne_eq,seval,h_putc,beq_self_eq_true,eq_self,exists_eq_left,exists_eq_left',ec]
  refine wA_pure rfl (lyrics_pv x.lyrics tx.lyrics tx.text) ?_
  simp -implicitDefEqProofs (maxDischargeDepth:=12) only [WW,List.replicate,Option.some_or,s_conv,e_conv,s_slc3,e_cut3,e_cut3n,e_bns,e_bnn,e_splice,if_true,if_false,ite_true,ite_false,true_or,ne_eq,seval,h_putc,beq_self_eq_true,eq_self,exists_eq_left,exists_eq_left',ec]
  refine wA_first (l:=[headsE x.heads.l,gracesE x.graces.l,lyricsE x.lyrics.l]) rfl ?_ (by simp) ?_
  · simp -implicitDefEqProofs (maxDischargeDepth:=12) only [WW,List.replicate,Option.some_or,s_conv,e_conv,s_slc3,e_cut3,e_cut3n,e_bns,e_bnn,e_splice,if_true,if_false,ite_true,ite_false,true_or,ne_eq,seval,h_putc,beq_self_eq_true,eq_self,exists_eq_left,exists_eq_left']; rfl
  generalize firstE [headsE x.heads.l,gracesE x.graces.l,lyricsE x.lyrics.l] = e at hr ⊢
  by_cases he : e = 0
  rotate_left
  · rw [if_pos he] at hr; subst hr
    simp -implicitDefEqProofs (maxDischargeDepth:=12) only [WW,List.replicate,Option.some_or,s_conv,e_conv,s_slc3,e_cut3,e_cut3n,e_bns,e_bnn,e_splice,if_true,if_false,ite_true,ite_false,true_or,ne_eq,seval,h_putc,beq_self_eq_true,eq_self,exists_eq_left,exists_eq_left',he]
    exact frz_sc
  rw [if_neg (by simpa using he)] at hr
  simp -implicitDefEqProofs (maxDischargeDepth:=12) only [WW,List.replicate,Option.some_or,s_conv,e_conv,s_slc3,e_cut3,e_cut3n,e_bns,e_bnn,e_splice,if_true,if_false,ite_true,ite_false,true_or,ne_eq,seval,h_putc,beq_self_eq_true,eq_self,exists_eq_left,exists_eq_left',ec,eq_true he]
  refine wA_pure rfl (within_pv _ _) ?_
  simp -implicitDefEqProofs (maxDischargeDepth:=12) only [WW,List.replicate,Option.some_or,s_conv,e_conv,s_slc3,e_cut3,e_cut3n,e_bns,e_bnn,e_splice,if_true,if_false,ite_true,ite_false,true_or,ne_eq,seval,h_putc,beq_self_eq_true,eq_self,exists_eq_left,exists_eq_left',ec]
  refine wA_pure rfl (within_pv _ _) ?_
  simp -implicitDefEqProofs (maxDischargeDepth:=12) only [WW,List.replicate,Option.some_or,s_conv,e_conv,s_slc3,e_cut3,e_cut3n,e_bns,e_bnn,e_splice,if_true,if_false,ite_true,ite_false,true_or,ne_eq,seval,h_putc,beq_self_eq_true,eq_self,exists_eq_left,exists_eq_left',ec]
  refine wA_pure rfl (within_pv _ _) ?_
  simp -implicitDefEqProofs (maxDischargeDepth:=12) only [WW,List.replicate,Option.some_or,s_conv,e_conv,s_slc3,e_cut3,e_cut3n,e_bns,e_bnn,e_splice,if_true,if_false,ite_true,ite_false,true_or,ne_eq,seval,h_putc,beq_self_eq_true,eq_self,exists_eq_left,exists_eq_left',ec]
  refine wA_pure rfl (within_pv _ _) ?_
  simp -implicitDefEqProofs (maxDischargeDepth:=12) only [WW,List.replicate,Option.some_or,s_conv,e_conv,s_slc3,e_cut3,e_cut3n,e_bns,e_bnn,e_splice,if_true,if_false,ite_true,ite_false,true_or,ne_eq,seval,h_putc,beq_self_eq_true,eq_self,exists_eq_left,exists_eq_left',ec]
  refine wA_pure rfl (within_pv _ _) ?_
  simp -implicitDefEqProofs (maxDischargeDepth:=12) only [WW,List.replicate,Option.some_or,s_conv,e_conv,s_slc3,e_cut3,e_cut3n,e_bns,e_bnn,e_splice,if_true,if_false,ite_true,ite_false,true_or,ne_eq,seval,h_putc,beq_self_eq_true,eq_self,exists_eq_left,exists_eq_left',ec]
  refine wA_first (l:=[within x.articulations 31,within x.ornament 4,within x.dynamic 9,within 0 2,within 0 2]) rfl ?_ (by simp) ?_
  · simp -implicitDefEqProofs (maxDischargeDepth:=12) only [WW,List.replicate,Option.some_or,s_conv,e_conv,s_slc3,e_cut3,e_cut3n,e_bns,e_bnn,e_splice,if_true,if_false,ite_true,ite_false,true_or,ne_eq,seval,h_putc,beq_self_eq_true,eq_self,exists_eq_left,exists_eq_left']; rfl
  rw [hr]
  simp -implicitDefEqProofs (maxDischargeDepth:=12) only [WW,List.replicate,Option.some_or,s_conv,e_conv,s_slc3,e_cut3,e_cut3n,e_bns,e_bnn,e_splice,if_true,if_false,ite_true,ite_false,true_or,ne_eq,seval,h_putc,beq_self_eq_true,eq_self,exists_eq_left,exists_eq_left',ec]
  exact frz_sc
end
end Go.Hem
namespace Go.Hem
noncomputable section
def outR (len : Int) (n : Note) : Prop:=n.at_ < 0 ∨ n.len < 1 ∨ len < n.at_ ∨ IntKind.i64.wrap (len - n.at_) < n.len
instance (len : Int) (n : Note) : Decidable (outR len n):=by unfold outR; exact inferInstance
def early (p : Option Note) (n : Note) : Prop:=match p with
  | some m => n.at_ < m.fin
  | none => False
instance (p : Option Note) (n : Note) : Decidable (early p n):=by unfold early; split <;> exact inferInstance
def checkL (len : Int) : Option Note→List Note→Int
  | _,[] => 0
  | p,n :: t => if outR len n then 2 else if early p n then 25 else if chordE n ≠ 0 then chordE n else checkL len (some n) t
def prevAt (l : List Note) (i : Nat) : Option Note:=if i = 0 then none else l[i - 1]?
theorem prev_succ {l : List Note} {i : Nat} {n : Note} (h : l[i]? = some n) : prevAt l (i + 1) = some n:=by
  unfold prevAt; rw [if_neg (by omega),Nat.add_sub_cancel,h]
def checkE (c : Clip) : Int :=
  if c.len < 0 ∨ 123863040 < c.len then 5 else if 4096 < c.notes.l.length then 9 else if checkL c.len none c.notes.l ≠ 0 then checkL c.len none c.notes.l
  else if (tidyP c.notes.l).map Note.cn = c.notes.l.map Note.cn then 0 else 22
theorem untieN_tame {n : Note} {nx : Option Note} (h : n.tame) : (untieN n nx).tame:=by
  rw [← untieTo_all (j:=n.heads.l.length) (by omega)]; exact untieTo_tame h
theorem untie_tame : ∀ {l : List Note},(∀ y ∈ l,y.tame)→∀ y ∈ untie l,y.tame
  | [],_,y,hy => by simp [untie] at hy
  | n :: t,h,y,hy => by
    simp only [untie,List.mem_cons] at hy
    rcases hy with rfl | hy
    · exact untieN_tame (h n (by simp))
    · exact untie_tame (fun y hy => h y (by simp [hy])) y hy
theorem tidyP_tame {l : List Note} (h : ∀ y ∈ l,y.tame) : (∀ y ∈ tidyP l,y.tame)∧(tidyP l).length ≤ l.length:=by
  obtain ⟨a,b⟩:=fold_tame h [] (by simp)
  refine ⟨untie_tame a,?_⟩
  unfold tidyP
  rw [untie_len]; simpa using b
theorem check_pv (c : Clip) (tc : c.tame) : Pv prog polS 16 [c.enc] (.sc (.int .i64 (checkE c))):=by
  refine Pv_of' ok16 (by simp only [AV.closedBs,Clip.enc_closed,Bool.and_self]) ?_
  obtain ⟨t1,t2⟩:=tc
  generalize hr : checkE c = r
  unfold checkE at hr
  by_cases b1 : c.len < 0
  · rw [if_pos (.inl b1)] at hr; subst hr
    simp -implicitDefEqProofs (maxDischargeDepth:=12) only [wpF,cf16,WW,List.replicate,Option.some_or,s_conv,e_conv,s_slc3,e_cut3,e_cut3n,e_bns,e_bnn,e_splice,if_true,if_false,ite_true,ite_false,true_or,ne_eq,seval,h_putc,beq_self_eq_true,eq_self,exists_eq_left,exists_eq_left',c.enc_eq,b1]
    exact frz_sc
  by_cases b2 : 123863040 < c.len
  · rw [if_pos (.inr b2)] at hr; subst hr
    simp -implicitDefEqProofs (maxDischargeDepth:=12) only [wpF,cf16,WW,List.replicate,Option.some_or,s_conv,e_conv,s_slc3,e_cut3,e_cut3n,e_bns,e_bnn,e_splice,if_true,if_false,ite_true,ite_false,true_or,ne_eq,seval,h_putc,beq_self_eq_true,eq_self,exists_eq_left,exists_eq_left',c.enc_eq,b1,b2]
    exact frz_sc
  rw [if_neg (by rintro (h | h) <;> contradiction)] at hr
  by_cases b3 : 4096 < c.notes.l.length
  · rw [if_pos b3] at hr; subst hr
    have b3' : (4096 : Int) < (c.notes.l.length : Int):=by omega
    simp -implicitDefEqProofs (maxDischargeDepth:=12) only [wpF,cf16,WW,List.replicate,Option.some_or,s_conv,e_conv,s_slc3,e_cut3,e_cut3n,e_bns,e_bnn,e_splice,if_true,if_false,ite_true,ite_false,true_or,ne_eq,seval,h_putc,beq_self_eq_true,eq_self,exists_eq_left,exists_eq_left',c.enc_eq,b1,b2,b3']
    exact frz_sc
  rw [if_neg b3] at hr
  have b3' : ¬ (4096 : Int) < (c.notes.l.length : Int):=by omega
  simp -implicitDefEqProofs (maxDischargeDepth:=12) only [wpF,cf16,WW,List.replicate,Option.some_or,s_conv,e_conv,s_slc3,e_cut3,e_cut3n,e_bns,e_bnn,e_splice,if_true,if_false,ite_true,ite_false,true_or,ne_eq,seval,h_putc,beq_self_eq_true,eq_self,exists_eq_left,exists_eq_left',c.enc_eq,b1,b2,b3']
  refine wp_loop (Inv:=fun k t H => ∃ (i : Nat),i + k = c.notes.l.length∧checkL c.len (prevAt c.notes.l i) (c.notes.l.drop i) = checkL c.len none c.notes.l∧H.cells 0 = some c.enc.cells∧1 ≤ H.next ∧
    ∃ x : Nat→AV,t = [c.enc,.ptr 0 0,x 2,x 3,x 4,x 5,x 6,x 7,x 8,x 9,x 10,x 11,x 12,x 13,x 14,x 15,x 16,x 17,x 18,slm Note.enc c.notes,.sc (.int .i64 c.notes.l.length),.sc (.int .i64 i),x 22,x 23,x 24,x 25,x 26,x 27,x 28,x 29,x 30,x 31,x 32,x 33,x 34,x 35,x 36,x 37,x 38,x 39,x 40,x 41,x 42,x 43,x 44,x 45,x 46,x 47,x 48,x 49,x 50,x 51,x 52,x 53,x 54,x 55,x 56,x 57,x 58,x 59,x 60,x 61,x 62,x 63,x 64,x 65,x 66,x 67,x 68,x 69,x 70,x 71,x 72,x 73,x 74,x 75,x 76,x 77,x 78]) (k:=c.notes.l.length) ?_
    ⟨0,by omega,rfl,?_,by simp,ex_x rfl⟩
  rotate_left
  · simp -implicitDefEqProofs (maxDischargeDepth:=12) only [WW,List.replicate,Option.some_or,s_conv,e_conv,s_slc3,e_cut3,e_cut3n,e_bns,e_bnn,e_splice,if_true,if_false,ite_true,ite_false,true_or,ne_eq,seval,h_putc,beq_self_eq_true,eq_self,exists_eq_left,exists_eq_left']; rfl
  rintro k t H ⟨i,hk,hf,hA,hN,x,rfl⟩
  simp only [c.enc_eq,c_agg] at hA
  by_cases c1 : (i : Int) < (c.notes.l.length : Int)
  · obtain ⟨y,hy⟩ : ∃ y,c.notes.l[i]? = some y:=⟨_,List.getElem?_eq_getElem (by omega)⟩
    have ty:=t2 y (List.mem_of_getElem? hy)
    have e2 : IntKind.i64.wrap ((i : Int) + 1) = ((i + 1 : Nat) : Int):=by rw [w64 (by omega) (by omega)]; omega
    have q0 : ¬ 0 = H.next:=by omega
    have q1 : ¬ H.next = 0:=by omega
    rw [drop_cons hy] at hf
    simp only [checkL] at hf
    generalize hrr : checkL c.len none c.notes.l = rr at hf hr
    have hrr2 : rr ≠ 0→r = rr:=fun h => by rw [if_pos h] at hr; exact hr.symm
    by_cases c3 : y.at_ < 0
    · rw [if_pos (.inl c3)] at hf; rw [hrr2 (by rw [← hf]; decide),← hf]
      simp -implicitDefEqProofs (maxDischargeDepth:=12) only [WW,List.replicate,Option.some_or,s_conv,e_conv,s_slc3,e_cut3,e_cut3n,e_bns,e_bnn,e_splice,if_true,if_false,ite_true,ite_false,true_or,ne_eq,seval,h_putc,beq_self_eq_true,eq_self,exists_eq_left,exists_eq_left',hA,c1,hy,y.enc_eq,q0,q1,c3]
      exact frz_sc
    by_cases c4 : y.len < 1
    · rw [if_pos (.inr (.inl c4))] at hf; rw [hrr2 (by rw [← hf]; decide),← hf]
      simp -implicitDefEqProofs (maxDischargeDepth:=12) only [WW,List.replicate,Option.some_or,s_conv,e_conv,s_slc3,e_cut3,e_cut3n,e_bns,e_bnn,e_splice,if_true,if_false,ite_true,ite_false,true_or,ne_eq,seval,h_putc,beq_self_eq_true,eq_self,exists_eq_left,exists_eq_left',hA,c1,hy,y.enc_eq,q0,q1,c3,c4]
      exact frz_sc
    by_cases c5 : c.len < y.at_
    · rw [if_pos (.inr (.inr (.inl c5)))] at hf; rw [hrr2 (by rw [← hf]; decide),← hf]
      simp -implicitDefEqProofs (maxDischargeDepth:=12) only [WW,List.replicate,Option.some_or,s_conv,e_conv,s_slc3,e_cut3,e_cut3n,e_bns,e_bnn,e_splice,if_true,if_false,ite_true,ite_false,true_or,ne_eq,seval,h_putc,beq_self_eq_true,eq_self,exists_eq_left,exists_eq_left',hA,c1,hy,y.enc_eq,q0,q1,c3,c4,c5]
      exact frz_sc
    by_cases c6 : IntKind.i64.wrap (c.len - y.at_) < y.len
    · rw [if_pos (.inr (.inr (.inr c6)))] at hf; rw [hrr2 (by rw [← hf]; decide),← hf]
      simp -implicitDefEqProofs (maxDischargeDepth:=12) only [WW,List.replicate,Option.some_or,s_conv,e_conv,s_slc3,e_cut3,e_cut3n,e_bns,e_bnn,e_splice,if_true,if_false,ite_true,ite_false,true_or,ne_eq,seval,h_putc,beq_self_eq_true,eq_self,exists_eq_left,exists_eq_left',hA,c1,hy,y.enc_eq,q0,q1,c3,c4,c5,c6]
      exact frz_sc
    rw [if_neg (by unfold outR; rintro (h | h | h | h) <;> contradiction)] at hf
    by_cases i0 : (0 : Int) < (i : Int)
    · obtain ⟨m,hm⟩ : ∃ y,c.notes.l[i - 1]? = some y:=⟨_,List.getElem?_eq_getElem (by omega)⟩
      have hp : prevAt c.notes.l i = some m:=by unfold prevAt; rw [if_neg (by omega),hm]
      have em : IntKind.i64.wrap ((i : Int) - 1) = ((i - 1 : Nat) : Int):=by rw [w64 (by omega) (by omega)]; omega
      rw [hp] at hf
      simp -implicitDefEqProofs (maxDischargeDepth:=12) only [WW,List.replicate,Option.some_or,s_conv,e_conv,s_slc3,e_cut3,e_cut3n,e_bns,e_bnn,e_splice,if_true,if_false,ite_true,ite_false,true_or,ne_eq,seval,h_putc,beq_self_eq_true,eq_self,exists_eq_left,exists_eq_left',hA,c1,hy,y.enc_eq,q0,q1,c3,c4,c5,c6,i0,em,hm,m.enc_eq]
      rw [← m.enc_eq]
      refine wA_pure rfl (end_pv m) ?_
      by_cases c7 : y.at_ < m.fin
      · rw [if_pos (show early (some m) y from c7)] at hf
        rw [hrr2 (by rw [← hf]; decide),← hf]
        simp -implicitDefEqProofs (maxDischargeDepth:=12) only [WW,List.replicate,Option.some_or,s_conv,e_conv,s_slc3,e_cut3,e_cut3n,e_bns,e_bnn,e_splice,if_true,if_false,ite_true,ite_false,true_or,ne_eq,seval,h_putc,beq_self_eq_true,eq_self,exists_eq_left,exists_eq_left',hA,q0,q1,c7]
        exact frz_sc
      rw [if_neg (show ¬ early (some m) y from c7)] at hf
      simp -implicitDefEqProofs (maxDischargeDepth:=12) only [WW,List.replicate,Option.some_or,s_conv,e_conv,s_slc3,e_cut3,e_cut3n,e_bns,e_bnn,e_splice,if_true,if_false,ite_true,ite_false,true_or,ne_eq,seval,h_putc,beq_self_eq_true,eq_self,exists_eq_left,exists_eq_left',hA,q0,q1,c7]
      rw [← y.enc_eq]
      refine wA_pure rfl (chord_pv y ty) ?_
      simp -implicitDefEqProofs (maxDischargeDepth:=12) only [WW,List.replicate,Option.some_or,s_conv,e_conv,s_slc3,e_cut3,e_cut3n,e_bns,e_bnn,e_splice,if_true,if_false,ite_true,ite_false,true_or,ne_eq,seval,h_putc,beq_self_eq_true,eq_self,exists_eq_left,exists_eq_left']
      refine wA_pure rfl (echeck_pv y ty) ?_
      by_cases c8 : chordE y = 0
      · rw [if_neg (by simpa using c8)] at hf
        simp -implicitDefEqProofs (maxDischargeDepth:=12) only [WW,List.replicate,Option.some_or,s_conv,e_conv,s_slc3,e_cut3,e_cut3n,e_bns,e_bnn,e_splice,if_true,if_false,ite_true,ite_false,true_or,ne_eq,seval,h_putc,beq_self_eq_true,eq_self,exists_eq_left,exists_eq_left',c8,e2]
        exact ⟨k - 1,by omega,i + 1,by omega,by rw [prev_succ hy]; exact hf,by rw [if_neg q0,if_neg q0,hA]; rfl,ex_x rfl⟩
      · rw [if_pos c8] at hf
        rw [hrr2 (by rw [← hf]; exact c8),← hf]
        simp -implicitDefEqProofs (maxDischargeDepth:=12) only [WW,List.replicate,Option.some_or,s_conv,e_conv,s_slc3,e_cut3,e_cut3n,e_bns,e_bnn,e_splice,if_true,if_false,ite_true,ite_false,true_or,ne_eq,seval,h_putc,beq_self_eq_true,eq_self,exists_eq_left,exists_eq_left',c8]
        exact frz_sc
    · have hp : prevAt c.notes.l i = none:=by unfold prevAt; rw [if_pos (by omega)]
      rw [hp,if_neg (show ¬ early none y from fun h => h)] at hf
      simp -implicitDefEqProofs (maxDischargeDepth:=12) only [WW,List.replicate,Option.some_or,s_conv,e_conv,s_slc3,e_cut3,e_cut3n,e_bns,e_bnn,e_splice,if_true,if_false,ite_true,ite_false,true_or,ne_eq,seval,h_putc,beq_self_eq_true,eq_self,exists_eq_left,exists_eq_left',hA,c1,hy,y.enc_eq,q0,q1,c3,c4,c5,c6,i0]
      rw [← y.enc_eq]
      refine wA_pure rfl (chord_pv y ty) ?_
      simp -implicitDefEqProofs (maxDischargeDepth:=12) only [WW,List.replicate,Option.some_or,s_conv,e_conv,s_slc3,e_cut3,e_cut3n,e_bns,e_bnn,e_splice,if_true,if_false,ite_true,ite_false,true_or,ne_eq,seval,h_putc,beq_self_eq_true,eq_self,exists_eq_left,exists_eq_left']
      refine wA_pure rfl (echeck_pv y ty) ?_
      by_cases c8 : chordE y = 0
      · rw [if_neg (by simpa using c8)] at hf
        simp -implicitDefEqProofs (maxDischargeDepth:=12) only [WW,List.replicate,Option.some_or,s_conv,e_conv,s_slc3,e_cut3,e_cut3n,e_bns,e_bnn,e_splice,if_true,if_false,ite_true,ite_false,true_or,ne_eq,seval,h_putc,beq_self_eq_true,eq_self,exists_eq_left,exists_eq_left',c8,e2]
        exact ⟨k - 1,by omega,i + 1,by omega,by rw [prev_succ hy]; exact hf,by rw [if_neg q0,if_neg q0,hA]; rfl,ex_x rfl⟩
      · rw [if_pos c8] at hf
        rw [hrr2 (by rw [← hf]; exact c8),← hf]
        simp -implicitDefEqProofs (maxDischargeDepth:=12) only [WW,List.replicate,Option.some_or,s_conv,e_conv,s_slc3,e_cut3,e_cut3n,e_bns,e_bnn,e_splice,if_true,if_false,ite_true,ite_false,true_or,ne_eq,seval,h_putc,beq_self_eq_true,eq_self,exists_eq_left,exists_eq_left',c8]
        exact frz_sc
  · rw [drop_end c1] at hf
    have hf0 : checkL c.len none c.notes.l = 0:=hf.symm
    rw [hf0,if_neg (by simp)] at hr
    simp -implicitDefEqProofs (maxDischargeDepth:=12) only [WW,List.replicate,Option.some_or,s_conv,e_conv,s_slc3,e_cut3,e_cut3n,e_bns,e_bnn,e_splice,if_true,if_false,ite_true,ite_false,true_or,ne_eq,seval,h_putc,beq_self_eq_true,eq_self,exists_eq_left,exists_eq_left',hA,c1]
    refine wA_pure rfl (tidy_pv c.notes t1 t2) ?_
    have tt:=tidyP_tame t2
    simp -implicitDefEqProofs (maxDischargeDepth:=12) only [WW,List.replicate,Option.some_or,s_conv,e_conv,s_slc3,e_cut3,e_cut3n,e_bns,e_bnn,e_splice,if_true,if_false,ite_true,ite_false,true_or,ne_eq,seval,h_putc,beq_self_eq_true,eq_self,exists_eq_left,exists_eq_left',hA]
    have eg : ∀ (x : AV) t,aev (x :: t) (.func 37) = .func (.func 37) [] []:=fun _ _ => rfl
    simp only [eg]
    refine wA_pure rfl (eqNotes_pv (Sl.of (tidyP c.notes.l)) c.notes (by rw [l_of]; omega) (by rw [l_of]; exact tt.1) t2) ?_
    rw [l_of]
    by_cases d1 : (tidyP c.notes.l).map Note.cn = c.notes.l.map Note.cn
    · rw [if_pos d1] at hr; subst hr
      simp -implicitDefEqProofs (maxDischargeDepth:=12) only [WW,List.replicate,Option.some_or,s_conv,e_conv,s_slc3,e_cut3,e_cut3n,e_bns,e_bnn,e_splice,if_true,if_false,ite_true,ite_false,true_or,ne_eq,seval,h_putc,beq_self_eq_true,eq_self,exists_eq_left,exists_eq_left',eq_true d1]
      exact frz_sc
    · rw [if_neg d1] at hr; subst hr
      simp -implicitDefEqProofs (maxDischargeDepth:=12) only [WW,List.replicate,Option.some_or,s_conv,e_conv,s_slc3,e_cut3,e_cut3n,e_bns,e_bnn,e_splice,if_true,if_false,ite_true,ite_false,true_or,ne_eq,seval,h_putc,beq_self_eq_true,eq_self,exists_eq_left,exists_eq_left',d1]
      exact frz_sc
end
end Go.Hem
namespace Go.Hem
theorem rheads_ok (a : Sl Head) (ha : a.l.length < 1000000) (H0 : AHeap) : Ev prog polS (.call 14 [slm Head.enc a]) H0 fun o H' => ∃ v fp,o = .val v∧AccX false 1 5 Head.enc H' v (some a.l) fp∧Fresh H0 H' fp:=by
  refine (wpF_ok ok14 (Q:=fun v H' => ∃ fp,AccX false 1 5 Head.enc H' v (some a.l) fp∧Fresh H0 H' fp) ?_).mono ?_
  rotate_left
  · rintro o H' ⟨v,rfl,fp,h⟩; exact ⟨v,fp,rfl,h⟩
  simp -implicitDefEqProofs (maxDischargeDepth:=12) only [wpF,cf14,WW,List.replicate,Option.some_or,s_conv,e_conv,s_slc3,e_cut3,e_cut3n,e_bns,e_bnn,e_splice,if_true,if_false,ite_true,ite_false,true_or,ne_eq,seval,h_putc,beq_self_eq_true,eq_self,exists_eq_left,exists_eq_left']
  refine wA_app3 (f:=Head.enc) (bytes:=40) row_Head (I:=false) (d:=1) (l:=[]) (fp:=[H0.next]) (ys:=a.l) (.inr ⟨H0.next,0,[],[],[],[],rfl,rfl,Nat.le_refl _,?_,rfl,by simp,.nil,by simp,rfl⟩) Keep.refl (Nat.le_refl _) e_alenm (by rw [e_srcm Head.enc_len (Nat.le_refl _),List.take_length]) (OwnL.scal (by
    simp only [List.all_eq_true]
    intro v hv
    obtain ⟨x,_,hx⟩:=List.mem_flatMap.1 hv
    have : (Head.enc x).cells.all AV.isSc = true:=rfl
    exact List.all_eq_true.1 this v hx)) Apart.nil_right (by simp only [List.length_nil]; omega) ?_
  · simp -implicitDefEqProofs (maxDischargeDepth:=12) only [WW,List.replicate,Option.some_or,s_conv,e_conv,s_slc3,e_cut3,e_cut3n,e_bns,e_bnn,e_splice,if_true,if_false,ite_true,ite_false,true_or,ne_eq,seval,h_putc,beq_self_eq_true,eq_self,exists_eq_left,exists_eq_left']
  intro v' H' fp' h1 h2 h3 h4 h5 h6
  simp only [AHeap.next_alloc] at h2 h3
  simp -implicitDefEqProofs (maxDischargeDepth:=12) only [WW,List.replicate,Option.some_or,s_conv,e_conv,s_slc3,e_cut3,e_cut3n,e_bns,e_bnn,e_splice,if_true,if_false,ite_true,ite_false,true_or,ne_eq,seval,h_putc,beq_self_eq_true,eq_self,exists_eq_left,exists_eq_left']
  refine ⟨fp',h1,fun b hb => ?_,by omega,fun b hb => ?_⟩
  · rcases h4 b hb with h | h | h
    · simp at h; omega
    · simp at h
    · simp only [AHeap.next_alloc] at h; omega
  · rw [h3 b (by simp; omega) (by omega),c_alloc_ne (by omega)]
def Note.own (x : Note) : Note:={ x with heads:=some x.heads.l }
theorem Note.own_tame {x : Note} (h : x.tame) : x.own.tame:=⟨h.heads,h.graces,h.lyrics,h.text⟩
theorem noteQ_heads {H : AHeap} {x : Note} {hv : AV} {fh : List Nat} (h : AccQ HeadQ 5 H hv x.heads fh) : NoteQ H [intE x.at_,intE x.len,hv,slm Grace.enc x.graces,intE x.articulations,intE x.ornament,intE x.dynamic,slm Syllable.enc x.lyrics] x fh :=
  ⟨hv,_,_,fh,[],[],rfl,h,own_imm Grace.enc_closed,own_imm Syllable.enc_closed,o_slm,o_slm,Apart.nil_right,Apart.nil_right,Apart.nil_left,by simp⟩
def foldR (l : List Note) : List Note:=(l.map Note.own).foldl stepT []
theorem foldR_take {l : List Note} {i : Nat} {x : Note} (h : l[i]? = some x) : foldR (l.take (i + 1)) = stepT (foldR (l.take i)) x.own:=by
  unfold foldR
  rw [List.take_add_one,h,List.map_append,List.foldl_append]; rfl
theorem foldR_tame {l : List Note} (h : ∀ y ∈ l,y.tame) : (∀ y ∈ foldR l,y.tame)∧(foldR l).length ≤ l.length:=by
  have:=fold_tame (l:=l.map Note.own) (fun y hy => by
    obtain ⟨z,hz,rfl⟩:=List.mem_map.1 hy
    exact Note.own_tame (h z hz)) [] (by simp)
  simpa [foldR] using this
def Note.mergeTo (a x : Note) (j : Nat) : Note:={ a with len:=IntKind.i64.wrap (a.len + x.len),heads:=a.heads.map fun l => tieUpTo j l x.heads.l }
theorem mergeTo_zero {a x : Note} : a.mergeTo x 0 = { a with len:=IntKind.i64.wrap (a.len + x.len) }:=by
  unfold Note.mergeTo
  have : a.heads.map (fun l => tieUpTo 0 l x.heads.l) = a.heads:=by cases a.heads <;> simp [tieUp_zero]
  rw [this]
theorem mergeTo_all {a x : Note} {j : Nat} (hlen : a.heads.l.length = x.heads.l.length) (h : ¬ j < a.heads.l.length) : a.mergeTo x j = merge a x:=by
  unfold Note.mergeTo merge
  have : a.heads.map (fun l => tieUpTo j l x.heads.l) = a.heads.map fun l => tieTo l x.heads.l:=by
    cases e : a.heads with
    | none => rfl
    | some l =>
      rw [e] at hlen h
      simp only [Option.map_some,Option.some.injEq]
      exact tieUp_all hlen (by rw [l_some] at h; exact h)
  rw [this]
theorem mergeTo_heads {a x : Note} {j : Nat} (hlen : a.heads.l.length = x.heads.l.length) : (a.mergeTo x j).heads.l = tieUpTo j a.heads.l x.heads.l:=by
  show Sl.l (a.heads.map _) = _
  cases e : a.heads with
  | none => rw [e] at hlen; simp [Sl.l,tieUpTo,tieTo]
  | some l => rfl
theorem mergeTo_succ {a x : Note} {j : Nat} {u w : Head} (hlen : a.heads.l.length = x.heads.l.length) (hu : a.heads.l[j]? = some u) (hw : x.heads.l[j]? = some w) : { a.mergeTo x j with heads:=some ((a.mergeTo x j).heads.l.set j (u.tie w.tied)) } = a.mergeTo x (j + 1):=by
  rw [mergeTo_heads hlen,tieUp_set hlen hu hw]
  unfold Note.mergeTo
  have : a.heads.map (fun l => tieUpTo (j + 1) l x.heads.l) = some (tieUpTo (j + 1) a.heads.l x.heads.l):=by
    cases e : a.heads with
    | none => rw [e] at hu; simp [Sl.l] at hu
    | some l => rfl
  rw [this]
end Go.Hem
namespace Go.Hem
def tidyR (l : List Note) : List Note:=untie (foldR l)
theorem rtidy_pv (s : Sl Note) (hs : s.l.length < 1000000) (ts : ∀ y ∈ s.l,y.tame) : Pv prog polS 15 [slm Note.enc s] (slm Note.enc (Sl.of (tidyR s.l))):=by
  refine Pv_of' ok15 (by simp only [AV.closedBs,closedB_slm Note.enc_closed,Bool.and_self]) ?_
  simp -implicitDefEqProofs (maxDischargeDepth:=12) only [wpF,cf15,WW,List.replicate,Option.some_or,s_conv,e_conv,s_slc3,e_cut3,e_cut3n,e_bns,e_bnn,e_splice,if_true,if_false,ite_true,ite_false,true_or,ne_eq,seval,h_putc,beq_self_eq_true,eq_self,exists_eq_left,exists_eq_left']
  refine wp_loop (Inv:=fun k t H => ∃ (i : Nat) (v : AV) (fp : List Nat),i + k = s.l.length∧AccQ NoteQ 8 H v (Sl.of (foldR (s.l.take i))) fp ∧
    ∃ y : Nat→AV,t = [slm Note.enc s,y 1,y 2,v,.sc (.int .i64 i),y 5,y 6,y 7,y 8,y 9,y 10,y 11,y 12,y 13,y 14,y 15,y 16,y 17,y 18,y 19,y 20,y 21,y 22,y 23,y 24,y 25,y 26,y 27,y 28,y 29,y 30,y 31,y 32,y 33,y 34,y 35,y 36,y 37,y 38,y 39,y 40,y 41,y 42,y 43,y 44,y 45,y 46,y 47,y 48,y 49,y 50,y 51,y 52,y 53,y 54,y 55,y 56,y 57,y 58,y 59,y 60,y 61,y 62,y 63,y 64,y 65,y 66,y 67,y 68,y 69,y 70,y 71,y 72,y 73,y 74,y 75,y 76,y 77,y 78,y 79,y 80,y 81,y 82,y 83,y 84,y 85,y 86,y 87,y 88,y 89,y 90,y 91,y 92,y 93,y 94,y 95,y 96,y 97,y 98,y 99,y 100,y 101,y 102,y 103,y 104,y 105,y 106,y 107,y 108,y 109,y 110,y 111,y 112,y 113,y 114,y 115,y 116,y 117,y 118,y 119,y 120,y 121,y 122,y 123,y 124,y 125,y 126,y 127,y 128,y 129,y 130,y 131,y 132,y 133,y 134,y 135,y 136,y 137,y 138,y 139,y 140,y 141,y 142,y 143,y 144,y 145,y 146,y 147,y 148,y 149,y 150,y 151,y 152,y 153,y 154,y 155,y 156,y 157,y 158,y 159,y 160,y 161,y 162,y 163,y 164,y 165,y 166,y 167,y 168,y 169,y 170]) (k:=s.l.length) ?_
    ⟨0,_,[],by omega,accQ_none,ex_x rfl⟩
  rintro k t H0 ⟨i,v,fp,hk,hA,y,rfl⟩
  by_cases c1 : (i : Int) < (s.l.length : Int)
  rotate_left
  · rw [List.take_of_length_le (by omega)] at hA
    simp -implicitDefEqProofs (maxDischargeDepth:=12) only [WW,List.replicate,Option.some_or,s_conv,e_conv,s_slc3,e_cut3,e_cut3n,e_bns,e_bnn,e_splice,if_true,if_false,ite_true,ite_false,true_or,ne_eq,seval,h_putc,beq_self_eq_true,eq_self,exists_eq_left,exists_eq_left',c1]
    have tF:=foldR_tame ts
    unfold tidyR
    generalize foldR s.l = F at hA tF
    obtain ⟨tF,lF⟩:=tF
    clear hk c1
    refine wp_loop (Inv:=fun k t H => ∃ (i : Nat) (f2 : List Nat),i + k = F.length∧AccQ NoteQ 8 H v (Sl.of (untieUpTo i F)) f2 ∧
      ∃ y : Nat→AV,t = [slm Note.enc s,y 1,y 2,v,y 4,y 5,y 6,y 7,.sc (.int .i64 i),y 9,y 10,y 11,y 12,y 13,y 14,y 15,y 16,y 17,y 18,y 19,y 20,y 21,y 22,y 23,y 24,y 25,y 26,y 27,y 28,y 29,y 30,y 31,y 32,y 33,y 34,y 35,y 36,y 37,y 38,y 39,y 40,y 41,y 42,y 43,y 44,y 45,y 46,y 47,y 48,y 49,y 50,y 51,y 52,y 53,y 54,y 55,y 56,y 57,y 58,y 59,y 60,y 61,y 62,y 63,y 64,y 65,y 66,y 67,y 68,y 69,y 70,y 71,y 72,y 73,y 74,y 75,y 76,y 77,y 78,y 79,y 80,y 81,y 82,y 83,y 84,y 85,y 86,y 87,y 88,y 89,y 90,y 91,y 92,y 93,y 94,y 95,y 96,y 97,y 98,y 99,y 100,y 101,y 102,y 103,y 104,y 105,y 106,y 107,y 108,y 109,y 110,y 111,y 112,y 113,y 114,y 115,y 116,y 117,y 118,y 119,y 120,y 121,y 122,y 123,y 124,y 125,y 126,y 127,y 128,y 129,y 130,y 131,y 132,y 133,y 134,y 135,y 136,y 137,y 138,y 139,y 140,y 141,y 142,y 143,y 144,y 145,y 146,y 147,y 148,y 149,y 150,y 151,y 152,y 153,y 154,y 155,y 156,y 157,y 158,y 159,y 160,y 161,y 162,y 163,y 164,y 165,y 166,y 167,y 168,y 169,y 170]) (k:=F.length) ?_
      ⟨0,fp,by omega,by rw [untieUp_zero]; exact hA,ex_x rfl⟩
    clear hA fp H0 y i
    rintro k t H ⟨i,fp,hk,hA,y,rfl⟩
    have hl:=hA.length.1
    rw [l_of,untieUp_len] at hl
    by_cases c1 : (i : Int) < (F.length : Int)
    rotate_left
    · rw [untieUp_all (by omega)] at hA
      simp -implicitDefEqProofs (maxDischargeDepth:=12) only [WW,List.replicate,Option.some_or,s_conv,e_conv,s_slc3,e_cut3,e_cut3n,e_bns,e_bnn,e_splice,if_true,if_false,ite_true,ite_false,true_or,ne_eq,seval,h_putc,beq_self_eq_true,eq_self,exists_eq_left,exists_eq_left',c1,hl]
      exact hA.frz noteQ (by decide)
    have hil : i < F.length:=by omega
    obtain ⟨n,hn⟩ : ∃ y,F[i]? = some y:=⟨_,List.getElem?_eq_getElem hil⟩
    have e2 : IntKind.i64.wrap ((i : Int) + 1) = ((i + 1 : Nat) : Int):=by rw [w64 (by omega) (by omega)]; omega
    have tn:=tF n (List.mem_of_getElem? hn)
    rw [of_isSome (by rw [untieUp_len]; omega)] at hA
    obtain ⟨b,cap,cs,r,g,hv,a1,a2,a3,a4,a5,a6,a7,a8,a9,a10,a11,a12,a13⟩:=note_cells hA (i:=i) (x:=n) (by rw [l_some,untieUp_ge (Nat.le_refl _) hil]; exact hn)
    simp only [l_some,untieUp_len] at a1
    subst a1
    simp -implicitDefEqProofs (maxDischargeDepth:=12) only [WW,List.replicate,Option.some_or,s_conv,e_conv,s_slc3,e_cut3,e_cut3n,e_bns,e_bnn,e_splice,if_true,if_false,ite_true,ite_false,true_or,ne_eq,seval,h_putc,beq_self_eq_true,eq_self,exists_eq_left,exists_eq_left',c1,hil]
    refine wp_loop (Inv:=fun k' t H => ∃ (j : Nat) (f2 : List Nat),j + k' = n.heads.l.length∧AccQ NoteQ 8 H (.slice b 0 F.length cap 8) (some ((untieUpTo i F).set i (n.untieTo F[i + 1]? j))) f2 ∧
      ∃ y : Nat→AV,t = [slm Note.enc s,y 1,y 2,.slice b 0 F.length cap 8,y 4,y 5,y 6,y 7,.sc (.int .i64 i),.sc (.int .i64 j),y 10,y 11,y 12,y 13,y 14,y 15,y 16,y 17,y 18,y 19,y 20,y 21,y 22,y 23,y 24,y 25,y 26,y 27,y 28,y 29,y 30,y 31,y 32,y 33,y 34,y 35,y 36,y 37,y 38,y 39,y 40,y 41,y 42,y 43,y 44,y 45,y 46,y 47,y 48,y 49,y 50,y 51,y 52,y 53,y 54,y 55,y 56,y 57,y 58,y 59,y 60,y 61,y 62,y 63,y 64,y 65,y 66,y 67,y 68,y 69,y 70,y 71,y 72,y 73,y 74,y 75,y 76,y 77,y 78,y 79,y 80,y 81,y 82,y 83,y 84,y 85,y 86,y 87,y 88,y 89,y 90,y 91,y 92,y 93,y 94,y 95,y 96,y 97,y 98,y 99,y 100,y 101,y 102,y 103,y 104,y 105,y 106,y 107,y 108,y 109,y 110,y 111,y 112,y 113,y 114,y 115,y 116,y 117,y 118,y 119,y 120,y 121,y 122,y 123,y 124,y 125,y 126,y 127,y 128,y 129,y 130,y 131,y 132,y 133,y 134,y 135,y 136,y 137,y 138,y 139,y 140,y 141,y 142,y 143,y 144,y 145,y 146,y 147,y 148,y 149,y 150,y 151,y 152,y 153,y 154,y 155,y 156,y 157,y 158,y 159,y 160,y 161,y 162,y 163,y 164,y 165,y 166,y 167,y 168,y 169,y 170]) (k:=n.heads.l.length) ?_
      ⟨0,fp,by omega,?_,ex_x rfl⟩
    rotate_left
    · rw [untieTo_zero]
      have : (untieUpTo i F).set i n = untieUpTo i F:=by
        apply List.ext_getElem?
        intro q
        rw [List.getElem?_set]
        split
        · rename_i e; subst e
          rw [untieUp_len,if_pos hil,untieUp_ge (Nat.le_refl _) hil,hn]
        · rfl
      rw [this]; exact hA
    clear hA hl a2 a3 a4 a5 a6 a7 a8 a9 a10 a11 a12 a13 y H fp
    rintro k' t H ⟨j,fp,hk',hA,y,rfl⟩
    obtain ⟨b',cap',cs,r,g,hv',a1,a2,a3,a4,a5,a6,a7,a8,a9,a10,a11,a12,a13⟩:=note_cells hA (i:=i) (x:=n.untieTo F[i + 1]? j) (by rw [l_some,List.getElem?_set_self (by rw [untieUp_len]; exact hil)])
    simp only [l_some,AV.slice.injEq,true_and,and_true] at a1
    obtain ⟨rfl,_,rfl⟩:=a1
    rw [untieTo_heads,mapTo_len] at a11
    by_cases d1 : (j : Int) < (n.heads.l.length : Int)
    rotate_left
    · rw [untieTo_all (by omega),untieUp_set hn] at hA
      simp -implicitDefEqProofs (maxDischargeDepth:=12) only [WW,List.replicate,Option.some_or,s_conv,e_conv,s_slc3,e_cut3,e_cut3n,e_bns,e_bnn,e_splice,if_true,if_false,ite_true,ite_false,true_or,ne_eq,seval,h_putc,beq_self_eq_true,eq_self,exists_eq_left,exists_eq_left',d1,e2,hil,a2,a6,a11]
      exact ⟨k - 1,by omega,i + 1,fp,by omega,by rw [of_isSome (by rw [untieUp_len]; omega)]; exact hA,ex_x rfl⟩
    have hjl : j < n.heads.l.length:=by omega
    obtain ⟨h,hh⟩ : ∃ y,n.heads.l[j]? = some y:=⟨_,List.getElem?_eq_getElem hjl⟩
    have e3 : IntKind.i64.wrap ((j : Int) + 1) = ((j + 1 : Nat) : Int):=by rw [w64 (by omega) (by have:=tn.heads; omega)]; omega
    obtain ⟨bh,caph,ch,c2,c3,c4,c5,c6,c7,c8,c9⟩:=a13 j h (by rw [untieTo_heads]; exact mapTo_get hh)
    rw [untieTo_heads,mapTo_len] at c2
    subst c2
    have hle : j * 5 + 3 + 1 ≤ ch.length:=by omega
    have hle2 : j * 5 + 3 ≤ ch.length:=by omega
    have fin : ∀ H',H' = H.put bh (some (.cells (splice ch (j * 5 + 3) [.sc (.bool (keepTie n F[i + 1]? h))])))→∃ f3,AccQ NoteQ 8 H' (.slice b 0 F.length cap 8) (some ((untieUpTo i F).set i (n.untieTo F[i + 1]? (j + 1)))) f3:=by
      rintro H' rfl
      obtain ⟨f3,p1,p2⟩:=c9 (keepTie n F[i + 1]? h)
      rw [untieTo_succ hh,l_some,List.set_set] at p1
      exact ⟨f3,p1⟩
    cases ht : h.tied with
    | false =>
      have hkt : h.tie (keepTie n F[i + 1]? h) = h:=by unfold keepTie; rw [ht]; cases h; simp only at ht; subst ht; rfl
      have hsame : n.untieTo F[i + 1]? (j + 1) = n.untieTo F[i + 1]? j:=by
        have e:=untieTo_succ (nx:=F[i + 1]?) hh
        rw [hkt] at e
        rw [← e]
        have e4 : (n.untieTo F[i + 1]? j).heads.l.set j h = (n.untieTo F[i + 1]? j).heads.l:=by
          apply List.ext_getElem?
          intro q
          rw [List.getElem?_set]
          split
          · rename_i e; subst e
            rw [untieTo_heads,mapTo_len,if_pos hjl,mapTo_get hh]
          · rfl
        rw [e4]
        have e5 : (n.untieTo F[i + 1]? j).heads = some (n.untieTo F[i + 1]? j).heads.l:=by
          have : (n.untieTo F[i + 1]? j).heads = n.heads.map (mapTo (fun h => h.tie (keepTie n F[i + 1]? h)) j):=rfl
          rw [this]
          cases e6 : n.heads with
          | none => rw [e6] at hjl; simp [Sl.l] at hjl
          | some l => rfl
        generalize n.untieTo F[i + 1]? j = z at e5
        cases z; simp only at e5; rw [e5]; rfl
      simp -implicitDefEqProofs (maxDischargeDepth:=12) only [WW,List.replicate,Option.some_or,s_conv,e_conv,s_slc3,e_cut3,e_cut3n,e_bns,e_bnn,if_true,if_false,ite_true,ite_false,true_or,ne_eq,seval,beq_self_eq_true,eq_self,exists_eq_left,exists_eq_left',d1,hil,hjl,a2,a6,a11,c3,c5,ht,e3]
      exact ⟨k' - 1,by omega,j + 1,fp,by omega,by rw [hsame]; exact hA,ex_x rfl⟩
    | true =>
      by_cases n1 : i + 1 < F.length
      rotate_left
      · have hkt : keepTie n F[i + 1]? h = false:=by unfold keepTie; rw [ht,List.getElem?_eq_none (by omega)]; rfl
        rw [hkt] at fin
        have n1' : ¬ ((i + 1 : Nat) : Int) < (F.length : Int):=by omega
        simp -implicitDefEqProofs (maxDischargeDepth:=12) only [WW,List.replicate,Option.some_or,s_conv,e_conv,s_slc3,e_cut3,e_cut3n,e_bns,e_bnn,if_true,if_false,ite_true,ite_false,true_or,ne_eq,seval,beq_self_eq_true,eq_self,exists_eq_left,exists_eq_left',d1,hil,hjl,a2,a6,a11,c3,c5,ht,hle,e2,e3,n1']
        obtain ⟨f3,p1⟩:=fin _ rfl
        exact ⟨k' - 1,by omega,j + 1,f3,by omega,p1,ex_x rfl⟩
      have n1' : ((i + 1 : Nat) : Int) < (F.length : Int):=by omega
      obtain ⟨m,hm⟩ : ∃ y,F[i + 1]? = some y:=⟨_,List.getElem?_eq_getElem n1⟩
      have tm:=tF m (List.mem_of_getElem? hm)
      obtain ⟨b',cap',cs',r2,g2,hv2,q1,q2,q3,q4,q5,q6,q7,q8,q9,q10,q11,_,q13⟩:=note_cells hA (i:=i + 1) (x:=m) (by rw [l_some,List.getElem?_set_ne (by omega),untieUp_ge (by omega) n1]; exact hm)
      simp only [l_some,AV.slice.injEq,true_and,and_true] at q1
      obtain ⟨rfl,_,rfl⟩:=q1
      rw [a2,Option.some.injEq] at q2
      subst q2
      have hkt : keepTie n F[i + 1]? h = (decide (m.at_ = n.fin) && m.hasB h.pitch):=by unfold keepTie; rw [ht,hm]; rfl
      rw [hkt] at fin
      simp only [intE] at a4 a5 q4
      have a4' : cs[i * 8]? = some (.sc (.int .i64 n.at_)):=a4
      have a5' : cs[i * 8 + 1]? = some (.sc (.int .i64 n.len)):=a5
      have hfin : IntKind.i64.wrap (n.at_ + n.len) = n.fin:=rfl
      by_cases h1 : n.fin = m.at_
      rotate_left
      · rw [decide_eq_false (fun e => h1 e.symm),Bool.false_and] at fin
        simp -implicitDefEqProofs (maxDischargeDepth:=12) only [WW,List.replicate,Option.some_or,s_conv,e_conv,s_slc3,e_cut3,e_cut3n,e_bns,e_bnn,if_true,if_false,ite_true,ite_false,true_or,ne_eq,seval,beq_self_eq_true,eq_self,exists_eq_left,exists_eq_left',d1,hil,hjl,a2,a4',a5',hfin,a6,a11,c3,c5,ht,hle,e2,e3,n1,n1',q4,h1]
        obtain ⟨f3,p1⟩:=fin _ rfl
        exact ⟨k' - 1,by omega,j + 1,f3,by omega,p1,ex_x rfl⟩
      rw [decide_eq_true h1.symm,Bool.true_and] at fin
      simp -implicitDefEqProofs (maxDischargeDepth:=12) only [WW,List.replicate,Option.some_or,s_conv,e_conv,s_slc3,e_cut3,e_cut3n,e_bns,e_bnn,if_true,if_false,ite_true,ite_false,true_or,ne_eq,seval,beq_self_eq_true,eq_self,exists_eq_left,exists_eq_left',d1,hil,hjl,a2,a4',a5',hfin,a6,a11,c3,c5,ht,hle,e2,e3,n1,n1',q4,eq_true h1]
      refine wp_loop (Inv:=fun k2 t H2 => H2 = H∧∃ (p : Nat),p + k2 = m.heads.l.length ∧
        ∃ y : Nat→AV,t = [slm Note.enc s,y 1,y 2,.slice b 0 F.length cap 8,y 4,y 5,y 6,y 7,.sc (.int .i64 i),.sc (.int .i64 j),.sc (.bool ((m.heads.l.take p).any fun x => decide (x.pitch = h.pitch))),.sc (.int .i64 p),y 12,y 13,y 14,y 15,y 16,y 17,y 18,y 19,y 20,y 21,y 22,y 23,y 24,y 25,y 26,y 27,y 28,y 29,y 30,y 31,y 32,y 33,y 34,y 35,y 36,y 37,y 38,y 39,y 40,y 41,y 42,y 43,y 44,y 45,y 46,y 47,y 48,y 49,y 50,y 51,y 52,y 53,y 54,y 55,y 56,y 57,y 58,y 59,y 60,y 61,y 62,y 63,y 64,y 65,y 66,y 67,y 68,y 69,y 70,y 71,y 72,y 73,y 74,y 75,y 76,y 77,y 78,y 79,y 80,y 81,y 82,y 83,y 84,y 85,y 86,y 87,y 88,y 89,y 90,y 91,y 92,y 93,y 94,y 95,y 96,y 97,y 98,y 99,y 100,y 101,y 102,y 103,y 104,y 105,y 106,y 107,y 108,y 109,y 110,y 111,y 112,y 113,y 114,y 115,y 116,y 117,y 118,y 119,y 120,y 121,y 122,y 123,y 124,y 125,y 126,y 127,y 128,y 129,y 130,y 131,y 132,y 133,y 134,y 135,y 136,y 137,y 138,y 139,y 140,y 141,y 142,y 143,y 144,y 145,y 146,y 147,y 148,y 149,y 150,y 151,y 152,y 153,y 154,y 155,y 156,y 157,y 158,y 159,y 160,y 161,y 162,y 163,y 164,y 165,y 166,y 167,y 168,y 169,y 170]) (k:=m.heads.l.length) ?_
        ⟨rfl,0,by omega,ex_x rfl⟩
      clear y
      rintro k2 t H2 ⟨rfl,p,hp,y,rfl⟩
      by_cases g1 : (p : Int) < (m.heads.l.length : Int)
      rotate_left
      · rw [List.take_of_length_le (by omega)]
        have hb : (m.heads.l.any fun x => decide (x.pitch = h.pitch)) = m.hasB h.pitch:=rfl
        rw [hb]
        simp -implicitDefEqProofs (maxDischargeDepth:=12) only [WW,List.replicate,Option.some_or,s_conv,e_conv,s_slc3,e_cut3,e_cut3n,e_bns,e_bnn,if_true,if_false,ite_true,ite_false,true_or,ne_eq,seval,beq_self_eq_true,eq_self,exists_eq_left,exists_eq_left',g1,hil,hjl,a2,a6,c3,hle,e2,e3,n1,n1',q6,q11]
        obtain ⟨f3,p1⟩:=fin _ rfl
        exact ⟨k' - 1,by omega,j + 1,f3,by omega,p1,ex_x rfl⟩
      have hpl : p < m.heads.l.length:=by omega
      obtain ⟨u,hu⟩ : ∃ y,m.heads.l[p]? = some y:=⟨_,List.getElem?_eq_getElem hpl⟩
      have e4 : IntKind.i64.wrap ((p : Int) + 1) = ((p + 1 : Nat) : Int):=by rw [w64 (by omega) (by have:=tm.heads; omega)]; omega
      have hany : (m.heads.l.take (p + 1)).any (fun x => decide (x.pitch = h.pitch)) = ((m.heads.l.take p).any (fun x => decide (x.pitch = h.pitch)) || decide (u.pitch = h.pitch)):=by
        rw [List.take_add_one,hu,List.any_append]; simp
      obtain ⟨bx,capx,cx,x2,x3,x4,x5,x6,x7,x8,x9⟩:=q13 p u hu
      subst x2
      have hle3 : p * 5 + 3 ≤ cx.length:=by omega
      cases hf : (m.heads.l.take p).any (fun x => decide (x.pitch = h.pitch)) with
      | true =>
        simp -implicitDefEqProofs (maxDischargeDepth:=12) only [WW,List.replicate,Option.some_or,s_conv,e_conv,s_slc3,e_cut3,e_cut3n,e_bns,e_bnn,if_true,if_false,ite_true,ite_false,true_or,ne_eq,seval,beq_self_eq_true,eq_self,exists_eq_left,exists_eq_left',g1,hil,hjl,a2,a6,c3,hle,e2,e3,e4,n1,n1',q6,q11,hpl]
        exact ⟨k2 - 1,by omega,p + 1,by omega,by rw [hany,hf,Bool.true_or]; exact ex_x rfl⟩
      | false =>
        simp -implicitDefEqProofs (maxDischargeDepth:=12) only [WW,List.replicate,Option.some_or,s_conv,e_conv,s_slc3,e_cut3,e_cut3n,e_bns,e_bnn,if_true,if_false,ite_true,ite_false,true_or,ne_eq,seval,beq_self_eq_true,eq_self,exists_eq_left,exists_eq_left',g1,hil,hjl,a2,a6,c3,hle,hle2,e2,e3,e4,n1,n1',q6,q11,hpl,x3,x6,hle3,c6,u.pitch.enc_eq,h.pitch.enc_eq,pitch_cmp]
        exact ⟨k2 - 1,by omega,p + 1,by omega,by rw [hany,hf,Bool.false_or]; exact ex_x rfl⟩
  obtain ⟨x,hx⟩ : ∃ y,s.l[i]? = some y:=⟨_,List.getElem?_eq_getElem (by omega)⟩
  have tx:=ts x (List.mem_of_getElem? hx)
  have e2 : IntKind.i64.wrap ((i : Int) + 1) = ((i + 1 : Nat) : Int):=by rw [w64 (by omega) (by omega)]; omega
  have tL:=foldR_tame (l:=s.l.take i) (fun y hy => ts y (List.mem_of_mem_take hy))
  have hL : (foldR (s.l.take i)).length < 1000000:=by have:=tL.2; simp only [List.length_take] at this; omega
  have ef:=foldR_take hx
  generalize foldR (s.l.take i) = L at hA tL hL ef
  have hlt:=hA.lt noteQ
  generalize hq : H0.next = q at hlt
  have nqq : ∀ {z : List AV},(H0.alloc (.cells z)).cells q = some z:=by intro z; rw [h_alloc,if_pos hq.symm]
  simp -implicitDefEqProofs (maxDischargeDepth:=12) only [WW,List.replicate,Option.some_or,s_conv,e_conv,s_slc3,e_cut3,e_cut3n,e_bns,e_bnn,e_splice,if_true,if_false,ite_true,ite_false,true_or,ne_eq,seval,h_putc,beq_self_eq_true,eq_self,exists_eq_left,exists_eq_left',c1,hx,x.enc_eq,hq]
  generalize hH1 : AHeap.put _ q _ = H1
  have n1 : H1.next = q + 1:=by subst hH1; simp only [AHeap.next_put,AHeap.next_alloc,hq]
  have kp : Keep q H0 H1:=by subst hH1; exact fun b hb => by rw [c_put_ne (by omega),c_alloc_ne (by omega)]
  have cq:=congrArg (fun H => AHeap.cells H q) hH1
  simp -implicitDefEqProofs (maxDischargeDepth:=12) only [WW,List.replicate,Option.some_or,s_conv,e_conv,s_slc3,e_cut3,e_cut3n,e_bns,e_bnn,e_splice,if_true,if_false,ite_true,ite_false,true_or,ne_eq,seval,h_putc,beq_self_eq_true,eq_self,exists_eq_left,exists_eq_left',hq] at cq
  replace cq:=cq.symm
  clear hH1
  refine wA_call rfl ((rheads_ok x.heads tx.heads _).mono ?_)
  rintro o H2 ⟨hv,fh,rfl,hh0,hF⟩
  refine ⟨_,rfl,?_⟩
  have hN:=hF.2.1
  have cq2:=(hF.2.2 q (by omega)).trans cq
  have hh:=acc_heads hh0
  simp -implicitDefEqProofs (maxDischargeDepth:=12) only [WW,List.replicate,Option.some_or,s_conv,e_conv,s_slc3,e_cut3,e_cut3n,e_bns,e_bnn,e_splice,if_true,if_false,ite_true,ite_false,true_or,ne_eq,seval,h_putc,beq_self_eq_true,eq_self,exists_eq_left,exists_eq_left',cq,cq2,hh0.one,hh0.cells]
  generalize hH3 : AHeap.put H2 q _ = H3
  have n3 : H3.next = H2.next:=by subst hH3; simp only [AHeap.next_put]
  have k3 : ∀ b,b ≠ q→H3.cells b = H2.cells b:=fun b hb => by subst hH3; rw [c_put_ne hb]
  have cq3:=congrArg (fun H => AHeap.cells H q) hH3
  simp -implicitDefEqProofs (maxDischargeDepth:=12) only [WW,List.replicate,Option.some_or,s_conv,e_conv,s_slc3,e_cut3,e_cut3n,e_bns,e_bnn,e_splice,if_true,if_false,ite_true,ite_false,true_or,ne_eq,seval,h_putc,beq_self_eq_true,eq_self,exists_eq_left,exists_eq_left',cq2] at cq3
  replace cq3:=cq3.symm
  clear hH3
  have hh3 : AccQ HeadQ 5 H3 hv x.own.heads fh:=hh.fr headQ fun b hb => k3 b (by have:=hF.1 b hb; omega)
  have hrow:=noteQ_heads (x:=x.own) hh3
  have hA3 : AccQ NoteQ 8 H3 v (Sl.of L) fp:=hA.fr noteQ fun b hb => by have:=hlt b hb; rw [k3 b (by omega),hF.2.2 b (by omega),kp b (by omega)]
  have hfh : ∀ b ∈ fh,q < b:=fun b hb => by have:=hF.1 b hb; omega
  have hl:=hA3.length.1
  rw [l_of] at hl
  have hlt3:=hA3.lt noteQ
  have hap : Apart fp fh:=fun b h1 h2 => by have:=hlt b h1; have:=hfh b h2; omega
  clear hh hh0 hA cq cq2 hF kp n1 k3
  cases hlast : L.getLast? with
  | none =>
    have hL0 : L = []:=List.getLast?_eq_none_iff.1 hlast
    subst hL0
    have es : stepT [] x.own = [x.own]:=rfl
    have e5 : IntKind.i64.wrap (-1) = -1:=by decide
    simp -implicitDefEqProofs (maxDischargeDepth:=12) only [WW,List.replicate,Option.some_or,s_conv,e_conv,s_slc3,e_cut3,e_cut3n,e_bns,e_bnn,e_splice,if_true,if_false,ite_true,ite_false,true_or,ne_eq,seval,h_putc,beq_self_eq_true,eq_self,exists_eq_left,exists_eq_left',hl,e5]
    simp -implicitDefEqProofs (maxDischargeDepth:=12) only [WW,List.replicate,Option.some_or,s_conv,e_conv,s_slc3,e_cut3,e_cut3n,e_bns,e_bnn,e_splice,if_true,if_false,ite_true,ite_false,true_or,ne_eq,seval,h_putc,beq_self_eq_true,eq_self,exists_eq_left,exists_eq_left',cq3,hh3.one.1,hh3.one.2]
    refine wA_appQ noteQ (H0:=H3) hA3 (y:=x.own) (g:=fh) (fun c hc => c_alloc_ne (by have:=hlt3 c hc; omega)) rfl (asrc_one (by simp -implicitDefEqProofs (maxDischargeDepth:=12) only [WW,List.replicate,Option.some_or,s_conv,e_conv,s_slc3,e_cut3,e_cut3n,e_bns,e_bnn,e_splice,if_true,if_false,ite_true,ite_false,true_or,ne_eq,seval,h_putc,beq_self_eq_true,eq_self,exists_eq_left,exists_eq_left']; rfl) rfl) (noteQ.fr hrow fun b hb => c_alloc_ne (by have:=hh3.lt headQ b hb; omega)) hap (by rw [l_of]; omega) ?_
    intro v' H4 fp' h1 h2 h3 h4 h5 h6
    simp -implicitDefEqProofs (maxDischargeDepth:=12) only [WW,List.replicate,Option.some_or,s_conv,e_conv,s_slc3,e_cut3,e_cut3n,e_bns,e_bnn,e_splice,if_true,if_false,ite_true,ite_false,true_or,ne_eq,seval,h_putc,beq_self_eq_true,eq_self,exists_eq_left,exists_eq_left',e2]
    rw [l_of] at h1
    exact ⟨k - 1,by omega,i + 1,v',fp',by omega,by rw [ef,es,of_cons (by simp)]; exact h1,ex_x rfl⟩
  | some a =>
    have hne : L ≠ []:=fun e => by subst e; cases hlast
    have hat:=getLast_at hlast
    have hpos : 0 < L.length:=by rcases Nat.eq_zero_or_pos L.length with h | h; exact absurd (List.length_eq_zero_iff.1 h) hne; exact h
    have ta:=tL.1 a (List.mem_of_getElem? hat)
    rw [of_cons hne] at hA3
    have es : stepT L x.own = if oneB a x.own then L.set (L.length - 1) (merge a x.own) else L ++ [x.own]:=by unfold stepT; rw [hlast]
    rw [es] at ef
    have ei : IntKind.i64.wrap ((L.length : Int) - 1) = ((L.length - 1 : Nat) : Int):=by rw [w64 (by omega) (by omega)]; omega
    generalize hi : L.length - 1 = m at hat ef ei
    have hil : m < L.length:=by omega
    have hm0 : (0 : Int) ≤ (m : Int):=by omega
    obtain ⟨b,cap,cs,r,g,hv',a1,a2,a3,a4,a5,a6,a7,a8,a9,a10,a11,a12,a13⟩:=note_cells hA3 hat
    simp only [l_some] at a1 a12 a13
    subst a1
    obtain ⟨g',o1,o2⟩:=noteQ_own a8
    obtain ⟨g3,o3,o4⟩:=noteQ_own hrow
    simp -implicitDefEqProofs (maxDischargeDepth:=12) only [WW,List.replicate,Option.some_or,s_conv,e_conv,s_slc3,e_cut3,e_cut3n,e_bns,e_bnn,e_splice,if_true,if_false,ite_true,ite_false,true_or,ne_eq,seval,h_putc,beq_self_eq_true,eq_self,exists_eq_left,exists_eq_left',ei,hm0,hil,a2,a3,a7,cq3]
    refine wA_own rfl (OwnL.cons o1 (.cons o3 .nil Apart.nil_right) (by rw [List.append_nil]; exact fun c h1 h2 => hap c (a10 c (o2 c h1)) (o4 c h2))) (rone_pv a x.own ta.heads tx.heads) ?_
    cases h1 : oneB a x.own with
    | false =>
      rw [h1,if_neg (by simp)] at ef
      rw [← of_cons hne] at hA3
      simp -implicitDefEqProofs (maxDischargeDepth:=12) only [WW,List.replicate,Option.some_or,s_conv,e_conv,s_slc3,e_cut3,e_cut3n,e_bns,e_bnn,e_splice,if_true,if_false,ite_true,ite_false,true_or,ne_eq,seval,h_putc,beq_self_eq_true,eq_self,exists_eq_left,exists_eq_left',cq3,hh3.one.1,hh3.one.2]
      refine wA_appQ noteQ (H0:=H3) hA3 (y:=x.own) (g:=fh) (fun c hc => c_alloc_ne (by have:=hlt3 c hc; omega)) rfl (asrc_one (by simp -implicitDefEqProofs (maxDischargeDepth:=12) only [WW,List.replicate,Option.some_or,s_conv,e_conv,s_slc3,e_cut3,e_cut3n,e_bns,e_bnn,e_splice,if_true,if_false,ite_true,ite_false,true_or,ne_eq,seval,h_putc,beq_self_eq_true,eq_self,exists_eq_left,exists_eq_left']; rfl) rfl) (noteQ.fr hrow fun b hb => c_alloc_ne (by have:=hh3.lt headQ b hb; omega)) hap (by rw [l_of]; omega) ?_
      intro v' H4 fp' h1 h2 h3 h4 h5 h6
      simp -implicitDefEqProofs (maxDischargeDepth:=12) only [WW,List.replicate,Option.some_or,s_conv,e_conv,s_slc3,e_cut3,e_cut3n,e_bns,e_bnn,e_splice,if_true,if_false,ite_true,ite_false,true_or,ne_eq,seval,h_putc,beq_self_eq_true,eq_self,exists_eq_left,exists_eq_left',e2]
      rw [l_of] at h1
      exact ⟨k - 1,by omega,i + 1,v',fp',by omega,by rw [ef,of_cons (by simp)]; exact h1,ex_x rfl⟩
    | true =>
      rw [h1,if_pos rfl] at ef
      have hlen:=oneB_len h1
      have nb : ¬ b = q:=by have:=hlt b a9; omega
      have nb' : ¬ q = b:=fun e => nb e.symm
      have hle : m * 8 + 1 + 1 ≤ cs.length:=by omega
      obtain ⟨fp',p1,p2⟩:=a12 (IntKind.i64.wrap (a.len + x.len))
      simp only [intE] at a4 a5 p1
      simp -implicitDefEqProofs (maxDischargeDepth:=12) only [WW,List.replicate,Option.some_or,s_conv,e_conv,s_slc3,e_cut3,e_cut3n,e_bns,e_bnn,if_true,if_false,ite_true,ite_false,true_or,ne_eq,seval,beq_self_eq_true,eq_self,exists_eq_left,exists_eq_left',cq3,ei,hil,a2,a5,hle]
      generalize hH4 : AHeap.put H3 b _ = H4 at p1 ⊢
      have k4 : ∀ c,c ≠ b→H4.cells c = H3.cells c:=fun c hc => by subst hH4; rw [c_put_ne hc]
      have cq4:=(k4 q nb').trans cq3
      have hh4 : AccQ HeadQ 5 H4 hv x.own.heads fh:=hh3.fr headQ fun c hc => k4 c fun e => hap b a9 (e ▸ hc)
      refine wp_loop (Inv:=fun k' t H => ∃ (j : Nat) (f2 : List Nat),j + k' = x.heads.l.length∧H.cells q = some [intE x.at_,intE x.len,hv,slm Grace.enc x.graces,intE x.articulations,intE x.ornament,intE x.dynamic,slm Syllable.enc x.lyrics]∧AccQ HeadQ 5 H hv x.own.heads fh ∧
        AccQ NoteQ 8 H (.slice b 0 L.length cap 8) (some (L.set m (a.mergeTo x.own j))) f2∧(∀ c ∈ f2,c ∈ fp) ∧
        ∃ y : Nat→AV,t = [slm Note.enc s,y 1,y 2,.slice b 0 L.length cap 8,.sc (.int .i64 i),.ptr q 0,.sc (.int .i64 m),.sc (.int .i64 j),y 8,y 9,y 10,y 11,y 12,y 13,y 14,y 15,y 16,y 17,y 18,y 19,y 20,y 21,y 22,y 23,y 24,y 25,y 26,y 27,y 28,y 29,y 30,y 31,y 32,y 33,y 34,y 35,y 36,y 37,y 38,y 39,y 40,y 41,y 42,y 43,y 44,y 45,y 46,y 47,y 48,y 49,y 50,y 51,y 52,y 53,y 54,y 55,y 56,y 57,y 58,y 59,y 60,y 61,y 62,y 63,y 64,y 65,y 66,y 67,y 68,y 69,y 70,y 71,y 72,y 73,y 74,y 75,y 76,y 77,y 78,y 79,y 80,y 81,y 82,y 83,y 84,y 85,y 86,y 87,y 88,y 89,y 90,y 91,y 92,y 93,y 94,y 95,y 96,y 97,y 98,y 99,y 100,y 101,y 102,y 103,y 104,y 105,y 106,y 107,y 108,y 109,y 110,y 111,y 112,y 113,y 114,y 115,y 116,y 117,y 118,y 119,y 120,y 121,y 122,y 123,y 124,y 125,y 126,y 127,y 128,y 129,y 130,y 131,y 132,y 133,y 134,y 135,y 136,y 137,y 138,y 139,y 140,y 141,y 142,y 143,y 144,y 145,y 146,y 147,y 148,y 149,y 150,y 151,y 152,y 153,y 154,y 155,y 156,y 157,y 158,y 159,y 160,y 161,y 162,y 163,y 164,y 165,y 166,y 167,y 168,y 169,y 170]) (k:=x.heads.l.length) ?_
        ⟨0,fp',by omega,cq4,hh4,by rw [mergeTo_zero]; exact p1,p2,ex_x rfl⟩
      clear hH4 k4 cq4 hh4 p1 p2 fp' hA3 a2 a3 a4 a5 a6 a7 a8 a10 a11 a12 a13 hh3 hrow cq3 o1 o2 o3 o4 g' g3 hlt3 n3 H4 hv' hle y
      rintro k' t H ⟨j,f2,hk',hB,hh,p1,p2,y,rfl⟩
      have hhl:=hh.length.1
      have exl : x.own.heads.l = x.heads.l:=rfl
      rw [exl] at hhl
      simp only [intE] at hB
      by_cases d1 : (j : Int) < (x.heads.l.length : Int)
      rotate_left
      · rw [mergeTo_all hlen (by rw [hlen,exl]; omega)] at p1
        simp -implicitDefEqProofs (maxDischargeDepth:=12) only [WW,List.replicate,Option.some_or,s_conv,e_conv,s_slc3,e_cut3,e_cut3n,e_bns,e_bnn,if_true,if_false,ite_true,ite_false,true_or,ne_eq,seval,beq_self_eq_true,eq_self,exists_eq_left,exists_eq_left',hB,d1,hhl,e2]
        exact ⟨k - 1,by omega,i + 1,_,f2,by omega,by rw [ef,of_cons (by simpa using hne)]; exact p1,ex_x rfl⟩
      have hjx : j < x.heads.l.length:=by omega
      have hja : j < a.heads.l.length:=by rw [hlen,exl]; exact hjx
      obtain ⟨u,hu⟩ : ∃ y,a.heads.l[j]? = some y:=⟨_,List.getElem?_eq_getElem hja⟩
      obtain ⟨w,hw⟩ : ∃ y,x.heads.l[j]? = some y:=⟨_,List.getElem?_eq_getElem hjx⟩
      have e3 : IntKind.i64.wrap ((j : Int) + 1) = ((j + 1 : Nat) : Int):=by rw [w64 (by omega) (by have:=tx.heads; omega)]; omega
      obtain ⟨b',cap',cs3,r',g2,hv',b1,b2,b3,b4,b5,b6,b7,b8,b9,b10,b11,b12,b13⟩:=note_cells p1 (i:=m) (x:=a.mergeTo x.own j) (by rw [l_some,List.getElem?_set_self hil])
      simp only [l_some,AV.slice.injEq,true_and,and_true,List.length_set] at b1
      obtain ⟨rfl,rfl⟩:=b1
      obtain ⟨bh,caph,ch,c2,c3,c4,c5,c6,c7,c8,c9⟩:=b13 j u (by rw [mergeTo_heads hlen]; exact tieUp_get hlen hu)
      rw [mergeTo_heads hlen,tieUp_len hlen] at c2
      subst c2
      obtain ⟨bx,capx,cx,x1,x2,x3,x4,x5,x6,x7,_,x9,_⟩:=head_cells hh (k:=j) (x:=w) hw
      rw [exl] at x1
      subst x1
      obtain ⟨f3,q1,q2⟩:=c9 w.tied
      have hbh : bh < q:=hlt _ (p2 _ c7)
      have hle : j * 5 + 3 + 1 ≤ ch.length:=by omega
      simp -implicitDefEqProofs (maxDischargeDepth:=12) only [WW,List.replicate,Option.some_or,s_conv,e_conv,s_slc3,e_cut3,e_cut3n,e_bns,e_bnn,if_true,if_false,ite_true,ite_false,true_or,ne_eq,seval,beq_self_eq_true,eq_self,exists_eq_left,exists_eq_left',hB,d1,hhl,hil,hjx,hja,b2,b6,c3,hle,x2,x7,e3]
      refine ⟨k' - 1,by omega,j + 1,f3,by omega,?_,?_,?_,fun c hc => p2 c (q2 c hc),ex_x rfl⟩
      · rw [c_put_ne (by omega)]; exact hB
      · exact hh.fr headQ fun c hc => c_put_ne fun e => hap bh (p2 _ c7) (e ▸ hc)
      · rw [mergeTo_succ hlen hu (show x.own.heads.l[j]? = some w from hw),l_some,List.set_set] at q1
        exact q1
end Go.Hem
namespace Go.Hem
theorem Note.cn_cn {x : Note} : x.cn.cn = x.cn:=by
  unfold Note.cn; simp only [l_of]
theorem tailB_cn {x : Note} : x.cn.tailB = x.tailB:=by
  unfold Note.tailB Note.cn; simp only [l_of]
theorem oneB_cn {a x : Note} : oneB a.cn x.cn = oneB a x:=by
  unfold oneB Note.plainB headsOne
  rw [tailB_cn]
  unfold Note.fin Note.cn; simp only [l_of]
theorem tieTo_nil {m : List Head} : tieTo [] m = []:=rfl
theorem merge_cn {a x : Note} : (merge a.cn x.cn).cn = (merge a x).cn:=by
  unfold merge Note.cn
  simp only [l_of,l_map (g:=fun l => tieTo l x.heads.l) tieTo_nil]
theorem stepT_cn {L : List Note} {x : Note} : (stepT (L.map Note.cn) x.cn).map Note.cn = (stepT L x).map Note.cn:=by
  unfold stepT
  rw [List.getLast?_map]
  cases L.getLast? with
  | none => simp [Note.cn_cn]
  | some a =>
    simp only [Option.map_some,oneB_cn]
    have e : Note.cn ∘ Note.cn = Note.cn:=by funext y; exact Note.cn_cn
    split
    · rw [List.map_set,List.map_set,merge_cn,List.map_map,e,List.length_map]
    · rw [List.map_append,List.map_append,List.map_map,e]; simp [Note.cn_cn]
theorem fold_cn : ∀ {l : List Note} {L L' : List Note},L.map Note.cn = L'.map Note.cn→((l.map Note.cn).foldl stepT L').map Note.cn = (l.foldl stepT L).map Note.cn
  | [],L,L',h => h.symm
  | x :: l,L,L',h => by
    simp only [List.map_cons,List.foldl_cons]
    refine fold_cn ?_
    rw [← stepT_cn,h,← stepT_cn (L:=L') (x:=x.cn),Note.cn_cn]
theorem hasB_cn {m : Note} {p : Pitch} : m.cn.hasB p = m.hasB p:=by
  unfold Note.hasB Note.cn; simp only [l_of]
theorem keepTie_cn {n : Note} {nx : Option Note} {h : Head} : keepTie n.cn (nx.map Note.cn) h = keepTie n nx h:=by
  unfold keepTie
  cases nx with
  | none => rfl
  | some m => simp only [Option.map_some,hasB_cn]; rfl
theorem untieN_cn {n : Note} {nx : Option Note} : (untieN n.cn (nx.map Note.cn)).cn = (untieN n nx).cn:=by
  unfold untieN
  simp only [keepTie_cn]
  unfold Note.cn
  simp only [l_of,l_map (g:=List.map fun h : Head => h.tie (keepTie n nx h)) List.map_nil]
theorem untie_cn : ∀ {l : List Note},(untie (l.map Note.cn)).map Note.cn = (untie l).map Note.cn
  | [] => rfl
  | n :: t => by
    simp only [List.map_cons,untie]
    rw [List.head?_map,untieN_cn,untie_cn]
theorem tidyP_cn {l : List Note} : (tidyP (l.map Note.cn)).map Note.cn = (tidyP l).map Note.cn:=by
  unfold tidyP
  rw [← untie_cn,fold_cn (l:=l) (L:=[]) (L':=[]) rfl,untie_cn]
theorem tidyP_of {l m : List Note} (h : l.map Note.cn = m.map Note.cn) : (tidyP l).map Note.cn = (tidyP m).map Note.cn:=by
  rw [← tidyP_cn,h,tidyP_cn]
theorem tidyR_eq {l : List Note} : (tidyR l).map Note.cn = (tidyP l).map Note.cn:=by
  show (tidyP (l.map Note.own)).map Note.cn = _
  refine tidyP_of ?_
  rw [List.map_map]; rfl
end Go.Hem
namespace Go.Hem
noncomputable section
theorem tidyR_tame {l : List Note} (h : ∀ y ∈ l,y.tame) : (∀ y ∈ tidyR l,y.tame)∧(tidyR l).length ≤ l.length:=by
  obtain ⟨a,b⟩:=foldR_tame h
  refine ⟨untie_tame a,?_⟩
  unfold tidyR
  rw [untie_len]; exact b
theorem rcheck_pv (c : Clip) (tc : c.tame) : Pv prog polS 12 [c.enc] (.sc (.int .i64 (checkE c))):=by
  refine Pv_of' ok12 (by simp only [AV.closedBs,Clip.enc_closed,Bool.and_self]) ?_
  obtain ⟨t1,t2⟩:=tc
  generalize hr : checkE c = r
  unfold checkE at hr
  by_cases b1 : c.len < 0
  · rw [if_pos (.inl b1)] at hr; subst hr
    simp -implicitDefEqProofs (maxDischargeDepth:=12) only [wpF,cf12,WW,List.replicate,Option.some_or,s_conv,e_conv,s_slc3,e_cut3,e_cut3n,e_bns,e_bnn,e_splice,if_true,if_false,ite_true,ite_false,true_or,ne_eq,seval,h_putc,beq_self_eq_true,eq_self,exists_eq_left,exists_eq_left',c.enc_eq,b1]
    exact frz_sc
  by_cases b2 : 123863040 < c.len
  · rw [if_pos (.inr b2)] at hr; subst hr
    simp -implicitDefEqProofs (maxDischargeDepth:=12) only [wpF,cf12,WW,List.replicate,Option.some_or,s_conv,e_conv,s_slc3,e_cut3,e_cut3n,e_bns,e_bnn,e_splice,if_true,if_false,ite_true,ite_false,true_or,ne_eq,seval,h_putc,beq_self_eq_true,eq_self,exists_eq_left,exists_eq_left',c.enc_eq,b1,b2]
    exact frz_sc
  rw [if_neg (by rintro (h | h) <;> contradiction)] at hr
  by_cases b3 : 4096 < c.notes.l.length
  · rw [if_pos b3] at hr; subst hr
    have b3' : (4096 : Int) < (c.notes.l.length : Int):=by omega
    simp -implicitDefEqProofs (maxDischargeDepth:=12) only [wpF,cf12,WW,List.replicate,Option.some_or,s_conv,e_conv,s_slc3,e_cut3,e_cut3n,e_bns,e_bnn,e_splice,if_true,if_false,ite_true,ite_false,true_or,ne_eq,seval,h_putc,beq_self_eq_true,eq_self,exists_eq_left,exists_eq_left',c.enc_eq,b1,b2,b3']
    exact frz_sc
  rw [if_neg b3] at hr
  have b3' : ¬ (4096 : Int) < (c.notes.l.length : Int):=by omega
  simp -implicitDefEqProofs (maxDischargeDepth:=12) only [wpF,cf12,WW,List.replicate,Option.some_or,s_conv,e_conv,s_slc3,e_cut3,e_cut3n,e_bns,e_bnn,e_splice,if_true,if_false,ite_true,ite_false,true_or,ne_eq,seval,h_putc,beq_self_eq_true,eq_self,exists_eq_left,exists_eq_left',c.enc_eq,b1,b2,b3']
  refine wp_loop (Inv:=fun k t H => ∃ (i : Nat),i + k = c.notes.l.length∧checkL c.len (prevAt c.notes.l i) (c.notes.l.drop i) = checkL c.len none c.notes.l∧H.cells 0 = some c.enc.cells∧1 ≤ H.next ∧
    ∃ x : Nat→AV,t = [c.enc,.ptr 0 0,x 2,.sc (.int .i64 i),x 4,x 5,x 6,x 7,x 8,x 9,x 10,x 11,x 12,x 13,x 14,x 15,x 16,x 17,x 18,x 19,x 20,x 21,x 22,x 23,x 24,x 25,x 26,x 27,x 28,x 29,x 30,x 31,x 32,x 33,x 34,x 35,x 36,x 37,x 38,x 39,x 40,x 41,x 42,x 43,x 44,x 45,x 46,x 47,x 48,x 49,x 50,x 51,x 52,x 53,x 54,x 55,x 56,x 57,x 58,x 59,x 60,x 61,x 62,x 63,x 64,x 65,x 66,x 67,x 68,x 69,x 70,x 71,x 72,x 73,x 74,x 75,x 76,x 77,x 78,x 79,x 80,x 81,x 82,x 83,x 84,x 85,x 86,x 87,x 88,x 89,x 90,x 91]) (k:=c.notes.l.length) ?_
    ⟨0,by omega,rfl,?_,by simp,ex_x rfl⟩
  rotate_left
  · simp -implicitDefEqProofs (maxDischargeDepth:=12) only [WW,List.replicate,Option.some_or,s_conv,e_conv,s_slc3,e_cut3,e_cut3n,e_bns,e_bnn,e_splice,if_true,if_false,ite_true,ite_false,true_or,ne_eq,seval,h_putc,beq_self_eq_true,eq_self,exists_eq_left,exists_eq_left']; rfl
  rintro k t H ⟨i,hk,hf,hA,hN,x,rfl⟩
  simp only [c.enc_eq,c_agg] at hA
  by_cases c1 : (i : Int) < (c.notes.l.length : Int)
  · obtain ⟨y,hy⟩ : ∃ y,c.notes.l[i]? = some y:=⟨_,List.getElem?_eq_getElem (by omega)⟩
    have ty:=t2 y (List.mem_of_getElem? hy)
    have e2 : IntKind.i64.wrap ((i : Int) + 1) = ((i + 1 : Nat) : Int):=by rw [w64 (by omega) (by omega)]; omega
    have q0 : ¬ 0 = H.next:=by omega
    have q1 : ¬ H.next = 0:=by omega
    rw [drop_cons hy] at hf
    simp only [checkL] at hf
    generalize hrr : checkL c.len none c.notes.l = rr at hf hr
    have hrr2 : rr ≠ 0→r = rr:=fun h => by rw [if_pos h] at hr; exact hr.symm
    by_cases c3 : y.at_ < 0
    · rw [if_pos (.inl c3)] at hf; rw [hrr2 (by rw [← hf]; decide),← hf]
      simp -implicitDefEqProofs (maxDischargeDepth:=12) only [WW,List.replicate,Option.some_or,s_conv,e_conv,s_slc3,e_cut3,e_cut3n,e_bns,e_bnn,e_splice,if_true,if_false,ite_true,ite_false,true_or,ne_eq,seval,h_putc,beq_self_eq_true,eq_self,exists_eq_left,exists_eq_left',hA,c1,hy,y.enc_eq,q0,q1,c3]
      exact frz_sc
    by_cases c4 : y.len < 1
    · rw [if_pos (.inr (.inl c4))] at hf; rw [hrr2 (by rw [← hf]; decide),← hf]
      simp -implicitDefEqProofs (maxDischargeDepth:=12) only [WW,List.replicate,Option.some_or,s_conv,e_conv,s_slc3,e_cut3,e_cut3n,e_bns,e_bnn,e_splice,if_true,if_false,ite_true,ite_false,true_or,ne_eq,seval,h_putc,beq_self_eq_true,eq_self,exists_eq_left,exists_eq_left',hA,c1,hy,y.enc_eq,q0,q1,c3,c4]
      exact frz_sc
    by_cases c5 : c.len < y.at_
    · rw [if_pos (.inr (.inr (.inl c5)))] at hf; rw [hrr2 (by rw [← hf]; decide),← hf]
      simp -implicitDefEqProofs (maxDischargeDepth:=12) only [WW,List.replicate,Option.some_or,s_conv,e_conv,s_slc3,e_cut3,e_cut3n,e_bns,e_bnn,e_splice,if_true,if_false,ite_true,ite_false,true_or,ne_eq,seval,h_putc,beq_self_eq_true,eq_self,exists_eq_left,exists_eq_left',hA,c1,hy,y.enc_eq,q0,q1,c3,c4,c5]
      exact frz_sc
    by_cases c6 : IntKind.i64.wrap (c.len - y.at_) < y.len
    · rw [if_pos (.inr (.inr (.inr c6)))] at hf; rw [hrr2 (by rw [← hf]; decide),← hf]
      simp -implicitDefEqProofs (maxDischargeDepth:=12) only [WW,List.replicate,Option.some_or,s_conv,e_conv,s_slc3,e_cut3,e_cut3n,e_bns,e_bnn,e_splice,if_true,if_false,ite_true,ite_false,true_or,ne_eq,seval,h_putc,beq_self_eq_true,eq_self,exists_eq_left,exists_eq_left',hA,c1,hy,y.enc_eq,q0,q1,c3,c4,c5,c6]
      exact frz_sc
    rw [if_neg (by unfold outR; rintro (h | h | h | h) <;> contradiction)] at hf
    by_cases i0 : (0 : Int) < (i : Int)
    · obtain ⟨m,hm⟩ : ∃ y,c.notes.l[i - 1]? = some y:=⟨_,List.getElem?_eq_getElem (by omega)⟩
      have hp : prevAt c.notes.l i = some m:=by unfold prevAt; rw [if_neg (by omega),hm]
      have em : IntKind.i64.wrap ((i : Int) - 1) = ((i - 1 : Nat) : Int):=by rw [w64 (by omega) (by omega)]; omega
      have hfin : IntKind.i64.wrap (m.at_ + m.len) = m.fin:=rfl
      rw [hp] at hf
      by_cases c7 : y.at_ < m.fin
      · rw [if_pos (show early (some m) y from c7)] at hf
        rw [hrr2 (by rw [← hf]; decide),← hf]
        simp -implicitDefEqProofs (maxDischargeDepth:=12) only [WW,List.replicate,Option.some_or,s_conv,e_conv,s_slc3,e_cut3,e_cut3n,e_bns,e_bnn,e_splice,if_true,if_false,ite_true,ite_false,true_or,ne_eq,seval,h_putc,beq_self_eq_true,eq_self,exists_eq_left,exists_eq_left',hA,c1,hy,y.enc_eq,q0,q1,c3,c4,c5,c6,i0,em,hm,m.enc_eq,hfin,c7]
        exact frz_sc
      rw [if_neg (show ¬ early (some m) y from c7)] at hf
      simp -implicitDefEqProofs (maxDischargeDepth:=12) only [WW,List.replicate,Option.some_or,s_conv,e_conv,s_slc3,e_cut3,e_cut3n,e_bns,e_bnn,e_splice,if_true,if_false,ite_true,ite_false,true_or,ne_eq,seval,h_putc,beq_self_eq_true,eq_self,exists_eq_left,exists_eq_left',hA,c1,hy,y.enc_eq,q0,q1,c3,c4,c5,c6,i0,em,hm,m.enc_eq,hfin,c7]
      rw [← y.enc_eq]
      refine wA_pure rfl (rchord_pv y) ?_
      simp -implicitDefEqProofs (maxDischargeDepth:=12) only [WW,List.replicate,Option.some_or,s_conv,e_conv,s_slc3,e_cut3,e_cut3n,e_bns,e_bnn,e_splice,if_true,if_false,ite_true,ite_false,true_or,ne_eq,seval,h_putc,beq_self_eq_true,eq_self,exists_eq_left,exists_eq_left']
      refine wA_pure rfl (echeck_pv y ty) ?_
      by_cases c8 : chordE y = 0
      · rw [if_neg (by simpa using c8)] at hf
        simp -implicitDefEqProofs (maxDischargeDepth:=12) only [WW,List.replicate,Option.some_or,s_conv,e_conv,s_slc3,e_cut3,e_cut3n,e_bns,e_bnn,e_splice,if_true,if_false,ite_true,ite_false,true_or,ne_eq,seval,h_putc,beq_self_eq_true,eq_self,exists_eq_left,exists_eq_left',c8,e2]
        exact ⟨k - 1,by omega,i + 1,by omega,by rw [prev_succ hy]; exact hf,by rw [if_neg q0,if_neg q0,hA]; rfl,ex_x rfl⟩
      · rw [if_pos c8] at hf
        rw [hrr2 (by rw [← hf]; exact c8),← hf]
        simp -implicitDefEqProofs (maxDischargeDepth:=12) only [WW,List.replicate,Option.some_or,s_conv,e_conv,s_slc3,e_cut3,e_cut3n,e_bns,e_bnn,e_splice,if_true,if_false,ite_true,ite_false,true_or,ne_eq,seval,h_putc,beq_self_eq_true,eq_self,exists_eq_left,exists_eq_left',c8]
        exact frz_sc
    · have hp : prevAt c.notes.l i = none:=by unfold prevAt; rw [if_pos (by omega)]
      rw [hp,if_neg (show ¬ early none y from fun h => h)] at hf
      simp -implicitDefEqProofs (maxDischargeDepth:=12) only [WW,List.replicate,Option.some_or,s_conv,e_conv,s_slc3,e_cut3,e_cut3n,e_bns,e_bnn,e_splice,if_true,if_false,ite_true,ite_false,true_or,ne_eq,seval,h_putc,beq_self_eq_true,eq_self,exists_eq_left,exists_eq_left',hA,c1,hy,y.enc_eq,q0,q1,c3,c4,c5,c6,i0]
      rw [← y.enc_eq]
      refine wA_pure rfl (rchord_pv y) ?_
      simp -implicitDefEqProofs (maxDischargeDepth:=12) only [WW,List.replicate,Option.some_or,s_conv,e_conv,s_slc3,e_cut3,e_cut3n,e_bns,e_bnn,e_splice,if_true,if_false,ite_true,ite_false,true_or,ne_eq,seval,h_putc,beq_self_eq_true,eq_self,exists_eq_left,exists_eq_left']
      refine wA_pure rfl (echeck_pv y ty) ?_
      by_cases c8 : chordE y = 0
      · rw [if_neg (by simpa using c8)] at hf
        simp -implicitDefEqProofs (maxDischargeDepth:=12) only [WW,List.replicate,Option.some_or,s_conv,e_conv,s_slc3,e_cut3,e_cut3n,e_bns,e_bnn,e_splice,if_true,if_false,ite_true,ite_false,true_or,ne_eq,seval,h_putc,beq_self_eq_true,eq_self,exists_eq_left,exists_eq_left',c8,e2]
        exact ⟨k - 1,by omega,i + 1,by omega,by rw [prev_succ hy]; exact hf,by rw [if_neg q0,if_neg q0,hA]; rfl,ex_x rfl⟩
      · rw [if_pos c8] at hf
        rw [hrr2 (by rw [← hf]; exact c8),← hf]
        simp -implicitDefEqProofs (maxDischargeDepth:=12) only [WW,List.replicate,Option.some_or,s_conv,e_conv,s_slc3,e_cut3,e_cut3n,e_bns,e_bnn,e_splice,if_true,if_false,ite_true,ite_false,true_or,ne_eq,seval,h_putc,beq_self_eq_true,eq_self,exists_eq_left,exists_eq_left',c8]
        exact frz_sc
  · rw [drop_end c1] at hf
    have hf0 : checkL c.len none c.notes.l = 0:=hf.symm
    rw [hf0,if_neg (by simp)] at hr
    simp -implicitDefEqProofs (maxDischargeDepth:=12) only [WW,List.replicate,Option.some_or,s_conv,e_conv,s_slc3,e_cut3,e_cut3n,e_bns,e_bnn,e_splice,if_true,if_false,ite_true,ite_false,true_or,ne_eq,seval,h_putc,beq_self_eq_true,eq_self,exists_eq_left,exists_eq_left',hA,c1]
    refine wA_pure rfl (rtidy_pv c.notes t1 t2) ?_
    have tt:=tidyR_tame t2
    simp -implicitDefEqProofs (maxDischargeDepth:=12) only [WW,List.replicate,Option.some_or,s_conv,e_conv,s_slc3,e_cut3,e_cut3n,e_bns,e_bnn,e_splice,if_true,if_false,ite_true,ite_false,true_or,ne_eq,seval,h_putc,beq_self_eq_true,eq_self,exists_eq_left,exists_eq_left',hA]
    refine wA_pure rfl (same_pv ⟨0,Sl.of (tidyR c.notes.l)⟩ ⟨0,c.notes⟩ (by rw [l_of]; omega) (by rw [l_of]; exact fun y hy => Note.chord_tame (tt.1 y hy))) ?_
    have e : ((⟨0,Sl.of (tidyR c.notes.l)⟩ : Clip).cn = (⟨0,c.notes⟩ : Clip).cn) = ((tidyP c.notes.l).map Note.cn = c.notes.l.map Note.cn):=by
      rw [← tidyR_eq]
      refine propext ⟨fun k => ?_,fun k => Clip.cn_iff.2 ⟨rfl,by rw [l_of]; exact k⟩⟩
      have:=(Clip.cn_iff.1 k).2
      rwa [l_of] at this
    simp only [e]
    by_cases d1 : (tidyP c.notes.l).map Note.cn = c.notes.l.map Note.cn
    · rw [if_pos d1] at hr; subst hr
      simp -implicitDefEqProofs (maxDischargeDepth:=12) only [WW,List.replicate,Option.some_or,s_conv,e_conv,s_slc3,e_cut3,e_cut3n,e_bns,e_bnn,e_splice,if_true,if_false,ite_true,ite_false,true_or,ne_eq,seval,h_putc,beq_self_eq_true,eq_self,exists_eq_left,exists_eq_left',eq_true d1]
      exact frz_sc
    · rw [if_neg d1] at hr; subst hr
      simp -implicitDefEqProofs (maxDischargeDepth:=12) only [WW,List.replicate,Option.some_or,s_conv,e_conv,s_slc3,e_cut3,e_cut3n,e_bns,e_bnn,e_splice,if_true,if_false,ite_true,ite_false,true_or,ne_eq,seval,h_putc,beq_self_eq_true,eq_self,exists_eq_left,exists_eq_left',d1]
      exact frz_sc
end
end Go.Hem
namespace Go.Hem
noncomputable section
def NoOne (L : List Note) : Prop:=∀ i a b,L[i]? = some a→L[i + 1]? = some b→oneB a b = false
def Ties (L : List Note) : Prop:=∀ i n,L[i]? = some n→∀ h ∈ n.heads.l,h.tied = true→keepTie n L[i + 1]? h = true
def Neat (L : List Note) : Prop:=NoOne L∧Ties L
theorem noOne_nil : NoOne []:=fun i a b h => by simp at h
theorem noOne_snoc {L : List Note} {x : Note} (h : NoOne L) (hx : ∀ a,L.getLast? = some a→oneB a x = false) : NoOne (L ++ [x]):=by
  intro i a b h1 h2
  by_cases c : i + 1 < L.length
  · rw [List.getElem?_append_left (by omega)] at h1
    rw [List.getElem?_append_left c] at h2
    exact h i a b h1 h2
  · have hl:=(List.getElem?_eq_some_iff.1 h2).1
    simp only [List.length_append,List.length_cons,List.length_nil] at hl
    have e : i + 1 = L.length:=by omega
    rw [List.getElem?_append_right (by omega),e,Nat.sub_self] at h2
    simp only [List.getElem?_cons_zero,Option.some.injEq] at h2
    subst h2
    rw [List.getElem?_append_left (by omega)] at h1
    exact hx a (by rw [List.getLast?_eq_getElem?,← h1]; congr 1; omega)
theorem noOne_set {L : List Note} {a a' : Note} (h : NoOne L) (ha : L.getLast? = some a) (he : ∀ c,oneB c a' = oneB c a) : NoOne (L.set (L.length - 1) a'):=by
  have hat:=getLast_at ha
  intro i c d h1 h2
  have hl:=(List.getElem?_eq_some_iff.1 h2).1
  simp only [List.length_set] at hl
  rw [List.getElem?_set_ne (by omega)] at h1
  by_cases e : i + 1 = L.length - 1
  · rw [← e,List.getElem?_set_self (by omega)] at h2
    simp only [Option.some.injEq] at h2
    subst h2
    rw [he]
    exact h i c a h1 (by rw [e]; exact hat)
  · rw [List.getElem?_set_ne (by omega)] at h2
    exact h i c d h1 h2
theorem tieTo_map {β : Type} {f : Head→β} (hf : ∀ h b,f (h.tie b) = f h) : ∀ {l m : List Head},l.length = m.length→(tieTo l m).map f = l.map f
  | [],_,_ => by simp [tieTo]
  | h :: l,[],e => by simp at e
  | h :: l,k :: m,e => by
    have:=tieTo_map (f:=f) hf (l:=l) (m:=m) (by simpa using e)
    simp only [tieTo,List.zipWith_cons_cons,List.map_cons] at this ⊢
    rw [this]
    have:=hf h k.tied
    unfold Head.tie at this
    rw [this]
theorem all_map_eq {α β : Type} {f : α→β} {p : β→Bool} {l m : List α} (h : l.map f = m.map f) : (l.all fun x => p (f x)) = m.all fun x => p (f x):=by
  have:=congrArg (List.all · p) h
  simpa [List.all_map,Function.comp_def] using this
theorem oneB_of {a b c d : Note} (h1 : a.fin = c.fin) (h2 : b.at_ = d.at_) (h3 : b.heads.l.map Head.shown = d.heads.l.map Head.shown) (h4 : b.tailB = d.tailB) (h5 : a.heads.l.map Head.tied = c.heads.l.map Head.tied) (h6 : a.heads.l.map Head.pitch = c.heads.l.map Head.pitch) (h7 : b.heads.l.map Head.pitch = d.heads.l.map Head.pitch) : oneB a b = oneB c d:=by
  unfold oneB Note.plainB headsOne
  rw [h1,h2,h4,h6,h7,all_map_eq (p:=fun x => decide (x = 0)) h3,all_map_eq (p:=fun x => x) h5]
theorem merge_heads {a x : Note} : (merge a x).heads.l = tieTo a.heads.l x.heads.l:=by
  show Sl.l (a.heads.map _) = _
  cases a.heads <;> simp [Sl.l,tieTo]
theorem oneB_merge {a x c : Note} (h : oneB a x = true) : oneB c (merge a x) = oneB c a:=by
  have hl:=oneB_len h
  exact oneB_of rfl rfl (by rw [merge_heads]; exact tieTo_map (fun _ _ => rfl) hl) rfl rfl rfl (by rw [merge_heads]; exact tieTo_map (fun _ _ => rfl) hl)
theorem stepT_noOne {L : List Note} {x : Note} (h : NoOne L) : NoOne (stepT L x):=by
  unfold stepT
  cases hl : L.getLast? with
  | none =>
    intro i a b _ h2
    simp at h2
  | some a =>
    simp only
    cases h1 : oneB a x with
    | true => rw [if_pos rfl]; exact noOne_set h hl fun c => oneB_merge h1
    | false =>
      rw [if_neg (by simp)]
      exact noOne_snoc h fun b hb => by rw [hl,Option.some.injEq] at hb; rw [← hb]; exact h1
theorem fold_noOne : ∀ {l L : List Note},NoOne L→NoOne (l.foldl stepT L)
  | [],_,h => h
  | x :: l,L,h => by rw [List.foldl_cons]; exact fold_noOne (stepT_noOne h)
theorem fold_id : ∀ {l P : List Note},NoOne (P ++ l)→l.foldl stepT P = P ++ l
  | [],P,_ => by simp
  | x :: l,P,h => by
    have e : stepT P x = P ++ [x]:=by
      unfold stepT
      cases hl : P.getLast? with
      | none => rw [List.getLast?_eq_none_iff.1 hl]; rfl
      | some a =>
        have hat:=getLast_at hl
        have hlen:=(List.getElem?_eq_some_iff.1 hat).1
        have:=h (P.length - 1) a x (by rw [List.getElem?_append_left (by omega)]; exact hat) (by rw [List.getElem?_append_right (by omega)]; simp [show P.length - 1 + 1 - P.length = 0 by omega])
        simp only [this,Bool.false_eq_true,if_false]
    rw [List.foldl_cons,e,fold_id (by simpa using h)]; simp
theorem untieN_heads {n : Note} {nx : Option Note} : (untieN n nx).heads.l = n.heads.l.map fun h => h.tie (keepTie n nx h):=by
  show Sl.l (n.heads.map _) = _
  cases n.heads <;> simp [Sl.l]
theorem untieN_hmap {β : Type} {f : Head→β} (hf : ∀ h b,f (h.tie b) = f h) {n : Note} {nx : Option Note} : (untieN n nx).heads.l.map f = n.heads.l.map f:=by
  rw [untieN_heads,List.map_map]
  exact List.map_congr_left fun h _ => hf h _
theorem untie_at {L : List Note} {i : Nat} {a : Note} (h : (untie L)[i]? = some a) : ∃ n,L[i]? = some n∧a = untieN n L[i + 1]?:=by
  have hi:=(List.getElem?_eq_some_iff.1 h).1
  rw [untie_len] at hi
  refine ⟨L[i],List.getElem?_eq_getElem hi,?_⟩
  have:=untie_get (List.getElem?_eq_getElem hi)
  rw [this] at h; exact (Option.some.inj h).symm
theorem keepTie_tied {n : Note} {nx : Option Note} {h : Head} (k : keepTie n nx h = true) : h.tied = true:=by
  unfold keepTie at k; rw [Bool.and_eq_true] at k; exact k.1
theorem oneB_untied {a b : Note} {x y : Option Note} (h : oneB (untieN a x) (untieN b y) = true) : oneB a b = true:=by
  unfold oneB Note.plainB headsOne at h ⊢
  have s:=untieN_hmap (f:=Head.shown) (fun _ _ => rfl) (n:=b) (nx:=y)
  rw [all_map_eq (p:=fun x => decide (x = 0)) s,untieN_hmap (f:=Head.pitch) (fun _ _ => rfl),untieN_hmap (f:=Head.pitch) (fun _ _ => rfl),untieN_heads] at h
  simp only [Bool.and_eq_true,decide_eq_true_eq] at h ⊢
  obtain ⟨h1,⟨h2,h3⟩,h4,h5⟩:=h
  refine ⟨h1,⟨h2,h3⟩,?_,h5⟩
  rw [List.all_map,List.all_eq_true] at h4
  rw [List.all_eq_true]
  intro k hk
  exact keepTie_tied (h4 k hk)
theorem untie_noOne {L : List Note} (h : NoOne L) : NoOne (untie L):=by
  intro i a b h1 h2
  obtain ⟨n,e1,rfl⟩:=untie_at h1
  obtain ⟨m,e2,rfl⟩:=untie_at h2
  cases k : oneB (untieN n L[i + 1]?) (untieN m L[i + 1 + 1]?) with
  | false => rfl
  | true => have:=oneB_untied k; rw [h i n m e1 e2] at this; cases this
theorem hasB_of {a b : Note} (h : a.heads.l.map Head.pitch = b.heads.l.map Head.pitch) (p : Pitch) : a.hasB p = b.hasB p:=by
  unfold Note.hasB
  have:=congrArg (List.any · fun q => decide (q = p)) h
  simpa [List.any_map,Function.comp_def] using this
theorem untie_ties {L : List Note} : Ties (untie L):=by
  intro i a h1 h hh ht
  obtain ⟨n,e1,rfl⟩:=untie_at h1
  rw [untieN_heads,List.mem_map] at hh
  obtain ⟨k,hk,rfl⟩:=hh
  have ht' : keepTie n L[i + 1]? k = true:=ht
  have hm:=ht'
  unfold keepTie at hm ⊢
  rw [Bool.and_eq_true] at hm ⊢
  refine ⟨ht,?_⟩
  have hm2:=hm.2
  cases e2 : L[i + 1]? with
  | none => rw [e2] at hm2; simp at hm2
  | some m =>
    rw [untie_get e2]
    rw [e2] at hm2
    simp only [Bool.and_eq_true,decide_eq_true_eq] at hm2 ⊢
    exact ⟨hm2.1,by rw [hasB_of (untieN_hmap (f:=Head.pitch) fun _ _ => rfl)]; exact hm2.2⟩
theorem neat_tidy {l : List Note} : Neat (tidyP l):=⟨untie_noOne (fold_noOne noOne_nil),untie_ties⟩
theorem untie_id {L : List Note} (h : Ties L) : untie L = L:=by
  apply List.ext_getElem?
  intro i
  cases e : L[i]? with
  | none => rw [List.getElem?_eq_none_iff] at e ⊢; rw [untie_len]; exact e
  | some n =>
    rw [untie_get e,Option.some.injEq]
    unfold untieN
    have : n.heads.map (List.map fun h => h.tie (keepTie n L[i + 1]? h)) = n.heads:=by
      cases eh : n.heads with
      | none => rfl
      | some l =>
        simp only [Option.map_some,Option.some.injEq]
        have : ∀ h ∈ l,h.tie (keepTie n L[i + 1]? h) = h:=fun k hk => by
          cases ht : k.tied with
          | true => rw [h i n e k (by rw [eh]; exact hk) ht,← ht]; rfl
          | false =>
            have : keepTie n L[i + 1]? k = false:=by unfold keepTie; rw [ht]; rfl
            rw [this,← ht]; rfl
        rw [List.map_congr_left this]; simp
    rw [this]
theorem tidy_id {L : List Note} (h : Neat L) : tidyP L = L:=by
  unfold tidyP
  rw [fold_id (P:=[]) (by simpa using h.1)]
  exact untie_id h.2
theorem at_cn {L M : List Note} (h : L.map Note.cn = M.map Note.cn) {i : Nat} {m : Note} (hm : M[i]? = some m) : ∃ n,L[i]? = some n∧n.cn = m.cn:=by
  have:=congrArg (·[i]?) h
  simp only [List.getElem?_map,hm,Option.map_some] at this
  cases e : L[i]? with
  | none => rw [e] at this; cases this
  | some n => rw [e] at this; exact ⟨n,rfl,Option.some.inj this⟩
theorem opt_cn {L M : List Note} (h : L.map Note.cn = M.map Note.cn) (i : Nat) : L[i]?.map Note.cn = M[i]?.map Note.cn:=by
  have:=congrArg (·[i]?) h
  simpa only [List.getElem?_map] using this
theorem heads_cn {a b : Note} (h : a.cn = b.cn) : a.heads.l = b.heads.l:=by
  have:=congrArg Note.heads h
  exact of_inj.1 this
theorem neat_cn {L M : List Note} (h : L.map Note.cn = M.map Note.cn) (k : Neat L) : Neat M:=by
  refine ⟨fun i a b h1 h2 => ?_,fun i n h1 x hx ht => ?_⟩
  · obtain ⟨c,c1,c2⟩:=at_cn h h1
    obtain ⟨d,d1,d2⟩:=at_cn h h2
    rw [← oneB_cn,← c2,← d2,oneB_cn]
    exact k.1 i c d c1 d1
  · obtain ⟨c,c1,c2⟩:=at_cn h h1
    rw [← keepTie_cn,← c2,← opt_cn h,keepTie_cn]
    exact k.2 i c c1 x (by rw [heads_cn c2]; exact hx) ht
theorem neat_iff {l : List Note} : (tidyP l).map Note.cn = l.map Note.cn ↔ Neat l :=
  ⟨fun h => neat_cn h neat_tidy,fun h => by rw [tidy_id h]⟩
end
end Go.Hem
namespace Go.Hem
noncomputable section
structure NFit (L : Int) (n : Note) : Prop where
  lo : 0 ≤ n.at_
  one : 1 ≤ n.len
  hi : n.at_ + n.len ≤ L
  ok : chordE n = 0
def Before (m n : Note) : Prop:=m.at_ + m.len ≤ n.at_
structure Row (L : Int) (l : List Note) : Prop where
  fit : ∀ n ∈ l,NFit L n
  ord : l.Pairwise Before
theorem NFit.fin_eq {L : Int} {n : Note} (h : NFit L n) (hL : L ≤ 123863040) : n.fin = n.at_ + n.len:=by
  have:=h.lo; have:=h.one; have:=h.hi
  unfold Note.fin
  exact w64 (by omega) (by omega)
theorem row_nil {L : Int} : Row L []:=⟨by simp,.nil⟩
theorem checkL_row {L : Int} (h0 : 0 ≤ L) (hL : L ≤ 123863040) : ∀ {l : List Note} {p : Option Note},(∀ m,p = some m→NFit L m)→checkL L p l = 0→Row L l∧∀ m,p = some m→∀ n ∈ l,Before m n
  | [],p,_,_ => ⟨row_nil,by simp⟩
  | n :: t,p,hp,h => by
    simp only [checkL] at h
    by_cases c1 : outR L n
    · rw [if_pos c1] at h; simp at h
    rw [if_neg c1] at h
    by_cases c2 : early p n
    · rw [if_pos c2] at h; simp at h
    rw [if_neg c2] at h
    by_cases c3 : chordE n ≠ 0
    · rw [if_pos c3] at h; exact absurd h c3
    rw [if_neg c3] at h
    have c3' : chordE n = 0:=by simpa using c3
    unfold outR at c1
    have q1 : 0 ≤ n.at_:=by omega
    have q2 : 1 ≤ n.len:=by omega
    have q3 : n.at_ ≤ L:=by omega
    have q4 : IntKind.i64.wrap (L - n.at_) = L - n.at_:=w64 (by omega) (by omega)
    rw [q4] at c1
    have fn : NFit L n:=⟨q1,q2,by omega,c3'⟩
    obtain ⟨r1,r2⟩:=checkL_row h0 hL (p:=some n) (fun m e => by cases e; exact fn) h
    have hb : ∀ m,p = some m→Before m n:=fun m e => by
      subst e
      have:=(hp m rfl).fin_eq hL
      simp only [early] at c2
      unfold Before; omega
    refine ⟨⟨fun x hx => ?_,List.pairwise_cons.2 ⟨r2 n rfl,r1.ord⟩⟩,fun m e x hx => ?_⟩
    · rcases List.mem_cons.1 hx with rfl | hx
      · exact fn
      · exact r1.fit x hx
    · rcases List.mem_cons.1 hx with rfl | hx
      · exact hb m e
      · have a:=hb m e
        have b:=r2 n rfl x hx
        unfold Before at a b ⊢; omega
theorem row_checkL {L : Int} (h0 : 0 ≤ L) (hL : L ≤ 123863040) : ∀ {l : List Note} {p : Option Note},(∀ m,p = some m→NFit L m∧∀ n ∈ l,Before m n)→Row L l→checkL L p l = 0
  | [],p,_,_ => rfl
  | n :: t,p,hp,h => by
    have fn:=h.fit n (by simp)
    have:=fn.lo; have:=fn.one; have:=fn.hi
    have q4 : IntKind.i64.wrap (L - n.at_) = L - n.at_:=w64 (by omega) (by omega)
    simp only [checkL]
    rw [if_neg (by unfold outR; rw [q4]; omega),if_neg,if_neg (by rw [fn.ok]; simp)]
    · obtain ⟨a,b⟩:=List.pairwise_cons.1 h.ord
      exact row_checkL h0 hL (fun m e => by cases e; exact ⟨fn,a⟩) ⟨fun x hx => h.fit x (by simp [hx]),b⟩
    · cases p with
      | none => exact fun h => h
      | some m =>
        obtain ⟨a,b⟩:=hp m rfl
        have:=a.fin_eq hL
        have:=b n (by simp)
        simp only [early]
        unfold Before at this; omega
structure Good (c : Clip) : Prop where
  lo : 0 ≤ c.len
  hi : c.len ≤ 123863040
  row : Row c.len c.notes.l
  neat : Neat c.notes.l
theorem good_of {c : Clip} (h : checkE c = 0) : Good c:=by
  unfold checkE at h
  by_cases c1 : c.len < 0 ∨ 123863040 < c.len
  · rw [if_pos c1] at h; simp at h
  rw [if_neg c1] at h
  by_cases c2 : 4096 < c.notes.l.length
  · rw [if_pos c2] at h; simp at h
  rw [if_neg c2] at h
  by_cases c3 : checkL c.len none c.notes.l ≠ 0
  · rw [if_pos c3] at h; exact absurd h c3
  rw [if_neg c3] at h
  by_cases c4 : (tidyP c.notes.l).map Note.cn = c.notes.l.map Note.cn
  · exact ⟨by omega,by omega,(checkL_row (by omega) (by omega) (p:=none) (fun m e => by cases e) (by simpa using c3)).1,neat_iff.1 c4⟩
  · rw [if_neg c4] at h; simp at h
theorem check_of {c : Clip} (h : Good c) (hl : c.notes.l.length ≤ 4096) : checkE c = 0:=by
  unfold checkE
  have:=h.lo; have:=h.hi
  rw [if_neg (by omega),if_neg (by omega),row_checkL h.lo h.hi (fun m e => by cases e) h.row,if_neg (by simp),if_pos (neat_iff.2 h.neat)]
inductive Same2 : List Note→List Note→Prop
  | nil : Same2 [] []
  | cons {a b : Note} {l m : List Note} : (a.at_ = b.at_∧a.len = b.len∧chordE a = chordE b)→Same2 l m→Same2 (a :: l) (b :: m)
end
end Go.Hem
namespace Go.Hem
noncomputable section
def strQ (num den v : Int) : Int:=IntKind.i64.wrap ((IntKind.i64.wrap (v * num)).tdiv den)
def Note.str (num den : Int) (n : Note) : Note:={ n with at_:=strQ num den n.at_,len:=strQ num den n.len }
def ratio (num den : Int) : Prop:=1 ≤ num∧num ≤ 64∧1 ≤ den∧den ≤ 64
instance {num den : Int} : Decidable (ratio num den):=by unfold ratio; exact inferInstance
theorem frz_tup {I : Bool} {d : Nat} {H : AHeap} {v u : AV} {fp : List Nat} {x : Sc} (h : OwnX I d H v u fp) (hd : d ≤ 19) : Frz (.tup [v,.sc x]) H (.tup [u,.sc x]):=by
  obtain ⟨H1,h1,h2,_⟩:=freezeV_own (h.mono hd)
  refine ⟨H1,?_,?_⟩
  · have e : ∀ k (l : List AV) H,freezeV (k + 1) (.tup l) H = (freezeL (freezeV k) l H).map fun r => (.tup r.1,r.2):=fun _ _ _ => rfl
    have e2 : ∀ k H,freezeV (k + 1) (.sc x) H = some (.sc x,H):=fun _ _ => rfl
    show freezeV (19 + 1) _ _ = _
    rw [e,freezeL,h1,Option.bind_some,freezeL,e2 18,Option.bind_some,freezeL]; rfl
  · simp only [AV.closedB,AV.closedBs,h2,Bool.and_self]
theorem frz_err {H : AHeap} {e : Int} : Frz (.tup [.agg [.sc (.int .i64 0),.sc .nils],.sc (.int .i64 e)]) H (.tup [Clip.enc ⟨0,none⟩,.sc (.int .i64 e)]) :=
  frz_tup (own_closed (d:=3) (cs:=(Clip.enc ⟨0,none⟩).cells) (Clip.enc_plain _)) (by decide)
theorem frz_clip {H : AHeap} {c : Clip} {v : AV} {f : List Nat} {e : Int} (h : Own 4 H v (slm Note.enc c.notes) f) : Frz (.tup [.agg [.sc (.int .i64 c.len),v],.sc (.int .i64 e)]) H (.tup [c.enc,.sc (.int .i64 e)]) :=
  frz_tup (I:=true) (d:=5) (fp:=[] ++ (f ++ [])) ⟨c.enc.cells,rfl,.cons .scal (.cons h .nil Apart.nil_right) Apart.nil_left⟩ (by decide)
end
end Go.Hem
namespace Go.Hem
def okTrue : XR AV→Bool
  | .ok (.sc (.bool b)) => b
  | _ => false
theorem okTrue_spec {r : XR AV} (h : okTrue r = true) : r = .ok (.sc (.bool true)):=by
  unfold okTrue at h
  split at h
  · subst h; rfl
  · cases h
theorem known_run : okTrue (xPure (X prog polS memo0 1000) 9 []) = true:=by decide +kernel
theorem known_pv : Pv prog polS 9 [] (.sc (.bool true)):=pv_of_x memo0_ok rfl (okTrue_spec known_run)
end Go.Hem
namespace Go.Hem
noncomputable section
def sylS (s : Syllable) : Bool:=decide (s.text.size ≤ 300)
def noteS (n : Note) : Bool:=decide (n.heads.l.length ≤ 12) && (decide (n.graces.l.length ≤ 12) && (decide (n.lyrics.l.length ≤ 6) && n.lyrics.l.all sylS))
def Clip.smallB (c : Clip) : Bool:=decide (c.notes.l.length ≤ 20) && c.notes.l.all noteS
theorem noteS_tame {n : Note} (h : noteS n = true) : n.tame:=by
  unfold noteS at h
  simp only [Bool.and_eq_true,decide_eq_true_eq] at h
  obtain ⟨h1,h2,h3,h4⟩:=h
  refine ⟨by omega,by omega,by omega,fun s hs => ?_⟩
  have:=List.all_eq_true.1 h4 s hs
  simp only [sylS,decide_eq_true_eq] at this; omega
theorem smallB_tame {c : Clip} (h : c.smallB = true) : c.tame:=by
  unfold Clip.smallB at h
  simp only [Bool.and_eq_true,decide_eq_true_eq] at h
  exact ⟨by omega,fun x hx => noteS_tame (List.all_eq_true.1 h.2 x hx)⟩
theorem small_pv (c : Clip) : Pv prog polS 10 [c.enc] (.sc (.bool c.smallB)):=by
  refine Pv_of' ok10 (by simp only [AV.closedBs,Clip.enc_closed,Bool.and_self]) ?_
  generalize hr : c.smallB = r
  unfold Clip.smallB at hr
  by_cases b1 : (20 : Int) < (c.notes.l.length : Int)
  · rw [decide_eq_false (by omega),Bool.false_and] at hr; subst hr
    simp -implicitDefEqProofs (maxDischargeDepth:=12) only [wpF,cf10,WW,List.replicate,Option.some_or,s_conv,e_conv,s_slc3,e_cut3,e_cut3n,e_bns,e_bnn,e_splice,if_true,if_false,ite_true,ite_false,true_or,ne_eq,seval,h_putc,beq_self_eq_true,eq_self,exists_eq_left,exists_eq_left',c.enc_eq,b1]
    exact frz_sc
  rw [decide_eq_true (by omega),Bool.true_and] at hr
  simp -implicitDefEqProofs (maxDischargeDepth:=12) only [wpF,cf10,WW,List.replicate,Option.some_or,s_conv,e_conv,s_slc3,e_cut3,e_cut3n,e_bns,e_bnn,e_splice,if_true,if_false,ite_true,ite_false,true_or,ne_eq,seval,h_putc,beq_self_eq_true,eq_self,exists_eq_left,exists_eq_left',c.enc_eq,b1]
  refine wp_loop (Inv:=fun k t H => ∃ (i : Nat),i + k = c.notes.l.length∧(c.notes.l.take i).all noteS = true∧H.cells 0 = some c.enc.cells∧1 ≤ H.next ∧
    ∃ x : Nat→AV,t = [c.enc,.ptr 0 0,x 2,.sc (.int .i64 i),x 4,x 5,x 6,x 7,x 8,x 9,x 10,x 11,x 12,x 13,x 14,x 15,x 16,x 17,x 18,x 19,x 20,x 21,x 22,x 23,x 24,x 25,x 26,x 27,x 28,x 29,x 30,x 31,x 32,x 33,x 34,x 35,x 36,x 37,x 38,x 39,x 40,x 41,x 42,x 43,x 44,x 45,x 46,x 47,x 48,x 49,x 50,x 51,x 52]) (k:=c.notes.l.length) ?_
    ⟨0,by omega,by simp,?_,by simp,ex_x rfl⟩
  rotate_left
  · simp -implicitDefEqProofs (maxDischargeDepth:=12) only [WW,List.replicate,Option.some_or,s_conv,e_conv,s_slc3,e_cut3,e_cut3n,e_bns,e_bnn,e_splice,if_true,if_false,ite_true,ite_false,true_or,ne_eq,seval,h_putc,beq_self_eq_true,eq_self,exists_eq_left,exists_eq_left']; rfl
  rintro k t H ⟨i,hk,hf,hA,hN,x,rfl⟩
  simp only [c.enc_eq,c_agg] at hA
  by_cases c1 : (i : Int) < (c.notes.l.length : Int)
  rotate_left
  · rw [List.take_of_length_le (by omega)] at hf
    rw [hf] at hr; subst hr
    simp -implicitDefEqProofs (maxDischargeDepth:=12) only [WW,List.replicate,Option.some_or,s_conv,e_conv,s_slc3,e_cut3,e_cut3n,e_bns,e_bnn,e_splice,if_true,if_false,ite_true,ite_false,true_or,ne_eq,seval,h_putc,beq_self_eq_true,eq_self,exists_eq_left,exists_eq_left',hA,c1]
    exact frz_sc
  obtain ⟨y,hy⟩ : ∃ y,c.notes.l[i]? = some y:=⟨_,List.getElem?_eq_getElem (by omega)⟩
  have e2 : IntKind.i64.wrap ((i : Int) + 1) = ((i + 1 : Nat) : Int):=by rw [w64 (by omega) (by omega)]; omega
  have q0 : ¬ 0 = H.next:=by omega
  have q1 : ¬ H.next = 0:=by omega
  have no : noteS y = false→r = false:=fun h => by rw [all_no hy h] at hr; exact hr.symm
  by_cases c3 : (12 : Int) < (y.heads.l.length : Int)
  · rw [no (by unfold noteS; rw [decide_eq_false (by omega),Bool.false_and])]
    simp -implicitDefEqProofs (maxDischargeDepth:=12) only [WW,List.replicate,Option.some_or,s_conv,e_conv,s_slc3,e_cut3,e_cut3n,e_bns,e_bnn,e_splice,if_true,if_false,ite_true,ite_false,true_or,ne_eq,seval,h_putc,beq_self_eq_true,eq_self,exists_eq_left,exists_eq_left',hA,c1,hy,y.enc_eq,q0,q1,c3]
    exact frz_sc
  by_cases c4 : (12 : Int) < (y.graces.l.length : Int)
  · rw [no (by unfold noteS; rw [decide_eq_false (p:=y.graces.l.length ≤ 12) (by omega),Bool.false_and,Bool.and_false])]
    simp -implicitDefEqProofs (maxDischargeDepth:=12) only [WW,List.replicate,Option.some_or,s_conv,e_conv,s_slc3,e_cut3,e_cut3n,e_bns,e_bnn,e_splice,if_true,if_false,ite_true,ite_false,true_or,ne_eq,seval,h_putc,beq_self_eq_true,eq_self,exists_eq_left,exists_eq_left',hA,c1,hy,y.enc_eq,q0,q1,c3,c4]
    exact frz_sc
  by_cases c5 : (6 : Int) < (y.lyrics.l.length : Int)
  · rw [no (by unfold noteS; rw [decide_eq_false (p:=y.lyrics.l.length ≤ 6) (by omega),Bool.false_and,Bool.and_false,Bool.and_false])]
    simp -implicitDefEqProofs (maxDischargeDepth:=12) only [WW,List.replicate,Option.some_or,s_conv,e_conv,s_slc3,e_cut3,e_cut3n,e_bns,e_bnn,e_splice,if_true,if_false,ite_true,ite_false,true_or,ne_eq,seval,h_putc,beq_self_eq_true,eq_self,exists_eq_left,exists_eq_left',hA,c1,hy,y.enc_eq,q0,q1,c3,c4,c5]
    exact frz_sc
  have hns : noteS y = y.lyrics.l.all sylS:=by
    unfold noteS; rw [decide_eq_true (p:=y.heads.l.length ≤ 12) (by omega),decide_eq_true (p:=y.graces.l.length ≤ 12) (by omega),decide_eq_true (p:=y.lyrics.l.length ≤ 6) (by omega)]
    simp only [Bool.true_and]
  simp -implicitDefEqProofs (maxDischargeDepth:=12) only [WW,List.replicate,Option.some_or,s_conv,e_conv,s_slc3,e_cut3,e_cut3n,e_bns,e_bnn,e_splice,if_true,if_false,ite_true,ite_false,true_or,ne_eq,seval,h_putc,beq_self_eq_true,eq_self,exists_eq_left,exists_eq_left',hA,c1,hy,y.enc_eq,q0,q1,c3,c4,c5]
  generalize hq : H.next = q at q0 q1 hN
  generalize hH1 : AHeap.put _ q _ = H1
  have n1 : H1.next = q + 1:=by subst hH1; simp only [AHeap.next_put,AHeap.next_alloc,hq]
  have cq:=congrArg (fun H => AHeap.cells H q) hH1
  have c0:=congrArg (fun H => AHeap.cells H 0) hH1
  simp -implicitDefEqProofs (maxDischargeDepth:=12) only [WW,List.replicate,Option.some_or,s_conv,e_conv,s_slc3,e_cut3,e_cut3n,e_bns,e_bnn,e_splice,if_true,if_false,ite_true,ite_false,true_or,ne_eq,seval,h_putc,beq_self_eq_true,eq_self,exists_eq_left,exists_eq_left',hq,q0,hA] at cq c0
  replace cq:=cq.symm
  replace c0:=c0.symm
  clear hH1
  refine wp_loop (Inv:=fun k2 t H => H = H1∧∃ (j : Nat),j + k2 = y.lyrics.l.length∧(y.lyrics.l.take j).all sylS = true ∧
    ∃ x : Nat→AV,t = [c.enc,.ptr 0 0,x 2,.sc (.int .i64 i),.ptr q 0,.sc (.int .i64 j),x 6,x 7,x 8,x 9,x 10,x 11,x 12,x 13,x 14,x 15,x 16,x 17,x 18,x 19,x 20,x 21,x 22,x 23,x 24,x 25,x 26,x 27,x 28,x 29,x 30,x 31,x 32,x 33,x 34,x 35,x 36,x 37,x 38,x 39,x 40,x 41,x 42,x 43,x 44,x 45,x 46,x 47,x 48,x 49,x 50,x 51,x 52]) (k:=y.lyrics.l.length) ?_
    ⟨rfl,0,by omega,by simp,ex_x rfl⟩
  clear x
  rintro k2 t _ ⟨rfl,j,hk2,hs,x,rfl⟩
  by_cases d1 : (j : Int) < (y.lyrics.l.length : Int)
  rotate_left
  · rw [List.take_of_length_le (by omega)] at hs
    simp -implicitDefEqProofs (maxDischargeDepth:=12) only [WW,List.replicate,Option.some_or,s_conv,e_conv,s_slc3,e_cut3,e_cut3n,e_bns,e_bnn,e_splice,if_true,if_false,ite_true,ite_false,true_or,ne_eq,seval,h_putc,beq_self_eq_true,eq_self,exists_eq_left,exists_eq_left',cq,c0,d1,e2]
    exact ⟨k - 1,by omega,i + 1,by omega,by rw [all_take hy hf,hns]; exact hs,rfl,by omega,ex_x rfl⟩
  obtain ⟨z,hz⟩ : ∃ z,y.lyrics.l[j]? = some z:=⟨_,List.getElem?_eq_getElem (by omega)⟩
  have e3 : IntKind.i64.wrap ((j : Int) + 1) = ((j + 1 : Nat) : Int):=by rw [w64 (by omega) (by omega)]; omega
  by_cases d2 : (300 : Int) < (z.text.size : Int)
  · rw [no (by rw [hns]; exact all_no hz (by unfold sylS; exact decide_eq_false (by omega)))]
    simp -implicitDefEqProofs (maxDischargeDepth:=12) only [WW,List.replicate,Option.some_or,s_conv,e_conv,s_slc3,e_cut3,e_cut3n,e_bns,e_bnn,e_splice,if_true,if_false,ite_true,ite_false,true_or,ne_eq,seval,h_putc,beq_self_eq_true,eq_self,exists_eq_left,exists_eq_left',cq,c0,d1,hz,z.enc_eq,d2]
    exact frz_sc
  · simp -implicitDefEqProofs (maxDischargeDepth:=12) only [WW,List.replicate,Option.some_or,s_conv,e_conv,s_slc3,e_cut3,e_cut3n,e_bns,e_bnn,e_splice,if_true,if_false,ite_true,ite_false,true_or,ne_eq,seval,h_putc,beq_self_eq_true,eq_self,exists_eq_left,exists_eq_left',cq,c0,d1,hz,z.enc_eq,d2,e3]
    exact ⟨k2 - 1,by omega,j + 1,by omega,by rw [all_take hz hs]; unfold sylS; exact decide_eq_true (by omega),ex_x rfl⟩
theorem chord_tames {c : Clip} (h : c.tame) : ∀ x ∈ c.notes.l,x.chord.tame:=fun x hx => Note.chord_tame (h.2 x hx)
end
end Go.Hem
namespace Go.Hem
noncomputable section
def ClosedQ {α : Type} (f : α→AV) : RQ α:=fun _ r x g => r = (f x).cells∧g = []
theorem closedQ {α : Type} {n : Nat} {f : α→AV} (row : RowOf n f) (hl : ∀ x,(f x).cells.length = n) (hp : ∀ x,AV.plain2 (f x) = true) (ha : ∀ x,∃ cs,f x = .agg cs) : RowQ n 3 f (ClosedQ f) where
  row:=row
  len:=by rintro H r x g ⟨rfl,rfl⟩; exact hl x
  fr:=by rintro H H' r x g h _; exact h
  lt:=by rintro H r x g ⟨rfl,rfl⟩ b hb; simp at hb
  own:=by
    rintro H r x g ⟨rfl,rfl⟩
    refine ⟨[],OwnL.plain fun v hv => ?_,fun _ h => h⟩
    obtain ⟨cs,e⟩:=ha x
    have:=hp x
    rw [e] at this hv
    simp only [AV.plain2,List.all_eq_true] at this
    exact this v hv
theorem rows_closed {α : Type} {f : α→AV} {H : AHeap} : ∀ {l : List α},Rows (ClosedQ f) H (l.flatMap fun x => (f x).cells) l []
  | [] => .nil
  | h :: l => Rows.cons (Q:=ClosedQ f) (g:=[]) ⟨rfl,rfl⟩ rows_closed Apart.nil_left
end
end Go.Hem
namespace Go.Hem
noncomputable section
theorem wp_loopY {P : Program} {pol : Pol} {b : CC} {Q : Post} (n : Nat) (Inv : Nat→List AV→AHeap→Prop) (Ex : List AV→AHeap→Prop)
    (step : ∀ k t H,Inv k t H→wpC P pol b t H (thenC (fun e t' H' => e = .exit n∧Ex t' H') fun t' H' => ∃ k',k' < k∧Inv k' t' H')) (hex : ∀ t H,Ex t H→Q (.exit n) t H) {k : Nat} {t : List AV} {H : AHeap} (h : Inv k t H) : wpC P pol (.loop b) t H Q:=by
  refine wp_loop Inv (fun k t H hi => wpC_mono (fun e t' H' q => ?_) (step k t H hi)) h
  cases e with
  | normal => exact q
  | exit id => obtain ⟨e1,e2⟩:=q; cases e1; exact hex _ _ e2
  | ret => obtain ⟨e1,e2⟩:=q; cases e1
def noClip : Clip:=⟨0,none⟩
theorem noClip_enc : noClip.enc = .agg [.sc (.int .i64 0),.sc .nils]:=rfl
theorem noClip_tame : noClip.tame:=⟨by decide,fun x hx => by simp [noClip,Sl.l] at hx⟩
end
end Go.Hem
namespace Go.Hem
noncomputable section
def Note.untied (n : Note) : Note:={ n with heads:=n.heads.map (List.map fun h => h.tie false) }
def Note.part (n : Note) (b : Int) : Note:=if n.at_ < b then n.bare else n
end
end Go.Hem
namespace Go.Hem
noncomputable section
end
end Go.Hem
namespace Go.Hem
noncomputable section
theorem firstE_zero : ∀ {l : List Int},firstE l = 0→∀ e ∈ l,e = 0
  | [],_,e,h => by simp at h
  | a :: l,k,e,h => by
    simp only [firstE] at k
    by_cases c : a = 0
    · rw [if_pos c] at k
      rcases List.mem_cons.1 h with rfl | h
      · exact c
      · exact firstE_zero k e h
    · rw [if_neg c] at k; exact absurd k c
theorem firstE_all : ∀ {l : List Int},(∀ e ∈ l,e = 0)→firstE l = 0
  | [],_ => rfl
  | a :: l,h => by
    simp only [firstE]
    rw [if_pos (h a (by simp))]
    exact firstE_all fun e he => h e (by simp [he])
theorem chordE_parts {x : Note} (h : chordE x = 0) : headsE x.heads.l = 0∧gracesE x.graces.l = 0∧lyricsE x.lyrics.l = 0:=by
  unfold chordE at h
  by_cases c : firstE [headsE x.heads.l,gracesE x.graces.l,lyricsE x.lyrics.l] = 0
  · have:=firstE_zero c
    exact ⟨this _ (by simp),this _ (by simp),this _ (by simp)⟩
  · rw [if_pos c] at h; exact absurd h c
end
end Go.Hem
namespace Go.Hem
noncomputable section
def Pitch.pos (p : Pitch) : Int:=IntKind.i64.wrap (IntKind.i64.wrap (7 * p.octave) + p.step)
theorem pos_pv (p : Pitch) : Pv prog polS 44 [p.enc] (.sc (.int .i64 p.pos)):=by
  refine Pv_of' ok44 (by simp only [AV.closedBs,Pitch.enc_closed,Bool.and_self]) ?_
  simp -implicitDefEqProofs (maxDischargeDepth:=12) only [wpF,cf44,WW,List.replicate,Option.some_or,s_conv,e_conv,s_slc3,e_cut3,e_cut3n,e_bns,e_bnn,e_splice,if_true,if_false,ite_true,ite_false,true_or,ne_eq,seval,h_putc,beq_self_eq_true,eq_self,exists_eq_left,exists_eq_left',p.enc_eq,e_mul]
  exact frz_sc
theorem diat_pv (p : Pitch) (h : p.ok) : Pv prog polS 86 [p.enc] (tup2 p.pos 0):=by
  refine Pv_of' ok86 (by simp only [AV.closedBs,Pitch.enc_closed,Bool.and_self]) ?_
  have hc:=pcheck_pv p
  rw [if_pos h] at hc
  simp -implicitDefEqProofs (maxDischargeDepth:=12) only [wpF,cf86,WW,List.replicate,Option.some_or,s_conv,e_conv,s_slc3,e_cut3,e_cut3n,e_bns,e_bnn,e_splice,if_true,if_false,ite_true,ite_false,true_or,ne_eq,seval,h_putc,beq_self_eq_true,eq_self,exists_eq_left,exists_eq_left',p.enc_eq]
  refine wA_pure rfl hc ?_
  simp -implicitDefEqProofs (maxDischargeDepth:=12) only [WW,List.replicate,Option.some_or,s_conv,e_conv,s_slc3,e_cut3,e_cut3n,e_bns,e_bnn,e_splice,if_true,if_false,ite_true,ite_false,true_or,ne_eq,seval,h_putc,beq_self_eq_true,eq_self,exists_eq_left,exists_eq_left',p.enc_eq,e_mul]
  exact frz_plain rfl rfl
def tup3 (a b c : Int) : AV:=.tup [.sc (.int .i64 a),.sc (.int .i64 b),.sc (.int .i64 c)]
theorem places_pv (p : Pitch) (h : p.ok) : Pv prog polS 68 [p.enc] (tup3 p.pos p.num 0):=by
  refine Pv_of' ok68 (by simp only [AV.closedBs,Pitch.enc_closed,Bool.and_self]) ?_
  have hc:=number_pv p
  rw [if_pos h,if_pos h] at hc
  simp -implicitDefEqProofs (maxDischargeDepth:=12) only [wpF,cf68,WW,List.replicate,Option.some_or,s_conv,e_conv,s_slc3,e_cut3,e_cut3n,e_bns,e_bnn,e_splice,if_true,if_false,ite_true,ite_false,true_or,ne_eq,seval,h_putc,beq_self_eq_true,eq_self,exists_eq_left,exists_eq_left',p.enc_eq]
  refine wA_pure rfl (diat_pv p h) ?_
  simp -implicitDefEqProofs (maxDischargeDepth:=12) only [WW,List.replicate,Option.some_or,s_conv,e_conv,s_slc3,e_cut3,e_cut3n,e_bns,e_bnn,e_splice,if_true,if_false,ite_true,ite_false,true_or,ne_eq,seval,h_putc,beq_self_eq_true,eq_self,exists_eq_left,exists_eq_left',p.enc_eq,tup2]
  refine wA_pure rfl hc ?_
  simp -implicitDefEqProofs (maxDischargeDepth:=12) only [WW,List.replicate,Option.some_or,s_conv,e_conv,s_slc3,e_cut3,e_cut3n,e_bns,e_bnn,e_splice,if_true,if_false,ite_true,ite_false,true_or,ne_eq,seval,h_putc,beq_self_eq_true,eq_self,exists_eq_left,exists_eq_left',p.enc_eq,tup2]
  exact frz_plain rfl rfl
def Interval.ok (i : Interval) : Prop:=-77 ≤ i.steps∧i.steps ≤ 77∧-140 ≤ i.semitones∧i.semitones ≤ 140
instance (i : Interval) : Decidable i.ok:=by unfold Interval.ok; exact inferInstance
theorem icheck_pv (i : Interval) : Pv prog polS 23 [i.enc] (.sc (.int .i64 (if i.ok then 0 else 2))):=by
  refine Pv_of' ok23 (by simp only [AV.closedBs,Interval.enc_closed,Bool.and_self]) ?_
  generalize hr : (if i.ok then (0 : Int) else 2) = r
  have no : ¬ i.ok→r = 2:=fun h => by rw [if_neg h] at hr; exact hr.symm
  by_cases c1 : i.steps < -77
  · rw [no fun h => by have:=h.1; omega]
    simp -implicitDefEqProofs (maxDischargeDepth:=12) only [wpF,cf23,WW,List.replicate,Option.some_or,s_conv,e_conv,s_slc3,e_cut3,e_cut3n,e_bns,e_bnn,e_splice,if_true,if_false,ite_true,ite_false,true_or,ne_eq,seval,h_putc,beq_self_eq_true,eq_self,exists_eq_left,exists_eq_left',i.enc_eq,c1]
    exact frz_sc
  by_cases c2 : 77 < i.steps
  · rw [no fun h => by have:=h.2.1; omega]
    simp -implicitDefEqProofs (maxDischargeDepth:=12) only [wpF,cf23,WW,List.replicate,Option.some_or,s_conv,e_conv,s_slc3,e_cut3,e_cut3n,e_bns,e_bnn,e_splice,if_true,if_false,ite_true,ite_false,true_or,ne_eq,seval,h_putc,beq_self_eq_true,eq_self,exists_eq_left,exists_eq_left',i.enc_eq,c1,c2]
    exact frz_sc
  by_cases c3 : i.semitones < -140
  · rw [no fun h => by have:=h.2.2.1; omega]
    simp -implicitDefEqProofs (maxDischargeDepth:=12) only [wpF,cf23,WW,List.replicate,Option.some_or,s_conv,e_conv,s_slc3,e_cut3,e_cut3n,e_bns,e_bnn,e_splice,if_true,if_false,ite_true,ite_false,true_or,ne_eq,seval,h_putc,beq_self_eq_true,eq_self,exists_eq_left,exists_eq_left',i.enc_eq,c1,c2,c3]
    exact frz_sc
  by_cases c4 : 140 < i.semitones
  · rw [no fun h => by have:=h.2.2.2; omega]
    simp -implicitDefEqProofs (maxDischargeDepth:=12) only [wpF,cf23,WW,List.replicate,Option.some_or,s_conv,e_conv,s_slc3,e_cut3,e_cut3n,e_bns,e_bnn,e_splice,if_true,if_false,ite_true,ite_false,true_or,ne_eq,seval,h_putc,beq_self_eq_true,eq_self,exists_eq_left,exists_eq_left',i.enc_eq,c1,c2,c3,c4]
    exact frz_sc
  rw [if_pos ⟨by omega,by omega,by omega,by omega⟩] at hr; subst hr
  simp -implicitDefEqProofs (maxDischargeDepth:=12) only [wpF,cf23,WW,List.replicate,Option.some_or,s_conv,e_conv,s_slc3,e_cut3,e_cut3n,e_bns,e_bnn,e_splice,if_true,if_false,ite_true,ite_false,true_or,ne_eq,seval,h_putc,beq_self_eq_true,eq_self,exists_eq_left,exists_eq_left',i.enc_eq,c1,c2,c3,c4]
  exact frz_sc
theorem goal_pv (p : Pitch) (i : Interval) (h : p.ok) (hi : i.ok) : Pv prog polS 41 [p.enc,i.enc] (tup3 (IntKind.i64.wrap (p.pos + i.steps)) (p.num + i.semitones) 0):=by
  refine Pv_of' ok41 (by simp only [AV.closedBs,Pitch.enc_closed,Interval.enc_closed,Bool.and_self]) ?_
  have hc:=icheck_pv i
  rw [if_pos hi] at hc
  have e : IntKind.i64.wrap (p.num + i.semitones) = p.num + i.semitones:=by
    obtain ⟨_,h1,h2⟩:=h
    obtain ⟨_,_,h3,h4⟩:=hi
    exact w64 (by omega) (by omega)
  simp -implicitDefEqProofs (maxDischargeDepth:=12) only [wpF,cf41,WW,List.replicate,Option.some_or,s_conv,e_conv,s_slc3,e_cut3,e_cut3n,e_bns,e_bnn,e_splice,if_true,if_false,ite_true,ite_false,true_or,ne_eq,seval,h_putc,beq_self_eq_true,eq_self,exists_eq_left,exists_eq_left',p.enc_eq,i.enc_eq]
  refine wA_pure rfl (places_pv p h) ?_
  simp -implicitDefEqProofs (maxDischargeDepth:=12) only [WW,List.replicate,Option.some_or,s_conv,e_conv,s_slc3,e_cut3,e_cut3n,e_bns,e_bnn,e_splice,if_true,if_false,ite_true,ite_false,true_or,ne_eq,seval,h_putc,beq_self_eq_true,eq_self,exists_eq_left,exists_eq_left',i.enc_eq,tup3]
  refine wA_pure rfl hc ?_
  simp -implicitDefEqProofs (maxDischargeDepth:=12) only [WW,List.replicate,Option.some_or,s_conv,e_conv,s_slc3,e_cut3,e_cut3n,e_bns,e_bnn,e_splice,if_true,if_false,ite_true,ite_false,true_or,ne_eq,seval,h_putc,beq_self_eq_true,eq_self,exists_eq_left,exists_eq_left',i.enc_eq,tup3,e]
  exact frz_plain rfl rfl
def flQ (a : Int) : Int:=if a < 0 then -1 else a / 12
def flR (a : Int) : Int:=if a < 0 then a + 12 else a % 12
theorem fl_spec {a : Int} (h : -2 ≤ a) : a = 12 * flQ a + flR a∧0 ≤ flR a∧flR a < 12:=by
  unfold flQ flR
  split <;> omega
theorem floor_pv {a : Int} (h : -2 ≤ a) (h2 : a ≤ 129) : Pv prog polS 87 [.sc (.int .i64 a),.sc (.int .i64 12)] (tup2 (flQ a) (flR a)):=by
  refine Pv_of' ok87 rfl ?_
  have hd : (12 : Int) ≠ 0:=by decide
  by_cases c : a < 0
  · have : a = -1 ∨ a = -2:=by omega
    rcases this with rfl | rfl
    · have e1 : IntKind.i64.wrap ((-1 : Int).tdiv 12) = 0:=by decide
      have e2 : (-1 : Int).tmod 12 = -1:=by decide
      have e3 : IntKind.i64.wrap (0 - 1) = -1:=by decide
      have e4 : IntKind.i64.wrap (-1 + 12) = 11:=by decide
      simp -implicitDefEqProofs (maxDischargeDepth:=12) only [wpF,cf87,WW,List.replicate,Option.some_or,s_conv,e_conv,s_slc3,e_cut3,e_cut3n,e_bns,e_bnn,e_splice,if_true,if_false,ite_true,ite_false,true_or,ne_eq,seval,h_putc,beq_self_eq_true,eq_self,exists_eq_left,exists_eq_left',e_quo hd,e_rem hd,e1,e2,e3,e4]
      exact frz_plain rfl rfl
    · have e1 : IntKind.i64.wrap ((-2 : Int).tdiv 12) = 0:=by decide
      have e2 : (-2 : Int).tmod 12 = -2:=by decide
      have e3 : IntKind.i64.wrap (0 - 1) = -1:=by decide
      have e4 : IntKind.i64.wrap (-2 + 12) = 10:=by decide
      simp -implicitDefEqProofs (maxDischargeDepth:=12) only [wpF,cf87,WW,List.replicate,Option.some_or,s_conv,e_conv,s_slc3,e_cut3,e_cut3n,e_bns,e_bnn,e_splice,if_true,if_false,ite_true,ite_false,true_or,ne_eq,seval,h_putc,beq_self_eq_true,eq_self,exists_eq_left,exists_eq_left',e_quo hd,e_rem hd,e1,e2,e3,e4]
      exact frz_plain rfl rfl
  · have e1 : IntKind.i64.wrap (a.tdiv 12) = flQ a:=by
      rw [Int.tdiv_eq_ediv_of_nonneg (by omega),w64 (by omega) (by omega)]; unfold flQ; rw [if_neg c]
    have e2 : a.tmod 12 = flR a:=by
      rw [Int.tmod_eq_emod_of_nonneg (by omega)]; unfold flR; rw [if_neg c]
    have e3 : ¬ flR a < 0:=by have:=(fl_spec h).2.1; omega
    simp -implicitDefEqProofs (maxDischargeDepth:=12) only [wpF,cf87,WW,List.replicate,Option.some_or,s_conv,e_conv,s_slc3,e_cut3,e_cut3n,e_bns,e_bnn,e_splice,if_true,if_false,ite_true,ite_false,true_or,ne_eq,seval,h_putc,beq_self_eq_true,eq_self,exists_eq_left,exists_eq_left',e_quo hd,e_rem hd,e1,e2,e3]
    exact frz_plain rfl rfl
end
end Go.Hem
namespace Go.Hem
noncomputable section
def PitchC : RQ Pitch:=ClosedQ Pitch.enc
theorem row_Pitch : RowOf 3 Pitch.enc:=⟨by decide,fun _ => ⟨rfl,rfl⟩⟩
theorem pitchC : RowQ 3 3 Pitch.enc PitchC:=closedQ row_Pitch (fun _ => rfl) Pitch.enc_plain fun _ => ⟨_,rfl⟩
theorem semi_lt {a b : Nat} (h : a < b) (hb : b < 7) : semi a ≠ semi b:=by
  have ha : a = 0 ∨ a = 1 ∨ a = 2 ∨ a = 3 ∨ a = 4 ∨ a = 5:=by omega
  have hb : b = 1 ∨ b = 2 ∨ b = 3 ∨ b = 4 ∨ b = 5 ∨ b = 6:=by omega
  rcases ha with rfl | rfl | rfl | rfl | rfl | rfl <;> rcases hb with rfl | rfl | rfl | rfl | rfl | rfl <;> first | omega | decide
def Has (n : Int) (q : Pitch) : Prop:=q.ok∧q.num = n
theorem enh_ok (n : Int) (h0 : 0 ≤ n) (h1 : n ≤ 127) (H0 : AHeap) : Ev prog polS (.call 69 [.sc (.int .i64 n)]) H0 fun o H' => ∃ v L fp,o = .val (.tup [v,.sc (.int .i64 0)])∧AccQ PitchC 3 H' v (Sl.of L) fp∧(∀ q ∈ L,Has n q)∧L.length ≤ 5∧Fresh H0 H' fp:=by
  refine (wpF_ok ok69 (Q:=fun v' H' => ∃ v L fp,v' = .tup [v,.sc (.int .i64 0)]∧AccQ PitchC 3 H' v (Sl.of L) fp∧(∀ q ∈ L,Has n q)∧L.length ≤ 5∧Fresh H0 H' fp) ?_).mono ?_
  rotate_left
  · rintro o H' ⟨v',rfl,v,L,fp,rfl,h⟩; exact ⟨v,L,fp,rfl,h⟩
  have c1 : ¬ n < 0:=by omega
  have c2 : ¬ 127 < n:=by omega
  simp -implicitDefEqProofs (maxDischargeDepth:=12) only [wpF,cf69,WW,List.replicate,Option.some_or,s_conv,e_conv,s_slc3,e_cut3,e_cut3n,e_bns,e_bnn,e_splice,if_true,if_false,ite_true,ite_false,true_or,ne_eq,seval,h_putc,beq_self_eq_true,eq_self,exists_eq_left,exists_eq_left',c1,c2]
  refine wp_loop (Inv:=fun k t H => ∃ (v : AV) (L : List Pitch) (fp : List Nat),k ≤ 5∧AccQ PitchC 3 H v (Sl.of L) fp∧(∀ q ∈ L,Has n q)∧L.length + k ≤ 5∧Fresh H0 H fp ∧
    ∃ y : Nat→AV,t = [.sc (.int .i64 n),y 1,.sc .nils,.sc (.int .i64 0),v,.sc (.int .i64 ((k : Int) - 3)),y 6,y 7,y 8,y 9,y 10,y 11,y 12,y 13,y 14,y 15,y 16,y 17,y 18,y 19,y 20,y 21,y 22,y 23,y 24,y 25,y 26,y 27,y 28,y 29,y 30,y 31,y 32,y 33,y 34,y 35,y 36,y 37,y 38,y 39,y 40,y 41,y 42,y 43,y 44,y 45,y 46,y 47,y 48,y 49,y 50,y 51]) (k:=5) ?_
    ⟨.sc .nils,[],[],by omega,accQ_none,by simp,by simp,⟨by simp,Nat.le_refl _,Keep.refl⟩,ex_x rfl⟩
  rintro k t H ⟨v,L,fp,hk,hA,hL,hlen,hF,y,rfl⟩
  have hk' : k = 0 ∨ 1 ≤ k:=by omega
  generalize ha : (k : Int) - 3 = a
  by_cases c3 : -2 ≤ a
  rotate_left
  · have hvo:=hA.one
    simp -implicitDefEqProofs (maxDischargeDepth:=12) only [WW,List.replicate,Option.some_or,s_conv,e_conv,s_slc3,e_cut3,e_cut3n,e_bns,e_bnn,e_splice,if_true,if_false,ite_true,ite_false,true_or,ne_eq,seval,h_putc,beq_self_eq_true,eq_self,exists_eq_left,exists_eq_left',c3,hvo.1,hvo.2]
    exact ⟨v,L,fp,rfl,hA,hL,by omega,hF⟩
  have ea : IntKind.i64.wrap (n - a) = n - a:=w64 (by omega) (by omega)
  have ea1 : IntKind.i64.wrap (a - 1) = ((k - 1 : Nat) : Int) - 3:=by rw [w64 (by omega) (by omega)]; omega
  have fs:=fl_spec (a:=n - a) (by omega)
  have eo : IntKind.i64.wrap (flQ (n - a) - 1) = flQ (n - a) - 1:=by
    have:=fs.2.1; have:=fs.2.2
    exact w64 (by omega) (by omega)
  simp -implicitDefEqProofs (maxDischargeDepth:=12) only [WW,List.replicate,Option.some_or,s_conv,e_conv,s_slc3,e_cut3,e_cut3n,e_bns,e_bnn,e_splice,if_true,if_false,ite_true,ite_false,true_or,ne_eq,seval,h_putc,beq_self_eq_true,eq_self,exists_eq_left,exists_eq_left',c3,ea]
  refine wA_pure rfl (floor_pv (by omega) (by omega)) ?_
  simp -implicitDefEqProofs (maxDischargeDepth:=12) only [WW,List.replicate,Option.some_or,s_conv,e_conv,s_slc3,e_cut3,e_cut3n,e_bns,e_bnn,e_splice,if_true,if_false,ite_true,ite_false,true_or,ne_eq,seval,h_putc,beq_self_eq_true,eq_self,exists_eq_left,exists_eq_left',tup2]
  refine wA_pure rfl semis_pv ?_
  generalize flQ (n - a) = fq at fs eo
  generalize flR (n - a) = fr at fs
  simp -implicitDefEqProofs (maxDischargeDepth:=12) only [WW,List.replicate,Option.some_or,s_conv,e_conv,s_slc3,e_cut3,e_cut3n,e_bns,e_bnn,e_splice,if_true,if_false,ite_true,ite_false,true_or,ne_eq,seval,h_putc,beq_self_eq_true,eq_self,exists_eq_left,exists_eq_left']
  refine wp_loop (Inv:=fun r t H => ∃ (s : Nat) (v : AV) (L' : List Pitch) (fp : List Nat),s + r = 7∧AccQ PitchC 3 H v (Sl.of L') fp∧(∀ q ∈ L',Has n q)∧(L'.length = L.length ∨ (L'.length = L.length + 1∧∃ s0 : Nat,s0 < s∧semi s0 = fr))∧Fresh H0 H fp ∧
    ∃ y : Nat→AV,t = [.sc (.int .i64 n),y 1,.sc .nils,.sc (.int .i64 0),v,.sc (.int .i64 a),.sc (.int .i64 fq),.sc (.int .i64 fr),y 8,y 9,y 10,y 11,y 12,y 13,y 14,y 15,y 16,y 17,y 18,y 19,y 20,y 21,y 22,y 23,y 24,y 25,y 26,y 27,semiA,.sc (.int .i64 s),y 30,y 31,y 32,y 33,y 34,y 35,y 36,y 37,y 38,y 39,y 40,y 41,y 42,y 43,y 44,y 45,y 46,y 47,y 48,y 49,y 50,y 51]) (k:=7) ?_
    ⟨0,v,L,fp,by omega,hA,hL,.inl rfl,hF,ex_x rfl⟩
  clear hA hF fp y v H
  rintro r t H ⟨s,v,L',fp,hs,hA,hL',hcount,⟨hF1,hF2,hF3⟩,y,rfl⟩
  by_cases d1 : (s : Int) < 7
  rotate_left
  · simp -implicitDefEqProofs (maxDischargeDepth:=12) only [WW,List.replicate,Option.some_or,s_conv,e_conv,s_slc3,e_cut3,e_cut3n,e_bns,e_bnn,e_splice,if_true,if_false,ite_true,ite_false,true_or,ne_eq,seval,h_putc,beq_self_eq_true,eq_self,exists_eq_left,exists_eq_left',d1,ea1]
    exact ⟨k - 1,by omega,v,L',fp,by omega,hA,hL',by omega,⟨hF1,hF2,hF3⟩,ex_x rfl⟩
  have d0 : (0 : Int) ≤ (s : Int):=by omega
  have es:=semi_at (s:=(s : Int)) d0 (by omega)
  rw [Int.toNat_natCast] at es
  have e2 : IntKind.i64.wrap ((s : Int) + 1) = ((s + 1 : Nat) : Int):=by rw [w64 (by omega) (by omega)]; omega
  have hlt:=hA.lt pitchC
  simp -implicitDefEqProofs (maxDischargeDepth:=12) only [WW,List.replicate,Option.some_or,s_conv,e_conv,s_slc3,e_cut3,e_cut3n,e_bns,e_bnn,e_splice,if_true,if_false,ite_true,ite_false,true_or,ne_eq,seval,h_putc,beq_self_eq_true,eq_self,exists_eq_left,exists_eq_left',d1,asNat,d0,es,eo]
  generalize hH1 : AHeap.put _ H.next _ = H1
  have n1 : H1.next = H.next + 1:=by subst hH1; simp only [AHeap.next_put,AHeap.next_alloc]
  have k1 : ∀ b,b < H.next→H1.cells b = H.cells b:=fun b hb => by subst hH1; rw [c_put_ne (by omega),c_alloc_ne (by omega)]
  have cq1:=congrArg (fun h => AHeap.cells h H.next) hH1
  simp -implicitDefEqProofs (maxDischargeDepth:=12) only [WW,List.replicate,Option.some_or,s_conv,e_conv,s_slc3,e_cut3,e_cut3n,e_bns,e_bnn,e_splice,if_true,if_false,ite_true,ite_false,true_or,ne_eq,seval,h_putc,beq_self_eq_true,eq_self,exists_eq_left,exists_eq_left'] at cq1
  replace cq1:=cq1.symm
  clear hH1
  have hA1 : AccQ PitchC 3 H1 v (Sl.of L') fp:=hA.fr pitchC fun b hb => k1 b (hlt b hb)
  have hF1' : Fresh H0 H1 fp:=⟨hF1,by omega,fun b hb => by rw [k1 b (by omega),hF3 b hb]⟩
  by_cases d2 : semi (s : Int) = fr
  rotate_left
  · simp -implicitDefEqProofs (maxDischargeDepth:=12) only [WW,List.replicate,Option.some_or,s_conv,e_conv,s_slc3,e_cut3,e_cut3n,e_bns,e_bnn,e_splice,if_true,if_false,ite_true,ite_false,true_or,ne_eq,seval,h_putc,beq_self_eq_true,eq_self,exists_eq_left,exists_eq_left',d2,e2]
    exact ⟨r - 1,by omega,s + 1,v,L',fp,by omega,hA1,hL',hcount.imp id (fun h => ⟨h.1,h.2.imp fun s0 h => ⟨by omega,h.2⟩⟩),hF1',ex_x rfl⟩
  have hp:=pcheck_pv ⟨(s : Int),a,fq - 1⟩
  have hdup : L'.length = L.length:=by
    rcases hcount with h | ⟨_,s0,h1,h2⟩
    · exact h
    · exact absurd (h2.trans d2.symm) (semi_lt h1 (by omega))
  simp -implicitDefEqProofs (maxDischargeDepth:=12) only [WW,List.replicate,Option.some_or,s_conv,e_conv,s_slc3,e_cut3,e_cut3n,e_bns,e_bnn,e_splice,if_true,if_false,ite_true,ite_false,true_or,ne_eq,seval,h_putc,beq_self_eq_true,eq_self,exists_eq_left,exists_eq_left',eq_true d2,cq1]
  refine wA_pure rfl hp ?_
  by_cases d3 : (⟨(s : Int),a,fq - 1⟩ : Pitch).ok
  rotate_left
  · simp -implicitDefEqProofs (maxDischargeDepth:=12) only [WW,List.replicate,Option.some_or,s_conv,e_conv,s_slc3,e_cut3,e_cut3n,e_bns,e_bnn,e_splice,if_true,if_false,ite_true,ite_false,true_or,ne_eq,seval,h_putc,beq_self_eq_true,eq_self,exists_eq_left,exists_eq_left',d3,e2]
    exact ⟨r - 1,by omega,s + 1,v,L',fp,by omega,hA1,hL',.inl hdup,hF1',ex_x rfl⟩
  simp -implicitDefEqProofs (maxDischargeDepth:=12) only [WW,List.replicate,Option.some_or,s_conv,e_conv,s_slc3,e_cut3,e_cut3n,e_bns,e_bnn,e_splice,if_true,if_false,ite_true,ite_false,true_or,ne_eq,seval,h_putc,beq_self_eq_true,eq_self,exists_eq_left,exists_eq_left',eq_true d3,cq1]
  generalize hHb : AHeap.alloc H1 _ = Hb
  have nb : Hb.next = H.next + 2:=by subst hHb; simp only [AHeap.next_alloc,n1]
  have kb : ∀ b,b < H.next→Hb.cells b = H.cells b:=fun b hb => by subst hHb; rw [c_alloc_ne (by omega),k1 b hb]
  have cb:=congrArg (fun h => AHeap.cells h (H.next + 1)) hHb
  simp -implicitDefEqProofs (maxDischargeDepth:=12) only [WW,List.replicate,Option.some_or,s_conv,e_conv,s_slc3,e_cut3,e_cut3n,e_bns,e_bnn,e_splice,if_true,if_false,ite_true,ite_false,true_or,ne_eq,seval,h_putc,beq_self_eq_true,eq_self,exists_eq_left,exists_eq_left',n1] at cb
  replace cb:=cb.symm
  clear hHb
  rw [n1]
  refine wA_appQ pitchC (H0:=H) hA (y:=⟨(s : Int),a,fq - 1⟩) (r:=_) (g:=[]) (fun b hb => kb b (hlt b hb)) rfl (asrc_one cb rfl) ⟨rfl,rfl⟩ Apart.nil_right (by rw [l_of]; omega) ?_
  intro v' H8 fp' q1 q2 q3 q4 q5 q6
  simp -implicitDefEqProofs (maxDischargeDepth:=12) only [WW,List.replicate,Option.some_or,s_conv,e_conv,s_slc3,e_cut3,e_cut3n,e_bns,e_bnn,e_splice,if_true,if_false,ite_true,ite_false,true_or,ne_eq,seval,h_putc,beq_self_eq_true,eq_self,exists_eq_left,exists_eq_left',q5,q6,e2]
  refine ⟨r - 1,by omega,s + 1,v',L' ++ [⟨(s : Int),a,fq - 1⟩],fp',by omega,by rw [of_cons (by simp)]; rw [l_of] at q1; exact q1,fun q hq => ?_,.inr ⟨by rw [List.length_append,hdup]; rfl,s,by omega,d2⟩,⟨fun b hb => ?_,by omega,fun b hb => ?_⟩,ex_x rfl⟩
  · rcases List.mem_append.1 hq with h | h
    · exact hL' q h
    · rw [List.mem_singleton.1 h]
      refine ⟨d3,?_⟩
      show 12 * (fq - 1 + 1) + semi (s : Int) + a = n
      omega
  · rcases q4 b hb with h | h | h
    · exact hF1 b h
    · simp at h
    · omega
  · rw [q3 b (fun h => by have:=hF1 b h; omega) (by omega),kb b (by omega),hF3 b hb]
end
end Go.Hem
namespace Go.Hem
noncomputable section
theorem pitch_put {H : AHeap} {v : AV} {s : Sl Pitch} {fp : List Nat} (h : AccQ PitchC 3 H v s fp) {i : Nat} {x : Pitch} (hx : s.l[i]? = some x) :
    ∃ b cap cs,v = .slice b 0 s.l.length cap 3∧H.cells b = some cs∧i * 3 + 3 ≤ cs.length∧(cs.drop (i * 3)).take 3 = x.enc.cells∧b ∈ fp ∧
      ∀ y : Pitch,∃ fp',AccQ PitchC 3 (H.put b (some (.cells (splice cs (i * 3) y.enc.cells)))) v (some (s.l.set i y)) fp'∧∀ c ∈ fp',c ∈ fp:=by
  obtain ⟨b,cap,cs,r,g,e1,e2,e3,e4,e5,e6,e7,e8,e9⟩:=h.at_ pitchC hx
  obtain ⟨rfl,rfl⟩:=e5
  refine ⟨b,cap,cs,e1,e2,e3,e4,e6,fun y => ?_⟩
  obtain ⟨fp',a1,a2⟩:=e9 (H.put b (some (.cells (splice cs (i * 3) y.enc.cells)))) y.enc.cells y [] ⟨rfl,rfl⟩ (by rw [h_put_self e2]) (fun c _ _ hc => c_put_ne hc) (fun c hc => .inl hc)
  exact ⟨fp',a1,fun c hc => (a2 c hc).elim (fun h => by simp at h) id⟩
theorem callee71 (args : List AV) : acallee prog 71 args = some (.call 71 args):=by kernel_rfl
theorem cmp_pv (p q : Pitch) : Pv prog polS 71 [p.enc,q.enc] (.sc (.int .i64 (IntKind.i64.wrap (p.pos - q.pos)))):=by
  refine Pv_of' ok71 (by simp only [AV.closedBs,Pitch.enc_closed,Bool.and_self]) ?_
  simp -implicitDefEqProofs (maxDischargeDepth:=12) only [wpF,cf71,WW,List.replicate,Option.some_or,s_conv,e_conv,s_slc3,e_cut3,e_cut3n,e_bns,e_bnn,e_splice,if_true,if_false,ite_true,ite_false,true_or,ne_eq,seval,h_putc,beq_self_eq_true,eq_self,exists_eq_left,exists_eq_left',p.enc_eq,q.enc_eq]
  rw [← p.enc_eq]
  refine wA_pure rfl (pos_pv p) ?_
  simp -implicitDefEqProofs (maxDischargeDepth:=12) only [WW,List.replicate,Option.some_or,s_conv,e_conv,s_slc3,e_cut3,e_cut3n,e_bns,e_bnn,e_splice,if_true,if_false,ite_true,ite_false,true_or,ne_eq,seval,h_putc,beq_self_eq_true,eq_self,exists_eq_left,exists_eq_left',p.enc_eq,q.enc_eq]
  rw [← q.enc_eq]
  refine wA_pure rfl (pos_pv q) ?_
  simp -implicitDefEqProofs (maxDischargeDepth:=12) only [WW,List.replicate,Option.some_or,s_conv,e_conv,s_slc3,e_cut3,e_cut3n,e_bns,e_bnn,e_splice,if_true,if_false,ite_true,ite_false,true_or,ne_eq,seval,h_putc,beq_self_eq_true,eq_self,exists_eq_left,exists_eq_left',p.enc_eq,q.enc_eq]
  exact frz_sc
def SortPost (P : Pitch→Prop) (H : AHeap) (v : AV) (n : Nat) (fp : List Nat) (o : Out) (H' : AHeap) : Prop :=
  o = .val (.tup [])∧∃ L' fp',AccQ PitchC 3 H' v (some L') fp'∧L'.length = n∧(∀ q ∈ L',P q)∧(∀ b,b ∉ fp→b < H.next→H'.cells b = H.cells b)∧(∀ b ∈ fp',b ∈ fp)∧H.next ≤ H'.next
theorem ins_ok {P : Pitch→Prop} {L : List Pitch} (hn : L.length ≤ 12) (hL : ∀ q ∈ L,P q) {H0 : AHeap} {v : AV} {fp : List Nat} (hA : AccQ PitchC 3 H0 v (some L) fp) :
    Ev prog polS (.call 91 [v,.sc (.int .i64 0),.sc (.int .i64 L.length),.func (.func 71) [] []]) H0 (SortPost P H0 v L.length fp):=by
  refine (wpF_ok ok91 (Q:=fun v' H' => v' = .tup []∧∃ L' fp',AccQ PitchC 3 H' v (some L') fp'∧L'.length = L.length∧(∀ q ∈ L',P q)∧(∀ b,b ∉ fp→b < H0.next→H'.cells b = H0.cells b)∧(∀ b ∈ fp',b ∈ fp)∧H0.next ≤ H'.next) ?_).mono ?_
  rotate_left
  · rintro o H' ⟨v',rfl,rfl,h⟩; exact ⟨rfl,h⟩
  have e0 : IntKind.i64.wrap (0 + 1) = ((1 : Nat) : Int):=by decide
  simp -implicitDefEqProofs (maxDischargeDepth:=12) only [wpF,cf91,WW,List.replicate,Option.some_or,s_conv,e_conv,s_slc3,e_cut3,e_cut3n,e_bns,e_bnn,e_splice,if_true,if_false,ite_true,ite_false,true_or,ne_eq,seval,h_putc,beq_self_eq_true,eq_self,exists_eq_left,exists_eq_left',e0]
  generalize hn' : L.length = n at hn
  refine wp_loop (Inv:=fun k t H => ∃ (i : Nat) (L' : List Pitch) (fp' : List Nat),1 ≤ i∧i + k = max n 1∧AccQ PitchC 3 H v (some L') fp'∧L'.length = n∧(∀ q ∈ L',P q)∧(∀ b,b ∉ fp→b < H0.next→H.cells b = H0.cells b)∧(∀ b ∈ fp',b ∈ fp)∧H0.next ≤ H.next ∧
    ∃ y : Nat→AV,t = [v,.sc (.int .i64 0),.sc (.int .i64 n),.func (.func 71) [] [],y 4,y 5,y 6,y 7,.sc (.int .i64 i),y 9,y 10,y 11,y 12,y 13,y 14,y 15,y 16,y 17,y 18,y 19,y 20,y 21,y 22,y 23,y 24,y 25,y 26,y 27,y 28,y 29,y 30,y 31,y 32,y 33,y 34,y 35,y 36,y 37,y 38,y 39,y 40,y 41,y 42,y 43,y 44,y 45,y 46,y 47,y 48,y 49,y 50,y 51,y 52]) (k:=max n 1 - 1) ?_
    ⟨1,L,fp,Nat.le_refl _,by omega,hA,hn',hL,fun _ _ _ => rfl,fun _ h => h,Nat.le_refl _,ex_x rfl⟩
  clear hA hL hn' L
  rintro k t H ⟨i,L',fp',hi1,hi,hA,hl,hL,hK,hfp,hN,y,rfl⟩
  by_cases c1 : (i : Int) < (n : Int)
  rotate_left
  · simp -implicitDefEqProofs (maxDischargeDepth:=12) only [WW,List.replicate,Option.some_or,s_conv,e_conv,s_slc3,e_cut3,e_cut3n,e_bns,e_bnn,e_splice,if_true,if_false,ite_true,ite_false,true_or,ne_eq,seval,h_putc,beq_self_eq_true,eq_self,exists_eq_left,exists_eq_left',c1]
    exact ⟨.tup [],rfl,rfl,L',fp',hA,hl,hL,hK,hfp,hN⟩
  have e2 : IntKind.i64.wrap ((i : Int) + 1) = ((i + 1 : Nat) : Int):=by rw [w64 (by omega) (by omega)]; omega
  simp -implicitDefEqProofs (maxDischargeDepth:=12) only [WW,List.replicate,Option.some_or,s_conv,e_conv,s_slc3,e_cut3,e_cut3n,e_bns,e_bnn,e_splice,if_true,if_false,ite_true,ite_false,true_or,ne_eq,seval,h_putc,beq_self_eq_true,eq_self,exists_eq_left,exists_eq_left',c1]
  refine wp_loopY 2 (Inv:=fun k2 t H => ∃ (L' : List Pitch) (fp' : List Nat),k2 ≤ i∧AccQ PitchC 3 H v (some L') fp'∧L'.length = n∧(∀ q ∈ L',P q)∧(∀ b,b ∉ fp→b < H0.next→H.cells b = H0.cells b)∧(∀ b ∈ fp',b ∈ fp)∧H0.next ≤ H.next ∧
      ∃ y : Nat→AV,t = [v,.sc (.int .i64 0),.sc (.int .i64 n),.func (.func 71) [] [],y 4,y 5,y 6,y 7,.sc (.int .i64 i),.sc (.int .i64 k2),y 10,y 11,y 12,y 13,y 14,y 15,y 16,y 17,y 18,y 19,y 20,y 21,y 22,y 23,y 24,y 25,y 26,y 27,y 28,y 29,y 30,y 31,y 32,y 33,y 34,y 35,y 36,y 37,y 38,y 39,y 40,y 41,y 42,y 43,y 44,y 45,y 46,y 47,y 48,y 49,y 50,y 51,y 52])
    (Ex:=fun t H => ∃ (L' : List Pitch) (fp' : List Nat),AccQ PitchC 3 H v (some L') fp'∧L'.length = n∧(∀ q ∈ L',P q)∧(∀ b,b ∉ fp→b < H0.next→H.cells b = H0.cells b)∧(∀ b ∈ fp',b ∈ fp)∧H0.next ≤ H.next ∧
      ∃ y : Nat→AV,t = [v,.sc (.int .i64 0),.sc (.int .i64 n),.func (.func 71) [] [],y 4,y 5,y 6,y 7,.sc (.int .i64 i),y 9,y 10,y 11,y 12,y 13,y 14,y 15,y 16,y 17,y 18,y 19,y 20,y 21,y 22,y 23,y 24,y 25,y 26,y 27,y 28,y 29,y 30,y 31,y 32,y 33,y 34,y 35,y 36,y 37,y 38,y 39,y 40,y 41,y 42,y 43,y 44,y 45,y 46,y 47,y 48,y 49,y 50,y 51,y 52]) (k:=i) ?_ ?_
    ⟨L',fp',Nat.le_refl _,hA,hl,hL,hK,hfp,hN,ex_x rfl⟩
  rotate_left
  · rintro t H ⟨L',fp',hA,hl,hL,hK,hfp,hN,y,rfl⟩
    simp -implicitDefEqProofs (maxDischargeDepth:=12) only [WW,List.replicate,Option.some_or,s_conv,e_conv,s_slc3,e_cut3,e_cut3n,e_bns,e_bnn,e_splice,if_true,if_false,ite_true,ite_false,true_or,ne_eq,seval,h_putc,beq_self_eq_true,eq_self,exists_eq_left,exists_eq_left',e2]
    exact ⟨k - 1,by omega,i + 1,L',fp',by omega,by omega,hA,hl,hL,hK,hfp,hN,ex_x rfl⟩
  clear hA hl hL hK hfp hN y fp' L' H
  rintro k2 t H ⟨L',fp',hk2,hA,hl,hL,hK,hfp,hN,y,rfl⟩
  cases k2 with
  | zero =>
    simp -implicitDefEqProofs (maxDischargeDepth:=12) only [WW,List.replicate,Option.some_or,s_conv,e_conv,s_slc3,e_cut3,e_cut3n,e_bns,e_bnn,e_splice,if_true,if_false,ite_true,ite_false,true_or,ne_eq,seval,h_putc,beq_self_eq_true,eq_self,exists_eq_left,exists_eq_left',Int.ofNat_zero]
    exact ⟨L',fp',hA,hl,hL,hK,hfp,hN,ex_x rfl⟩
  | succ j =>
    obtain ⟨p,hp⟩ : ∃ q,L'[j + 1]? = some q:=⟨_,List.getElem?_eq_getElem (by omega)⟩
    obtain ⟨q,hq⟩ : ∃ q,L'[j]? = some q:=⟨_,List.getElem?_eq_getElem (by omega)⟩
    have ej : IntKind.i64.wrap (((j + 1 : Nat) : Int) - 1) = (j : Int):=by rw [w64 (by omega) (by omega)]; omega
    have j0 : (0 : Int) < ((j + 1 : Nat) : Int):=by omega
    obtain ⟨b,cap,cs,a1,a2,a3,a4,a5,a6⟩:=pitch_put hA (i:=j + 1) (x:=p) (by rw [l_some]; exact hp)
    obtain ⟨b',cap',cs',b1,b2,b3,b4,b5,_⟩:=pitch_put hA (i:=j) (x:=q) (by rw [l_some]; exact hq)
    rw [l_some,hl] at a1 b1
    rw [a1] at b1
    simp only [AV.slice.injEq,true_and,and_true] at b1
    obtain ⟨rfl,rfl⟩:=b1
    rw [a2,Option.some.injEq] at b2
    subst b2
    subst a1
    simp only [p.enc_eq,q.enc_eq,c_agg] at a4 b4
    have jn : j + 1 < n:=by omega
    have jn' : j < n:=by omega
    simp -implicitDefEqProofs (maxDischargeDepth:=12) only [WW,List.replicate,Option.some_or,s_conv,e_conv,s_slc3,e_cut3,e_cut3n,e_bns,e_bnn,if_true,if_false,ite_true,ite_false,true_or,ne_eq,seval,beq_self_eq_true,eq_self,exists_eq_left,exists_eq_left',j0,ej,jn,jn',a2,a3,a4,b3,b4,e_callf,callee71]
    rw [← p.enc_eq,← q.enc_eq]
    refine wA_pure rfl (cmp_pv p q) ?_
    by_cases c2 : IntKind.i64.wrap (p.pos - q.pos) < 0
    rotate_left
    · simp -implicitDefEqProofs (maxDischargeDepth:=12) only [WW,List.replicate,Option.some_or,s_conv,e_conv,s_slc3,e_cut3,e_cut3n,e_bns,e_bnn,if_true,if_false,ite_true,ite_false,true_or,ne_eq,seval,beq_self_eq_true,eq_self,exists_eq_left,exists_eq_left',c2]
      exact ⟨L',fp',hA,hl,hL,hK,hfp,hN,ex_x rfl⟩
    obtain ⟨f1,u1,u2⟩:=a6 q
    obtain ⟨b',cap',cs',t1,t2,t3,t4,t5,t6⟩:=pitch_put u1 (i:=j) (x:=q) (by rw [l_some,l_some,List.getElem?_set_ne (by omega)]; exact hq)
    simp only [l_some,List.length_set,hl,AV.slice.injEq,true_and,and_true] at t1
    obtain ⟨rfl,rfl⟩:=t1
    rw [h_put_self a2,Option.some.injEq] at t2
    subst t2
    obtain ⟨f2,w1,w2⟩:=t6 p
    have cb : ∀ z,(H.put b (some (.cells z))).cells b = some z:=fun z => h_put_self a2
    simp only [l_some,p.enc_eq,q.enc_eq,c_agg] at w1 t3
    have sl : (splice cs ((j + 1) * 3) [AV.sc (.int .i64 q.step),.sc (.int .i64 q.alter),.sc (.int .i64 q.octave)]).length = cs.length:=splice_len a3
    simp -implicitDefEqProofs (maxDischargeDepth:=12) only [WW,List.replicate,Option.some_or,s_conv,e_conv,s_slc3,e_cut3,e_cut3n,e_bns,e_bnn,if_true,if_false,ite_true,ite_false,true_or,ne_eq,seval,beq_self_eq_true,eq_self,exists_eq_left,exists_eq_left',c2,ej,jn,jn',a2,a3,a4,b3,b4,cb,sl]
    refine ⟨j,by omega,_,f2,by omega,w1,by rw [List.length_set,List.length_set,hl],fun z hz => ?_,fun c h1 h2 => ?_,fun c hc => hfp c (u2 c (w2 c hc)),by omega,ex_x rfl⟩
    · rcases List.mem_or_eq_of_mem_set hz with hz | rfl
      · rcases List.mem_or_eq_of_mem_set hz with hz | rfl
        · exact hL z hz
        · exact hL _ (List.mem_of_getElem? hq)
      · exact hL _ (List.mem_of_getElem? hp)
    · have hb : c ≠ b:=fun e => h1 (by rw [e]; exact hfp b a5)
      rw [c_put_ne hb,c_put_ne hb]
      exact hK c h1 h2
end
end Go.Hem
namespace Go.Hem
noncomputable section
def okInt : XR AV→Bool
  | .ok (.sc (.int .i64 _)) => true
  | _ => false
theorem okInt_spec {r : XR AV} (h : okInt r = true) : ∃ e,r = .ok (.sc (.int .i64 e)):=by
  unfold okInt at h
  split at h
  · exact ⟨_,rfl⟩
  · cases h
theorem len_run : ((List.range 6).all fun n => okInt (xPure (X prog polS memo0 1000) 90 [.sc (.int .u64 (n : Nat))])) = true:=by decide +kernel
theorem len_pv {n : Nat} (h : n ≤ 5) : ∃ e,Pv prog polS 90 [.sc (.int .u64 (n : Nat))] (.sc (.int .i64 e)):=by
  have:=List.all_eq_true.1 len_run n (by simp; omega)
  obtain ⟨e,he⟩:=okInt_spec this
  exact ⟨e,pv_of_x memo0_ok rfl he⟩
theorem pdq_ok {P : Pitch→Prop} {L : List Pitch} (hn : L.length ≤ 12) (hL : ∀ q ∈ L,P q) {H0 : AHeap} {v : AV} {fp : List Nat} (hA : AccQ PitchC 3 H0 v (some L) fp) (e : Int) :
    Ev prog polS (.call 89 [v,.sc (.int .i64 0),.sc (.int .i64 L.length),.sc (.int .i64 e),.func (.func 71) [] []]) H0 (SortPost P H0 v L.length fp):=by
  refine (wpF_ok ok89 (Q:=fun v' H' => v' = .tup []∧∃ L' fp',AccQ PitchC 3 H' v (some L') fp'∧L'.length = L.length∧(∀ q ∈ L',P q)∧(∀ b,b ∉ fp→b < H0.next→H'.cells b = H0.cells b)∧(∀ b ∈ fp',b ∈ fp)∧H0.next ≤ H'.next) ?_).mono ?_
  rotate_left
  · rintro o H' ⟨v',rfl,rfl,h⟩; exact ⟨rfl,h⟩
  have e0 : IntKind.i64.wrap ((L.length : Int) - 0) = (L.length : Int):=by rw [w64 (by omega) (by omega)]; omega
  have l12 : (L.length : Int) ≤ 12:=by omega
  simp -implicitDefEqProofs (maxDischargeDepth:=12) only [wpF,cf89,WW,List.replicate,Option.some_or,s_conv,e_conv,s_slc3,e_cut3,e_cut3n,e_bns,e_bnn,e_splice,if_true,if_false,ite_true,ite_false,true_or,ne_eq,seval,h_putc,beq_self_eq_true,eq_self,exists_eq_left,exists_eq_left']
  refine wp_loop (Inv:=fun k t H => H = H0∧∃ y : Nat→AV,t = [v,.sc (.int .i64 0),.sc (.int .i64 L.length),.sc (.int .i64 e),.func (.func 71) [] [],y 5,y 6,y 7,y 8,y 9,y 10,y 11,y 12,y 13,y 14,y 15,y 16,y 17,y 18,y 19,y 20,y 21,y 22,y 23,y 24,y 25,y 26,y 27,y 28,y 29,y 30,y 31,y 32,y 33,y 34,y 35,y 36,y 37,y 38,y 39,y 40,y 41,y 42,y 43,y 44,y 45,y 46,y 47,y 48,y 49,y 50,y 51,y 52,y 53,y 54,y 55,y 56,y 57,y 58,y 59,y 60,y 61,y 62,y 63,y 64,y 65,y 66,y 67,y 68,y 69,y 70,y 71,y 72,y 73,y 74,y 75,y 76,y 77,y 78,y 79,y 80,y 81,y 82,y 83,y 84,y 85,y 86,y 87,y 88,y 89,y 90,y 91,y 92,y 93,y 94,y 95,y 96,y 97,y 98,y 99,y 100,y 101,y 102,y 103,y 104,y 105,y 106,y 107,y 108,y 109,y 110,y 111,y 112,y 113,y 114,y 115,y 116,y 117,y 118,y 119,y 120,y 121,y 122,y 123,y 124,y 125,y 126,y 127,y 128,y 129,y 130,y 131,y 132,y 133,y 134,y 135,y 136,y 137,y 138,y 139,y 140,y 141,y 142,y 143,y 144,y 145,y 146,y 147]) (k:=1) ?_ ⟨rfl,ex_x rfl⟩
  rintro k t H ⟨rfl,y,rfl⟩
  simp -implicitDefEqProofs (maxDischargeDepth:=12) only [WW,List.replicate,Option.some_or,s_conv,e_conv,s_slc3,e_cut3,e_cut3n,e_bns,e_bnn,e_splice,if_true,if_false,ite_true,ite_false,true_or,ne_eq,seval,h_putc,beq_self_eq_true,eq_self,exists_eq_left,exists_eq_left',e0,l12]
  refine wA_call rfl ((ins_ok hn hL hA).mono ?_)
  rintro o H' ⟨rfl,L',fp',h⟩
  refine ⟨_,rfl,?_⟩
  simp -implicitDefEqProofs (maxDischargeDepth:=12) only [WW,List.replicate,Option.some_or,s_conv,e_conv,s_slc3,e_cut3,e_cut3n,e_bns,e_bnn,e_splice,if_true,if_false,ite_true,ite_false,true_or,ne_eq,seval,h_putc,beq_self_eq_true,eq_self,exists_eq_left,exists_eq_left']
  exact ⟨.tup [],rfl,rfl,L',fp',h⟩
theorem sort_ok {P : Pitch→Prop} {L : List Pitch} (hn : L.length ≤ 5) (hL : ∀ q ∈ L,P q) {H0 : AHeap} {v : AV} {fp : List Nat} (hA : AccQ PitchC 3 H0 v (some L) fp) :
    Ev prog polS (.call 70 [v,.func (.func 71) [] []]) H0 (SortPost P H0 v L.length fp):=by
  refine (wpF_ok ok70 (Q:=fun v' H' => v' = .tup []∧∃ L' fp',AccQ PitchC 3 H' v (some L') fp'∧L'.length = L.length∧(∀ q ∈ L',P q)∧(∀ b,b ∉ fp→b < H0.next→H'.cells b = H0.cells b)∧(∀ b ∈ fp',b ∈ fp)∧H0.next ≤ H'.next) ?_).mono ?_
  rotate_left
  · rintro o H' ⟨v',rfl,rfl,h⟩; exact ⟨rfl,h⟩
  have hl:=hA.length.1
  rw [l_some] at hl
  obtain ⟨e,he⟩:=len_pv hn
  have eu : IntKind.u64.wrap (L.length : Int) = (L.length : Int):=by
    have : L.length = 0 ∨ L.length = 1 ∨ L.length = 2 ∨ L.length = 3 ∨ L.length = 4 ∨ L.length = 5:=by omega
    rcases this with h | h | h | h | h | h <;> rw [h] <;> decide
  simp -implicitDefEqProofs (maxDischargeDepth:=12) only [wpF,cf70,WW,List.replicate,Option.some_or,s_conv,e_conv,s_slc3,e_cut3,e_cut3n,e_bns,e_bnn,e_splice,if_true,if_false,ite_true,ite_false,true_or,ne_eq,seval,h_putc,beq_self_eq_true,eq_self,exists_eq_left,exists_eq_left',hl,eu]
  refine wA_pure rfl he ?_
  simp -implicitDefEqProofs (maxDischargeDepth:=12) only [WW,List.replicate,Option.some_or,s_conv,e_conv,s_slc3,e_cut3,e_cut3n,e_bns,e_bnn,e_splice,if_true,if_false,ite_true,ite_false,true_or,ne_eq,seval,h_putc,beq_self_eq_true,eq_self,exists_eq_left,exists_eq_left']
  refine wA_call rfl ((pdq_ok (by omega) hL hA e).mono ?_)
  rintro o H' ⟨rfl,L',fp',h⟩
  refine ⟨_,rfl,?_⟩
  simp -implicitDefEqProofs (maxDischargeDepth:=12) only [WW,List.replicate,Option.some_or,s_conv,e_conv,s_slc3,e_cut3,e_cut3n,e_bns,e_bnn,e_splice,if_true,if_false,ite_true,ite_false,true_or,ne_eq,seval,h_putc,beq_self_eq_true,eq_self,exists_eq_left,exists_eq_left']
  exact ⟨.tup [],rfl,rfl,L',fp',h⟩
theorem enh_no (n : Int) (h : n < 0 ∨ 127 < n) (H0 : AHeap) : Ev prog polS (.call 69 [.sc (.int .i64 n)]) H0 fun o H' => o = .val (.tup [.sc .nils,.sc (.int .i64 2)]):=by
  refine (wpF_ok ok69 (Q:=fun v' H' => v' = .tup [.sc .nils,.sc (.int .i64 2)]) ?_).mono ?_
  rotate_left
  · rintro o H' ⟨v',rfl,rfl⟩; rfl
  by_cases c1 : n < 0
  · simp -implicitDefEqProofs (maxDischargeDepth:=12) only [wpF,cf69,WW,List.replicate,Option.some_or,s_conv,e_conv,s_slc3,e_cut3,e_cut3n,e_bns,e_bnn,e_splice,if_true,if_false,ite_true,ite_false,true_or,ne_eq,seval,h_putc,beq_self_eq_true,eq_self,exists_eq_left,exists_eq_left',c1]
  · have c2 : 127 < n:=by omega
    simp -implicitDefEqProofs (maxDischargeDepth:=12) only [wpF,cf69,WW,List.replicate,Option.some_or,s_conv,e_conv,s_slc3,e_cut3,e_cut3n,e_bns,e_bnn,e_splice,if_true,if_false,ite_true,ite_false,true_or,ne_eq,seval,h_putc,beq_self_eq_true,eq_self,exists_eq_left,exists_eq_left',c1,c2]
theorem Pv_exR {P : Program} {pol : Pol} {g : FuncId} {cf : CF} (hf : compF P g = some cf) {args : List AV} (hc : AV.closedBs args = true) {R : AV→Prop} (h : wpF P pol cf args {} fun v H' => ∃ u,R u∧Frz v H' u) : ∃ u,R u∧Pv P pol g args u:=by
  obtain ⟨n,o,H',h1,v,rfl,u,hu,H1,h2,h3⟩:=wpF_ok hf h
  exact ⟨u,hu,hc,n,_,H',H1,h1,h2,h3⟩
def Spelt (n : Int) (u : AV) : Prop:=(∃ L : List Pitch,L ≠ []∧L.length ≤ 5∧(∀ q ∈ L,Has n q)∧u = .tup [slm Pitch.enc (some L),.sc (.int .i64 0)]) ∨ u = .tup [.sc .nils,.sc (.int .i64 18)]
theorem frz_none : ∀ {H : AHeap},Frz (.tup [.sc .nils,.sc (.int .i64 18)]) H (.tup [.sc .nils,.sc (.int .i64 18)]):=fun {H} => frz_tup (I:=true) (d:=2) (fp:=[]) OwnX.scal (by decide)
theorem spelled_pv (n : Int) : ∃ u,Spelt n u∧Pv prog polS 42 [.sc (.int .i64 n)] u:=by
  refine Pv_exR ok42 rfl ?_
  have ef : ∀ (x : AV) t,aev (x :: t) (.func 71) = .func (.func 71) [] []:=fun _ _ => rfl
  by_cases c : 0 ≤ n∧n ≤ 127
  rotate_left
  · simp -implicitDefEqProofs (maxDischargeDepth:=12) only [wpF,cf42,WW,List.replicate,Option.some_or,s_conv,e_conv,s_slc3,e_cut3,e_cut3n,e_bns,e_bnn,e_splice,if_true,if_false,ite_true,ite_false,true_or,ne_eq,seval,h_putc,beq_self_eq_true,eq_self,exists_eq_left,exists_eq_left']
    refine wA_call rfl ((enh_no n (by omega) _).mono ?_)
    rintro o H' rfl
    refine ⟨_,rfl,?_⟩
    simp -implicitDefEqProofs (maxDischargeDepth:=12) only [WW,List.replicate,Option.some_or,s_conv,e_conv,s_slc3,e_cut3,e_cut3n,e_bns,e_bnn,e_splice,if_true,if_false,ite_true,ite_false,true_or,ne_eq,seval,h_putc,beq_self_eq_true,eq_self,exists_eq_left,exists_eq_left']
    exact ⟨_,.inr rfl,frz_none⟩
  simp -implicitDefEqProofs (maxDischargeDepth:=12) only [wpF,cf42,WW,List.replicate,Option.some_or,s_conv,e_conv,s_slc3,e_cut3,e_cut3n,e_bns,e_bnn,e_splice,if_true,if_false,ite_true,ite_false,true_or,ne_eq,seval,h_putc,beq_self_eq_true,eq_self,exists_eq_left,exists_eq_left']
  refine wA_call rfl ((enh_ok n c.1 c.2 _).mono ?_)
  rintro o H1 ⟨v,L,fp,rfl,hA,hL,hl,hF⟩
  refine ⟨_,rfl,?_⟩
  have hlen:=hA.length.1
  have hvo:=hA.one
  rw [l_of] at hlen
  by_cases c0 : (L.length : Int) = 0
  · simp -implicitDefEqProofs (maxDischargeDepth:=12) only [WW,List.replicate,Option.some_or,s_conv,e_conv,s_slc3,e_cut3,e_cut3n,e_bns,e_bnn,e_splice,if_true,if_false,ite_true,ite_false,true_or,ne_eq,seval,h_putc,beq_self_eq_true,eq_self,exists_eq_left,exists_eq_left',hlen,eq_true c0]
    exact ⟨_,.inr rfl,frz_none⟩
  simp -implicitDefEqProofs (maxDischargeDepth:=12) only [WW,List.replicate,Option.some_or,s_conv,e_conv,s_slc3,e_cut3,e_cut3n,e_bns,e_bnn,e_splice,if_true,if_false,ite_true,ite_false,true_or,ne_eq,seval,h_putc,beq_self_eq_true,eq_self,exists_eq_left,exists_eq_left',hlen,c0]
  simp only [ef]
  rw [of_cons (by intro h; subst h; simp at c0)] at hA
  refine wA_call rfl ((sort_ok hl hL hA).mono ?_)
  rintro o H2 ⟨rfl,L',fp',hA2,hl2,hL2,_,_,_⟩
  refine ⟨_,rfl,?_⟩
  simp -implicitDefEqProofs (maxDischargeDepth:=12) only [WW,List.replicate,Option.some_or,s_conv,e_conv,s_slc3,e_cut3,e_cut3n,e_bns,e_bnn,e_splice,if_true,if_false,ite_true,ite_false,true_or,ne_eq,seval,h_putc,beq_self_eq_true,eq_self,exists_eq_left,exists_eq_left',hvo.1,hvo.2]
  obtain ⟨f,o1,o2⟩:=hA2.own pitchC
  exact ⟨_,.inl ⟨L',fun h => by subst h; simp at hl2; omega,by omega,hL2,rfl⟩,frz_tup o1 (by decide)⟩
end
end Go.Hem
namespace Go.Hem
noncomputable section
theorem callee43 (args : List AV) : acallee prog 43 args = some (.call 43 args):=by kernel_rfl
theorem callee46 (args : List AV) : acallee prog 46 args = some (.call 46 args):=by kernel_rfl
theorem far_ok (q : Pitch) {H : AHeap} {a : Nat} {z : Int} (ha : H.cells a = some [.sc (.int .i64 z)]) : Ev prog polS (.call 43 [q.enc,.ptr a 0]) H fun o H' => ∃ e : Int,o = .val (.sc (.int .i64 e))∧Keep H.next H H'∧H.next ≤ H'.next:=by
  refine (wpF_ok ok43 (Q:=fun v H' => ∃ e : Int,v = .sc (.int .i64 e)∧Keep H.next H H'∧H.next ≤ H'.next) ?_).mono ?_
  rotate_left
  · rintro o H' ⟨v,rfl,e,rfl,h⟩; exact ⟨e,rfl,h⟩
  have ha2:=h_lt ha
  have na : ¬ a = H.next:=by omega
  simp -implicitDefEqProofs (maxDischargeDepth:=12) only [wpF,cf43,WW,List.replicate,Option.some_or,s_conv,e_conv,s_slc3,e_cut3,e_cut3n,e_bns,e_bnn,e_splice,if_true,if_false,ite_true,ite_false,true_or,ne_eq,seval,h_putc,beq_self_eq_true,eq_self,exists_eq_left,exists_eq_left',q.enc_eq,ha,na]
  rw [← q.enc_eq]
  refine wA_pure rfl (pos_pv q) ?_
  simp -implicitDefEqProofs (maxDischargeDepth:=12) only [WW,List.replicate,Option.some_or,s_conv,e_conv,s_slc3,e_cut3,e_cut3n,e_bns,e_bnn,e_splice,if_true,if_false,ite_true,ite_false,true_or,ne_eq,seval,h_putc,beq_self_eq_true,eq_self,exists_eq_left,exists_eq_left',q.enc_eq,ha,na]
  rw [← q.enc_eq]
  refine wA_pure rfl (pos_pv q) ?_
  simp -implicitDefEqProofs (maxDischargeDepth:=12) only [WW,List.replicate,Option.some_or,s_conv,e_conv,s_slc3,e_cut3,e_cut3n,e_bns,e_bnn,e_splice,if_true,if_false,ite_true,ite_false,true_or,ne_eq,seval,h_putc,beq_self_eq_true,eq_self,exists_eq_left,exists_eq_left',q.enc_eq,ha,na]
  exact ⟨_,rfl,(by repeat (first | exact Keep.refl | refine Keep.put (by (try simp only [AHeap.next_alloc,AHeap.next_put]); omega) ?_ | refine Keep.alloc (by (try simp only [AHeap.next_alloc,AHeap.next_put]); omega) ?_)),by omega⟩
theorem cmp46_ok (p q : Pitch) {H : AHeap} {f a : Nat} {z : Int} (hf : H.cells f = some [.func (.func 43) [] [.ptr a 0]]) (ha : H.cells a = some [.sc (.int .i64 z)]) : Ev prog polS (.call 46 [p.enc,q.enc,.ptr f 0]) H fun o H' => ∃ e : Int,o = .val (.sc (.int .i64 e))∧Keep H.next H H'∧H.next ≤ H'.next:=by
  refine (wpF_ok ok46 (Q:=fun v H' => ∃ e : Int,v = .sc (.int .i64 e)∧Keep H.next H H'∧H.next ≤ H'.next) ?_).mono ?_
  rotate_left
  · rintro o H' ⟨v,rfl,e,rfl,h⟩; exact ⟨e,rfl,h⟩
  have ha2:=h_lt ha
  have hf2:=h_lt hf
  have nf : ¬ f = H.next:=by omega
  have nf1 : ¬ f = H.next + 1:=by omega
  have m1 : ¬ H.next = H.next + 1:=by omega
  simp -implicitDefEqProofs (maxDischargeDepth:=12) only [wpF,cf46,WW,List.replicate,Option.some_or,s_conv,e_conv,s_slc3,e_cut3,e_cut3n,e_bns,e_bnn,e_splice,if_true,if_false,ite_true,ite_false,true_or,ne_eq,seval,h_putc,beq_self_eq_true,eq_self,exists_eq_left,exists_eq_left',p.enc_eq,q.enc_eq,hf,nf,nf1,m1,e_callf,callee43]
  rw [← p.enc_eq]
  generalize hH1 : AHeap.alloc (AHeap.alloc H _) _ = H1
  have n1 : H1.next = H.next + 2:=by subst hH1; simp only [AHeap.next_alloc]
  have k1 : ∀ b,b < H.next→H1.cells b = H.cells b:=fun b hb => by subst hH1; rw [c_alloc_ne (by simp only [AHeap.next_alloc]; omega),c_alloc_ne (by omega)]
  have cq:=congrArg (fun h => AHeap.cells h (H.next + 1)) hH1
  simp -implicitDefEqProofs (maxDischargeDepth:=12) only [WW,List.replicate,Option.some_or,s_conv,e_conv,s_slc3,e_cut3,e_cut3n,e_bns,e_bnn,e_splice,if_true,if_false,ite_true,ite_false,true_or,ne_eq,seval,h_putc,beq_self_eq_true,eq_self,exists_eq_left,exists_eq_left'] at cq
  replace cq:=cq.symm
  clear hH1
  refine wA_call rfl ((far_ok p ((k1 a ha2).trans ha)).mono ?_)
  rintro o H2 ⟨e1,rfl,hK,hN⟩
  refine ⟨_,rfl,?_⟩
  have cq2:=(hK (H.next + 1) (by omega)).trans cq
  have f1:=(k1 f hf2).trans hf
  have f2:=(hK f (by omega)).trans f1
  simp -implicitDefEqProofs (maxDischargeDepth:=12) only [WW,List.replicate,Option.some_or,s_conv,e_conv,s_slc3,e_cut3,e_cut3n,e_bns,e_bnn,e_splice,if_true,if_false,ite_true,ite_false,true_or,ne_eq,seval,h_putc,beq_self_eq_true,eq_self,exists_eq_left,exists_eq_left',cq,cq2,f1,f2,e_callf,callee43]
  rw [← q.enc_eq]
  refine wA_call rfl ((far_ok q ((hK a (by omega)).trans ((k1 a ha2).trans ha))).mono ?_)
  rintro o H3 ⟨e3,rfl,hK3,hN3⟩
  refine ⟨_,rfl,?_⟩
  simp -implicitDefEqProofs (maxDischargeDepth:=12) only [WW,List.replicate,Option.some_or,s_conv,e_conv,s_slc3,e_cut3,e_cut3n,e_bns,e_bnn,e_splice,if_true,if_false,ite_true,ite_false,true_or,ne_eq,seval,h_putc,beq_self_eq_true,eq_self,exists_eq_left,exists_eq_left']
  exact ⟨_,rfl,fun b hb => by rw [hK3 b (by omega),hK b (by omega),k1 b hb],by omega⟩
theorem minF_ok {L : List Pitch} (hne : L ≠ []) (hl : L.length ≤ 5) {H0 : AHeap} {f a : Nat} {z : Int} (hf : H0.cells f = some [.func (.func 43) [] [.ptr a 0]]) (ha : H0.cells a = some [.sc (.int .i64 z)]) :
    Ev prog polS (.call 45 [slm Pitch.enc (some L),.func (.func 46) [] [.ptr f 0]]) H0 fun o H' => ∃ q ∈ L,o = .val q.enc∧Keep H0.next H0 H'∧H0.next ≤ H'.next:=by
  refine (wpF_ok ok45 (Q:=fun v H' => ∃ q ∈ L,v = q.enc∧Keep H0.next H0 H'∧H0.next ≤ H'.next) ?_).mono ?_
  rotate_left
  · rintro o H' ⟨v,rfl,q,hq,rfl,h⟩; exact ⟨q,hq,rfl,h⟩
  obtain ⟨q0,hq0⟩ : ∃ q,L[0]? = some q:=⟨_,List.getElem?_eq_getElem (by cases L; exact absurd rfl hne; simp)⟩
  have l0 : ¬ (L.length : Int) < 1:=by cases L; exact absurd rfl hne; simp only [List.length_cons]; omega
  have hf2:=h_lt hf
  have ha2:=h_lt ha
  have e0 : (0 : Nat) * 3 = 0:=rfl
  have l1 : 1 ≤ L.length:=by omega
  simp -implicitDefEqProofs (maxDischargeDepth:=12) only [wpF,cf45,WW,List.replicate,Option.some_or,s_conv,e_conv,s_slc3,e_cut3,e_cut3n,e_bns,e_bnn,e_splice,if_true,if_false,ite_true,ite_false,true_or,ne_eq,seval,h_putc,beq_self_eq_true,eq_self,exists_eq_left,exists_eq_left',l0,hq0,q0.enc_eq]
  generalize hq : H0.next = q at hf2 ha2
  refine wp_loop (Inv:=fun k t H => ∃ (i : Nat) (m : Pitch),1 ≤ i∧i + k = L.length∧m ∈ L∧H.cells q = some [.sc (.int .i64 0),.sc (.int .i64 0),.sc (.int .i64 0)]∧H.cells (q + 1) = some m.enc.cells∧Keep q H0 H∧q + 2 ≤ H.next ∧
    ∃ y : Nat→AV,t = [slm Pitch.enc (some L),.func (.func 46) [] [.ptr f 0],y 2,y 3,.ptr q 0,.ptr (q + 1) 0,.sc (.int .i64 i),y 7,y 8,y 9,y 10,y 11,y 12,y 13,y 14,y 15,y 16,y 17,y 18,y 19,y 20,y 21,y 22,y 23,y 24,y 25,y 26,y 27,y 28,y 29,y 30,y 31,y 32]) (k:=L.length - 1) ?_
    ⟨1,q0,Nat.le_refl _,by omega,List.mem_of_getElem? hq0,?_,?_,fun b hb => ?_,?_,ex_x rfl⟩
  rotate_left
  · simp -implicitDefEqProofs (maxDischargeDepth:=12) only [WW,List.replicate,Option.some_or,s_conv,e_conv,s_slc3,e_cut3,e_cut3n,e_bns,e_bnn,e_splice,if_true,if_false,ite_true,ite_false,true_or,ne_eq,seval,h_putc,beq_self_eq_true,eq_self,exists_eq_left,exists_eq_left',hq,nq1]
  · simp -implicitDefEqProofs (maxDischargeDepth:=12) only [WW,List.replicate,Option.some_or,s_conv,e_conv,s_slc3,e_cut3,e_cut3n,e_bns,e_bnn,e_splice,if_true,if_false,ite_true,ite_false,true_or,ne_eq,seval,h_putc,beq_self_eq_true,eq_self,exists_eq_left,exists_eq_left',hq]; rfl
  · rw [c_put_ne (by omega),c_alloc_ne (by simp only [AHeap.next_alloc]; omega),c_alloc_ne (by omega)]
  · simp only [AHeap.next_put,AHeap.next_alloc]; omega
  rintro k t H ⟨i,m,hi1,hi,hm,p0,p1,hK,hN,y,rfl⟩
  simp only [m.enc_eq,c_agg] at p1
  by_cases c1 : (i : Int) < (L.length : Int)
  rotate_left
  · simp -implicitDefEqProofs (maxDischargeDepth:=12) only [WW,List.replicate,Option.some_or,s_conv,e_conv,s_slc3,e_cut3,e_cut3n,e_bns,e_bnn,e_splice,if_true,if_false,ite_true,ite_false,true_or,ne_eq,seval,h_putc,beq_self_eq_true,eq_self,exists_eq_left,exists_eq_left',c1,p0,p1]
    exact ⟨m,hm,rfl,fun b hb => by rw [c_put_ne (by omega),hK b hb],by omega⟩
  obtain ⟨x,hx⟩ : ∃ x,L[i]? = some x:=⟨_,List.getElem?_eq_getElem (by omega)⟩
  have e2 : IntKind.i64.wrap ((i : Int) + 1) = ((i + 1 : Nat) : Int):=by rw [w64 (by omega) (by omega)]; omega
  simp -implicitDefEqProofs (maxDischargeDepth:=12) only [WW,List.replicate,Option.some_or,s_conv,e_conv,s_slc3,e_cut3,e_cut3n,e_bns,e_bnn,e_splice,if_true,if_false,ite_true,ite_false,true_or,ne_eq,seval,h_putc,beq_self_eq_true,eq_self,exists_eq_left,exists_eq_left',c1,hx,x.enc_eq,p1,e_callf,callee46]
  rw [← m.enc_eq,← x.enc_eq]
  refine wA_call rfl ((cmp46_ok x m (f:=f) (a:=a) (z:=z) ((hK f hf2).trans hf) ((hK a ha2).trans ha)).mono ?_)
  rintro o H2 ⟨e,rfl,hK2,hN2⟩
  refine ⟨_,rfl,?_⟩
  have r0:=(hK2 q (by omega)).trans p0
  have r1:=(hK2 (q + 1) (by omega)).trans p1
  have rk : Keep q H0 H2:=fun b hb => by rw [hK2 b (by omega),hK b hb]
  by_cases c2 : e < 0
  · simp -implicitDefEqProofs (maxDischargeDepth:=12) only [WW,List.replicate,Option.some_or,s_conv,e_conv,s_slc3,e_cut3,e_cut3n,e_bns,e_bnn,if_true,if_false,ite_true,ite_false,true_or,ne_eq,seval,beq_self_eq_true,eq_self,exists_eq_left,exists_eq_left',c2,hx,x.enc_eq,r1,e2]
    refine ⟨k - 1,by omega,i + 1,x,by omega,by omega,List.mem_of_getElem? hx,?_,?_,fun b hb => ?_,?_,ex_x rfl⟩
    · rw [c_put_ne (by omega)]; exact r0
    · rw [h_put_self r1]; rfl
    · rw [c_put_ne (by omega)]; exact rk b hb
    · omega
  · simp -implicitDefEqProofs (maxDischargeDepth:=12) only [WW,List.replicate,Option.some_or,s_conv,e_conv,s_slc3,e_cut3,e_cut3n,e_bns,e_bnn,if_true,if_false,ite_true,ite_false,true_or,ne_eq,seval,beq_self_eq_true,eq_self,exists_eq_left,exists_eq_left',c2,e2]
    exact ⟨k - 1,by omega,i + 1,m,by omega,by omega,hm,r0,r1,rk,by omega,ex_x rfl⟩
def Moved (n : Int) (u : AV) : Prop:=(∃ q : Pitch,Has n q∧u = .tup [q.enc,.sc (.int .i64 0)]) ∨ u = .tup [Pitch.enc ⟨0,0,0⟩,.sc (.int .i64 18)]
theorem frz_pitch {H : AHeap} {q : Pitch} {e : Int} : Frz (.tup [.agg q.enc.cells,.sc (.int .i64 e)]) H (.tup [q.enc,.sc (.int .i64 e)]) :=
  frz_tup (I:=true) (own_closed (d:=3) (cs:=q.enc.cells) (Pitch.enc_plain _)) (by decide)
theorem trans_pv (p : Pitch) (i : Interval) (h : p.ok) (hi : i.ok) : ∃ u,Moved (p.num + i.semitones) u∧Pv prog polS 24 [p.enc,i.enc] u:=by
  refine Pv_exR ok24 (by simp only [AV.closedBs,Pitch.enc_closed,Interval.enc_closed,Bool.and_self]) ?_
  obtain ⟨u,hu,hv⟩:=spelled_pv (p.num + i.semitones)
  simp -implicitDefEqProofs (maxDischargeDepth:=12) only [wpF,cf24,WW,List.replicate,Option.some_or,s_conv,e_conv,s_slc3,e_cut3,e_cut3n,e_bns,e_bnn,e_splice,if_true,if_false,ite_true,ite_false,true_or,ne_eq,seval,h_putc,beq_self_eq_true,eq_self,exists_eq_left,exists_eq_left',p.enc_eq,i.enc_eq]
  rw [← p.enc_eq,← i.enc_eq]
  refine wA_pure rfl (goal_pv p i h hi) ?_
  simp -implicitDefEqProofs (maxDischargeDepth:=12) only [WW,List.replicate,Option.some_or,s_conv,e_conv,s_slc3,e_cut3,e_cut3n,e_bns,e_bnn,e_splice,if_true,if_false,ite_true,ite_false,true_or,ne_eq,seval,h_putc,beq_self_eq_true,eq_self,exists_eq_left,exists_eq_left',tup3]
  refine wA_pure rfl hv ?_
  rcases hu with ⟨L,hne,hl,hL,rfl⟩ | rfl
  rotate_left
  · simp -implicitDefEqProofs (maxDischargeDepth:=12) only [WW,List.replicate,Option.some_or,s_conv,e_conv,s_slc3,e_cut3,e_cut3n,e_bns,e_bnn,e_splice,if_true,if_false,ite_true,ite_false,true_or,ne_eq,seval,h_putc,beq_self_eq_true,eq_self,exists_eq_left,exists_eq_left']
    exact ⟨_,.inr rfl,frz_pitch (q:=⟨0,0,0⟩)⟩
  simp -implicitDefEqProofs (maxDischargeDepth:=12) only [WW,List.replicate,Option.some_or,s_conv,e_conv,s_slc3,e_cut3,e_cut3n,e_bns,e_bnn,e_splice,if_true,if_false,ite_true,ite_false,true_or,ne_eq,seval,h_putc,beq_self_eq_true,eq_self,exists_eq_left,exists_eq_left']
  refine wA_call rfl ((minF_ok hne hl (f:=4) (a:=3) (z:=IntKind.i64.wrap (p.pos + i.steps)) ?_ ?_).mono ?_)
  · simp -implicitDefEqProofs (maxDischargeDepth:=12) only [WW,List.replicate,Option.some_or,s_conv,e_conv,s_slc3,e_cut3,e_cut3n,e_bns,e_bnn,e_splice,if_true,if_false,ite_true,ite_false,true_or,ne_eq,seval,h_putc,beq_self_eq_true,eq_self,exists_eq_left,exists_eq_left']
  · simp -implicitDefEqProofs (maxDischargeDepth:=12) only [WW,List.replicate,Option.some_or,s_conv,e_conv,s_slc3,e_cut3,e_cut3n,e_bns,e_bnn,e_splice,if_true,if_false,ite_true,ite_false,true_or,ne_eq,seval,h_putc,beq_self_eq_true,eq_self,exists_eq_left,exists_eq_left']
  rintro o H2 ⟨q,hq,rfl,hK,hN⟩
  refine ⟨_,rfl,?_⟩
  have r2:=hK 2 (by simp only [AHeap.next_put,AHeap.next_alloc]; decide)
  simp -implicitDefEqProofs (maxDischargeDepth:=12) only [WW,List.replicate,Option.some_or,s_conv,e_conv,s_slc3,e_cut3,e_cut3n,e_bns,e_bnn,e_splice,if_true,if_false,ite_true,ite_false,true_or,ne_eq,seval,h_putc,beq_self_eq_true,eq_self,exists_eq_left,exists_eq_left'] at r2
  simp -implicitDefEqProofs (maxDischargeDepth:=12) only [WW,List.replicate,Option.some_or,s_conv,e_conv,s_slc3,e_cut3,e_cut3n,e_bns,e_bnn,e_splice,if_true,if_false,ite_true,ite_false,true_or,ne_eq,seval,h_putc,beq_self_eq_true,eq_self,exists_eq_left,exists_eq_left',q.enc_eq,r2]
  exact ⟨_,.inl ⟨q,hL q hq,rfl⟩,frz_pitch⟩
end
end Go.Hem
namespace Go.Hem
noncomputable section
theorem tr_ex (p : Pitch) (i : Interval) : ∃ qe : Pitch × Int,p.ok→i.ok→((qe.2 = 0∧Has (p.num + i.semitones) qe.1) ∨ qe.2 = 18)∧Pv prog polS 24 [p.enc,i.enc] (.tup [qe.1.enc,.sc (.int .i64 qe.2)]):=by
  by_cases h : p.ok∧i.ok
  · obtain ⟨u,hu,hv⟩:=trans_pv p i h.1 h.2
    rcases hu with ⟨q,hq,rfl⟩ | rfl
    · exact ⟨(q,0),fun _ _ => ⟨.inl ⟨rfl,hq⟩,hv⟩⟩
    · exact ⟨(⟨0,0,0⟩,18),fun _ _ => ⟨.inr rfl,hv⟩⟩
  · exact ⟨(⟨0,0,0⟩,18),fun h1 h2 => absurd ⟨h1,h2⟩ h⟩
def trQ (i : Interval) (p : Pitch) : Pitch:=(tr_ex p i).choose.1
def trE (i : Interval) (p : Pitch) : Int:=(tr_ex p i).choose.2
theorem tr_pv {p : Pitch} {i : Interval} (hp : p.ok) (hi : i.ok) : Pv prog polS 24 [p.enc,i.enc] (.tup [(trQ i p).enc,.sc (.int .i64 (trE i p))]):=((tr_ex p i).choose_spec hp hi).2
theorem tr_has {p : Pitch} {i : Interval} (hp : p.ok) (hi : i.ok) (h : trE i p = 0) : Has (p.num + i.semitones) (trQ i p):=by
  rcases ((tr_ex p i).choose_spec hp hi).1 with h2 | h2
  · exact h2.2
  · have : trE i p = 18:=h2
    rw [this] at h; cases h
theorem tr_18 {p : Pitch} {i : Interval} (hp : p.ok) (hi : i.ok) (h : trE i p ≠ 0) : trE i p = 18:=by
  rcases ((tr_ex p i).choose_spec hp hi).1 with h2 | h2
  · exact absurd h2.1 h
  · exact h2
theorem splice_pre {cs a rest : List AV} {o : Nat} (h : (cs.drop (o + a.length)).take rest.length = rest) : splice cs o (a ++ rest) = splice cs o a:=by
  unfold splice
  have hr : cs.drop (o + a.length) = rest ++ cs.drop (o + (a ++ rest).length):=by
    conv => lhs; rw [← List.take_append_drop rest.length (cs.drop (o + a.length)),h]
    rw [List.drop_drop,List.length_append,Nat.add_assoc]
  rw [hr]; simp
structure PitchRow {α : Type} (f : α→AV) (get : α→Pitch) (put : Pitch→α→α) : Prop where
  row : RowQ 5 3 f (ClosedQ f)
  tail : ∀ x,∃ a b,∀ p,(f (put p x)).cells = p.enc.cells ++ [a,b]
  same : ∀ x,put (get x) x = x
theorem moved_put {α : Type} {f : α→AV} {get : α→Pitch} {put : Pitch→α→α} (hf : PitchRow f get put) {H : AHeap} {v : AV} {s : Sl α} {fp : List Nat} (h : AccQ (ClosedQ f) 5 H v s fp) {j : Nat} {x : α} (hx : s.l[j]? = some x) :
    ∃ b cap cs,v = .slice b 0 s.l.length cap 5∧H.cells b = some cs∧j * 5 + 5 ≤ cs.length∧(cs.drop (j * 5)).take 3 = (get x).enc.cells∧b ∈ fp ∧
      ∀ (p : Pitch) H',H'.cells b = some (splice cs (j * 5) p.enc.cells)→(∀ c ∈ fp,c ≠ b→H'.cells c = H.cells c)→∃ fp',AccQ (ClosedQ f) 5 H' v (some (s.l.set j (put p x))) fp'∧∀ c ∈ fp',c ∈ fp:=by
  obtain ⟨b,cap,cs,r,g,e1,e2,e3,e4,e5,e6,e7,e8,e9⟩:=h.at_ hf.row hx
  obtain ⟨e5,rfl⟩:=e5
  obtain ⟨ta,tb,ht⟩:=hf.tail x
  have hr : r = (get x).enc.cells ++ [ta,tb]:=by
    rw [e5]
    conv => lhs; rw [← hf.same x]
    exact ht _
  have l3 : ∀ p : Pitch,p.enc.cells.length = 3:=fun _ => rfl
  refine ⟨b,cap,cs,e1,e2,e3,?_,e6,fun p H' h1 h2 => ?_⟩
  · have h3 : r.take 3 = (get x).enc.cells:=by rw [hr]; rfl
    rw [← h3,← e4,List.take_take]; rfl
  · obtain ⟨fp',a1,a2⟩:=e9 H' (p.enc.cells ++ [ta,tb]) (put p x) [] ⟨(ht p).symm,rfl⟩ (by
      rw [h1,splice_pre]
      have:=congrArg (List.drop 3) e4
      rw [hr,List.drop_take,List.drop_drop] at this
      rw [l3]
      exact this) (fun c hc _ hb => h2 c hc hb) (fun c hc => .inl hc)
    exact ⟨fp',a1,fun c hc => (a2 c hc).elim (fun h => by simp at h) id⟩
theorem headC : RowQ 5 3 Head.enc (ClosedQ Head.enc):=closedQ row_Head (fun _ => rfl) Head.enc_plain fun _ => ⟨_,rfl⟩
theorem graceC : RowQ 5 3 Grace.enc (ClosedQ Grace.enc):=closedQ row_Grace (fun _ => rfl) Grace.enc_plain fun _ => ⟨_,rfl⟩
theorem headP : PitchRow Head.enc Head.pitch fun p h => { h with pitch:=p }:=⟨headC,fun x => ⟨.sc (.bool x.tied),.sc (.int .i64 x.shown),fun p => rfl⟩,fun x => rfl⟩
theorem graceP : PitchRow Grace.enc Grace.pitch fun p h => { h with pitch:=p }:=⟨graceC,fun x => ⟨.sc (.int .i64 x.log),.sc (.bool x.slash),fun p => rfl⟩,fun x => rfl⟩
theorem acc_graces {I : Bool} {H : AHeap} {v : AV} {s : Sl Grace} {fp : List Nat} (h : AccX I 1 5 Grace.enc H v s fp) : AccQ (ClosedQ Grace.enc) 5 H v s fp:=by
  rcases h with h | ⟨b,cap,cs,rest,fp',l,h1,h2,h3,h4,h5,h6,h7,h8,h9⟩
  · exact .inl h
  · obtain ⟨rfl,rfl⟩:=own_scs h7 fun u hu => by
      obtain ⟨x,_,hx⟩:=List.mem_flatMap.1 hu
      simp only [x.enc_eq,c_agg,List.mem_cons,List.not_mem_nil,or_false] at hx
      rcases hx with rfl | rfl | rfl | rfl | rfl <;> exact ⟨_,rfl⟩
    exact .inr ⟨b,cap,_,rest,[],l,h1,h2,h3,h4,h6,rows_closed,h8,h9⟩
structure Copy (x : Note) (H0 H : AHeap) (hv gv lv : AV) (fh fg fl : List Nat) : Prop where
  h : AccQ HeadQ 5 H hv x.heads fh
  g : AccQ (ClosedQ Grace.enc) 5 H gv x.graces fg
  l : Own 3 H lv (slm Syllable.enc x.lyrics) fl
  l1 : lv.one = true
  hg : Apart fh fg
  hl : Apart fh fl
  gl : Apart fg fl
  ge : ∀ b ∈ fh ++ (fg ++ fl),H0.next ≤ b
  lt : ∀ b ∈ fh ++ (fg ++ fl),b < H.next
  kp : Keep H0.next H0 H
  nx : H0.next ≤ H.next
theorem clone2_ok (x : Note) (hx : x.tame) (H0 : AHeap) : Ev prog polS (.call 26 [x.enc]) H0 fun o H' => ∃ hv gv lv fh fg fl,o = .val (.agg [.sc (.int .i64 x.at_),.sc (.int .i64 x.len),hv,gv,.sc (.int .i64 x.articulations),.sc (.int .i64 x.ornament),.sc (.int .i64 x.dynamic),lv])∧Copy x H0 H' hv gv lv fh fg fl:=by
  refine (wpF_ok ok26 (Q:=fun v H' => ∃ hv gv lv fh fg fl,v = .agg [.sc (.int .i64 x.at_),.sc (.int .i64 x.len),hv,gv,.sc (.int .i64 x.articulations),.sc (.int .i64 x.ornament),.sc (.int .i64 x.dynamic),lv]∧Copy x H0 H' hv gv lv fh fg fl) ?_).mono ?_
  rotate_left
  · rintro o H' ⟨v,rfl,hv,gv,lv,fh,fg,fl,rfl,h⟩; exact ⟨hv,gv,lv,fh,fg,fl,rfl,h⟩
  generalize hq : H0.next = q
  simp -implicitDefEqProofs (maxDischargeDepth:=12) only [wpF,cf26,WW,List.replicate,Option.some_or,s_conv,e_conv,s_slc3,e_cut3,e_cut3n,e_bns,e_bnn,e_splice,if_true,if_false,ite_true,ite_false,true_or,ne_eq,seval,h_putc,beq_self_eq_true,eq_self,exists_eq_left,exists_eq_left',x.enc_eq,nq1,mq1,addq,hq]
  generalize hH1 : AHeap.alloc (AHeap.alloc H0 _) _ = H1
  have n1 : H1.next = q + 2:=by subst hH1; simp only [AHeap.next_alloc,hq]
  have b0:=congrArg (fun H => AHeap.cells H q) hH1
  have b1:=congrArg (fun H => AHeap.cells H (q + 1)) hH1
  have kp : Keep q H0 H1:=by subst hH1; exact fun b hb => by rw [c_alloc_ne (by simp only [AHeap.next_alloc]; omega),c_alloc_ne (by omega)]
  simp -implicitDefEqProofs (maxDischargeDepth:=12) only [WW,List.replicate,Option.some_or,s_conv,e_conv,s_slc3,e_cut3,e_cut3n,e_bns,e_bnn,e_splice,if_true,if_false,ite_true,ite_false,true_or,ne_eq,seval,h_putc,beq_self_eq_true,eq_self,exists_eq_left,exists_eq_left',nq1,mq1,addq,hq] at b0 b1
  clear hH1
  replace b0:=b0.symm
  replace b1:=b1.symm
  refine wA_call rfl ((sclHead_ok x.heads hx.heads _).mono ?_)
  rintro o H2 ⟨hv,fh,rfl,hA,hF⟩
  refine ⟨_,rfl,?_⟩
  have hN1:=hF.2.1
  have c0:=(hF.2.2 q (by omega)).trans b0
  have c1:=(hF.2.2 (q + 1) (by omega)).trans b1
  simp -implicitDefEqProofs (maxDischargeDepth:=12) only [WW,List.replicate,Option.some_or,s_conv,e_conv,s_slc3,e_cut3,e_cut3n,e_bns,e_bnn,e_splice,if_true,if_false,ite_true,ite_false,true_or,ne_eq,seval,h_putc,beq_self_eq_true,eq_self,exists_eq_left,exists_eq_left',nq1,mq1,addq,b0,b1,c0,c1]
  refine wA_call rfl ((sclGrace_ok x.graces hx.graces _).mono ?_)
  rintro o H3 ⟨gv,fg,rfl,gA,gF⟩
  refine ⟨_,rfl,?_⟩
  have hN2:=gF.2.1
  have d0:=(gF.2.2 q (by omega)).trans c0
  have d1:=(gF.2.2 (q + 1) (by omega)).trans c1
  simp -implicitDefEqProofs (maxDischargeDepth:=12) only [WW,List.replicate,Option.some_or,s_conv,e_conv,s_slc3,e_cut3,e_cut3n,e_bns,e_bnn,e_splice,if_true,if_false,ite_true,ite_false,true_or,ne_eq,seval,h_putc,beq_self_eq_true,eq_self,exists_eq_left,exists_eq_left',nq1,mq1,addq,c0,c1,d0,d1]
  refine wA_call rfl ((sclSyllable_ok x.lyrics hx.lyrics _).mono ?_)
  rintro o H4 ⟨lv,fl,rfl,lA,lF⟩
  refine ⟨_,rfl,?_⟩
  have hN3:=lF.2.1
  have e0:=(lF.2.2 q (by omega)).trans d0
  have e1:=(lF.2.2 (q + 1) (by omega)).trans d1
  obtain ⟨T,tk⟩:=three_of hA hF gA gF lA lF
  have kp4 : Keep q H0 H4:=fun b hb => by rw [tk b (by omega),kp b hb]
  have tn:=T.lt
  simp -implicitDefEqProofs (maxDischargeDepth:=12) only [WW,List.replicate,Option.some_or,s_conv,e_conv,s_slc3,e_cut3,e_cut3n,e_bns,e_bnn,e_splice,if_true,if_false,ite_true,ite_false,true_or,ne_eq,seval,h_putc,beq_self_eq_true,eq_self,exists_eq_left,exists_eq_left',nq1,mq1,addq,d0,d1,e0,e1,hA.one,hA.cells,gA.one,gA.cells,lA.one,lA.cells]
  generalize hH5 : AHeap.put _ (q + 1) _ = H5
  have n5 : H5.next = H4.next:=by subst hH5; simp only [AHeap.next_put]
  have k5 : ∀ b,b ≠ q→b ≠ q + 1→H5.cells b = H4.cells b:=fun b h1 h2 => by subst hH5; simp only [c_put_ne h1,c_put_ne h2]
  have T5:=T.fr (H':=H5) (fun b hb => k5 b (by omega) (by omega)) (by omega)
  obtain ⟨f3,o3,k3⟩:=T5.l.own row_Syllable
  have hh:=acc_heads T5.h
  have hg:=acc_graces T5.g
  have l1:=hh.lt headQ
  have l2:=hg.lt graceC
  have l3:=OwnX.lt o3
  refine ⟨hv,gv,lv,fh,fg,f3,rfl,hh,hg,o3.up.mono (by decide),T5.l.one,T5.hg,fun b h1 h2 => T5.hl b h1 (k3 b h2),fun b h1 h2 => T5.gl b h1 (k3 b h2),fun b hb => ?_,fun b hb => ?_,fun b hb => ?_,by omega⟩
  · rcases mem3.1 hb with h | h | h
    · have:=T5.lh b h; omega
    · have:=T5.lg b h; omega
    · have:=T5.ll b (k3 b h); omega
  · rcases mem3.1 hb with h | h | h
    · exact l1 b h
    · exact l2 b h
    · exact l3 b h
  · rw [k5 b (by omega) (by omega),kp4 b (by omega)]
theorem callee40 (args : List AV) : acallee prog 40 args = some (.call 40 args):=by kernel_rfl
theorem move_ok {H : AHeap} {bh o qi qf : Nat} {cs : List AV} {p : Pitch} {i : Interval} {w : Bool} (hp : p.ok) (hi : i.ok) (hb : H.cells bh = some cs) (hc : (cs.drop o).take 3 = p.enc.cells) (hl : o + 3 ≤ cs.length) (h1 : H.cells qi = some i.enc.cells) (h2 : H.cells qf = some [.sc (.bool w)]) (n1 : bh ≠ qf) :
    Ev prog polS (.call 40 [.ptr bh o,.ptr qi 0,.ptr qf 0]) H fun o' H' => o' = .val (.tup [])∧H'.cells bh = some (splice cs o (trQ i p).enc.cells)∧H'.cells qf = some [.sc (.bool (w || decide (trE i p ≠ 0)))]∧(∀ b,b < H.next→b ≠ bh→b ≠ qf→H'.cells b = H.cells b)∧H.next ≤ H'.next:=by
  refine (wpF_ok ok40 (Q:=fun v H' => v = .tup []∧H'.cells bh = some (splice cs o (trQ i p).enc.cells)∧H'.cells qf = some [.sc (.bool (w || decide (trE i p ≠ 0)))]∧(∀ b,b < H.next→b ≠ bh→b ≠ qf→H'.cells b = H.cells b)∧H.next ≤ H'.next) ?_).mono ?_
  rotate_left
  · rintro o H' ⟨v,rfl,rfl,h⟩; exact ⟨rfl,h⟩
  have lb:=h_lt hb
  have li:=h_lt h1
  have lf:=h_lt h2
  have nb : ¬ bh = H.next:=by omega
  have ni : ¬ qi = H.next:=by omega
  have nf : ¬ qf = H.next:=by omega
  have nbf : ¬ qf = bh:=fun h => n1 h.symm
  simp only [p.enc_eq,i.enc_eq,c_agg] at hc h1
  simp -implicitDefEqProofs (maxDischargeDepth:=12) only [wpF,cf40,WW,List.replicate,Option.some_or,s_conv,e_conv,s_slc3,e_cut3,e_cut3n,e_bns,e_bnn,if_true,if_false,ite_true,ite_false,true_or,ne_eq,seval,beq_self_eq_true,eq_self,exists_eq_left,exists_eq_left',hb,hc,hl,h1,h_alloc,nb,ni]
  rw [← p.enc_eq,← i.enc_eq]
  refine wA_pure rfl (tr_pv hp hi) ?_
  generalize trQ i p = q
  generalize trE i p = e
  simp -implicitDefEqProofs (maxDischargeDepth:=12) only [WW,List.replicate,Option.some_or,s_conv,e_conv,s_slc3,e_cut3,e_cut3n,e_bns,e_bnn,if_true,if_false,ite_true,ite_false,true_or,ne_eq,seval,beq_self_eq_true,eq_self,exists_eq_left,exists_eq_left',q.enc_eq]
  generalize hH1 : AHeap.put _ H.next _ = H1
  have n1' : H1.next = H.next + 1:=by subst hH1; simp only [AHeap.next_put,AHeap.next_alloc]
  have k1 : ∀ b,b < H.next→H1.cells b = H.cells b:=fun b hb => by subst hH1; rw [c_put_ne (by omega),c_alloc_ne (by omega)]
  have cq:=congrArg (fun h => AHeap.cells h H.next) hH1
  simp -implicitDefEqProofs (maxDischargeDepth:=12) only [WW,List.replicate,Option.some_or,s_conv,e_conv,s_slc3,e_cut3,e_cut3n,e_bns,e_bnn,e_splice,if_true,if_false,ite_true,ite_false,true_or,ne_eq,seval,h_putc,beq_self_eq_true,eq_self,exists_eq_left,exists_eq_left'] at cq
  replace cq:=cq.symm
  clear hH1
  have b1:=(k1 bh lb).trans hb
  have f1:=(k1 qf lf).trans h2
  have cb : ∀ z,(H1.put bh (some (.cells z))).cells bh = some z:=fun z => h_put_self b1
  have cf : ∀ z,(H1.put bh (some (.cells z))).cells qf = H1.cells qf:=fun z => c_put_ne nbf
  have sp1 : ∀ a b : AV,splice [a] 0 [b] = [b]:=fun _ _ => rfl
  cases w with
  | true =>
    simp -implicitDefEqProofs (maxDischargeDepth:=12) only [WW,List.replicate,Option.some_or,s_conv,e_conv,s_slc3,e_cut3,e_cut3n,e_bns,e_bnn,if_true,if_false,ite_true,ite_false,true_or,ne_eq,seval,beq_self_eq_true,eq_self,exists_eq_left,exists_eq_left',cq,b1,hl,cf,f1,sp1]
    refine ⟨.tup [],rfl,rfl,?_,?_,fun b h1 h2 h3 => ?_,?_⟩
    · rw [c_put_ne n1,cb]
    · rw [h_put_self ((cf _).trans f1)]; rfl
    · rw [c_put_ne h3,c_put_ne h2,k1 b h1]
    · omega
  | false =>
    simp -implicitDefEqProofs (maxDischargeDepth:=12) only [WW,List.replicate,Option.some_or,s_conv,e_conv,s_slc3,e_cut3,e_cut3n,e_bns,e_bnn,if_true,if_false,ite_true,ite_false,true_or,ne_eq,seval,beq_self_eq_true,eq_self,exists_eq_left,exists_eq_left',cq,b1,hl,cf,f1,sp1]
    refine ⟨.tup [],rfl,rfl,?_,?_,fun b h1 h2 h3 => ?_,?_⟩
    · rw [c_put_ne n1,cb]
    · rw [h_put_self ((cf _).trans f1)]; rfl
    · rw [c_put_ne h3,c_put_ne h2,k1 b h1]
    · omega
end
end Go.Hem
namespace Go.Hem
noncomputable section
def trH (i : Interval) (h : Head) : Head:={ h with pitch:=trQ i h.pitch }
def trG (i : Interval) (h : Grace) : Grace:={ h with pitch:=trQ i h.pitch }
def Note.tr (i : Interval) (n : Note) : Note:={ n with heads:=n.heads.map (List.map (trH i)),graces:=n.graces.map (List.map (trG i)) }
def failH (i : Interval) (h : Head) : Bool:=decide (trE i h.pitch ≠ 0)
def failG (i : Interval) (h : Grace) : Bool:=decide (trE i h.pitch ≠ 0)
def failN (i : Interval) (n : Note) : Bool:=n.heads.l.any (failH i) || n.graces.l.any (failG i)
def Note.okP (n : Note) : Prop:=(∀ h ∈ n.heads.l,h.pitch.ok)∧(∀ g ∈ n.graces.l,g.pitch.ok)
theorem headsL_okP : ∀ {l : List Head} {q : Int},headsL q l = 0→∀ h ∈ l,h.pitch.ok
  | [],_,_,h,hh => by simp at hh
  | x :: l,q,k,h,hh => by
    simp only [headsL] at k
    by_cases c1 : wellE x = 0
    · rw [if_neg (by simpa using c1)] at k
      by_cases c3 : x.pitch.num ≤ q
      · rw [if_pos c3] at k; simp at k
      · rw [if_neg c3] at k
        rcases List.mem_cons.1 hh with rfl | hh
        · exact (wellE_ok c1).1
        · exact headsL_okP k h hh
    · rw [if_pos c1] at k; exact absurd k c1
theorem gracesL_okP : ∀ {l : List Grace},gracesL l = 0→∀ h ∈ l,h.pitch.ok
  | [],_,h,hh => by simp at hh
  | x :: l,k,h,hh => by
    simp only [gracesL] at k
    by_cases c1 : x.pitch.ok
    · rw [if_neg (by simpa using c1)] at k
      by_cases c3 : x.log < 1 ∨ 6 < x.log
      · rw [if_pos c3] at k; simp at k
      · rw [if_neg c3] at k
        rcases List.mem_cons.1 hh with rfl | hh
        · exact c1
        · exact gracesL_okP k h hh
    · rw [if_pos c1] at k; simp at k
theorem okP_of {n : Note} (h : chordE n = 0) : n.okP:=by
  obtain ⟨a,b,_⟩:=chordE_parts h
  unfold headsE at a
  unfold gracesE at b
  constructor
  · by_cases c1 : n.heads.l.length = 0
    · rw [if_pos c1] at a; simp at a
    rw [if_neg c1] at a
    by_cases c2 : 10 < n.heads.l.length
    · rw [if_pos c2] at a; simp at a
    rw [if_neg c2] at a
    exact headsL_okP a
  · by_cases c1 : 8 < n.graces.l.length
    · rw [if_pos c1] at b; simp at b
    rw [if_neg c1] at b
    exact gracesL_okP b
def trF (c : Clip) (i : Interval) : Bool:=c.notes.l.any (failN i)
def transE (c : Clip) (i : Interval) : Int:=if checkE c ≠ 0 then checkE c else if ¬ i.ok then 2 else if trF c i then 18 else 0
def transC (c : Clip) (i : Interval) : Clip:=if transE c i = 0 then ⟨c.len,Sl.of (c.notes.l.map (Note.tr i))⟩ else noClip
theorem graceC1 : RowQ 5 1 Grace.enc (ClosedQ Grace.enc) where
  row:=row_Grace
  len:=by rintro H r x g ⟨rfl,rfl⟩; rfl
  fr:=by rintro H H' r x g h _; exact h
  lt:=by rintro H r x g ⟨rfl,rfl⟩ b hb; simp at hb
  own:=by rintro H r x g ⟨rfl,rfl⟩; exact ⟨[],OwnL.scal rfl,fun _ h => h⟩
theorem transp_pv (c : Clip) (tc : c.tame) (i : Interval) : Pv prog polS 22 [c.enc,i.enc] (.tup [(transC c i).enc,.sc (.int .i64 (transE c i))]):=by
  refine Pv_of' ok22 (by simp only [AV.closedBs,Clip.enc_closed,Interval.enc_closed,Bool.and_self]) ?_
  unfold transC
  generalize hr : transE c i = r
  unfold transE at hr
  simp -implicitDefEqProofs (maxDischargeDepth:=12) only [wpF,cf22,WW,List.replicate,Option.some_or,s_conv,e_conv,s_slc3,e_cut3,e_cut3n,e_bns,e_bnn,e_splice,if_true,if_false,ite_true,ite_false,true_or,ne_eq,seval,h_putc,beq_self_eq_true,eq_self,exists_eq_left,exists_eq_left',c.enc_eq,i.enc_eq]
  rw [← c.enc_eq,← i.enc_eq]
  refine wA_pure rfl (check_pv c tc) ?_
  by_cases h1 : checkE c = 0
  rotate_left
  · rw [if_pos h1] at hr; subst hr
    simp -implicitDefEqProofs (maxDischargeDepth:=12) only [WW,List.replicate,Option.some_or,s_conv,e_conv,s_slc3,e_cut3,e_cut3n,e_bns,e_bnn,e_splice,if_true,if_false,ite_true,ite_false,true_or,ne_eq,seval,h_putc,beq_self_eq_true,eq_self,exists_eq_left,exists_eq_left',h1]
    exact frz_err
  rw [if_neg (by simpa using h1)] at hr
  simp -implicitDefEqProofs (maxDischargeDepth:=12) only [WW,List.replicate,Option.some_or,s_conv,e_conv,s_slc3,e_cut3,e_cut3n,e_bns,e_bnn,e_splice,if_true,if_false,ite_true,ite_false,true_or,ne_eq,seval,h_putc,beq_self_eq_true,eq_self,exists_eq_left,exists_eq_left',eq_true h1,i.enc_eq]
  rw [← i.enc_eq]
  refine wA_pure rfl (icheck_pv i) ?_
  by_cases hi : i.ok
  rotate_left
  · rw [if_pos hi] at hr; subst hr
    rw [if_neg hi]
    simp -implicitDefEqProofs (maxDischargeDepth:=12) only [WW,List.replicate,Option.some_or,s_conv,e_conv,s_slc3,e_cut3,e_cut3n,e_bns,e_bnn,e_splice,if_true,if_false,ite_true,ite_false,true_or,ne_eq,seval,h_putc,beq_self_eq_true,eq_self,exists_eq_left,exists_eq_left',c.enc_eq]
    exact frz_err
  rw [if_neg (by simpa using hi)] at hr
  rw [if_pos hi]
  have g:=good_of h1
  simp -implicitDefEqProofs (maxDischargeDepth:=12) only [WW,List.replicate,Option.some_or,s_conv,e_conv,s_slc3,e_cut3,e_cut3n,e_bns,e_bnn,e_splice,if_true,if_false,ite_true,ite_false,true_or,ne_eq,seval,h_putc,beq_self_eq_true,eq_self,exists_eq_left,exists_eq_left',c.enc_eq]
  refine wp_loop (Inv:=fun k t H => ∃ (n : Nat) (v : AV) (fp : List Nat),n + k = c.notes.l.length∧H.cells 1 = some i.enc.cells∧H.cells 2 = some [.sc (.int .i64 0),.sc .nils]∧H.cells 3 = some [.sc (.int .i64 c.len),v] ∧
    H.cells 4 = some [.sc (.bool ((c.notes.l.take n).any (failN i)))]∧AccQ NoteQ 8 H v (Sl.of ((c.notes.l.take n).map (Note.tr i))) fp∧(∀ b ∈ fp,5 ≤ b)∧5 ≤ H.next ∧
    ∃ y : Nat→AV,t = [c.enc,i.enc,.ptr 0 0,.ptr 1 0,.ptr 2 0,.sc (.int .i64 0),y 6,.ptr 3 0,.ptr 4 0,.func (.func 40) [] [.ptr 1 0,.ptr 4 0],y 10,y 11,y 12,y 13,y 14,y 15,y 16,y 17,y 18,y 19,y 20,y 21,y 22,y 23,y 24,y 25,y 26,y 27,y 28,slm Note.enc c.notes,.sc (.int .i64 c.notes.l.length),.sc (.int .i64 n),y 32,y 33,y 34,y 35,y 36,y 37,y 38,y 39,y 40,y 41,y 42,y 43,y 44,y 45,y 46,y 47,y 48,y 49,y 50,y 51,y 52,y 53,y 54,y 55,y 56,y 57,y 58,y 59,y 60,y 61,y 62,y 63,y 64,y 65,y 66,y 67,y 68,y 69,y 70,y 71,y 72,y 73,y 74]) (k:=c.notes.l.length) ?_
    ⟨0,_,[],by omega,?_,?_,?_,?_,accQ_none,by simp,?_,ex_x rfl⟩
  rotate_left
  · simp -implicitDefEqProofs (maxDischargeDepth:=12) only [WW,List.replicate,Option.some_or,s_conv,e_conv,s_slc3,e_cut3,e_cut3n,e_bns,e_bnn,e_splice,if_true,if_false,ite_true,ite_false,true_or,ne_eq,seval,h_putc,beq_self_eq_true,eq_self,exists_eq_left,exists_eq_left',i.enc_eq]
  · simp -implicitDefEqProofs (maxDischargeDepth:=12) only [WW,List.replicate,Option.some_or,s_conv,e_conv,s_slc3,e_cut3,e_cut3n,e_bns,e_bnn,e_splice,if_true,if_false,ite_true,ite_false,true_or,ne_eq,seval,h_putc,beq_self_eq_true,eq_self,exists_eq_left,exists_eq_left']
  · simp -implicitDefEqProofs (maxDischargeDepth:=12) only [WW,List.replicate,Option.some_or,s_conv,e_conv,s_slc3,e_cut3,e_cut3n,e_bns,e_bnn,e_splice,if_true,if_false,ite_true,ite_false,true_or,ne_eq,seval,h_putc,beq_self_eq_true,eq_self,exists_eq_left,exists_eq_left']
  · simp -implicitDefEqProofs (maxDischargeDepth:=12) only [WW,List.replicate,Option.some_or,s_conv,e_conv,s_slc3,e_cut3,e_cut3n,e_bns,e_bnn,e_splice,if_true,if_false,ite_true,ite_false,true_or,ne_eq,seval,h_putc,beq_self_eq_true,eq_self,exists_eq_left,exists_eq_left',List.any_nil]
  · simp only [AHeap.next_put,AHeap.next_alloc]; decide
  rintro k t H ⟨n,v,fp,hk,p1,p2,p3,p4,hA,hfp,hN,y,rfl⟩
  by_cases c1 : (n : Int) < (c.notes.l.length : Int)
  rotate_left
  · rw [List.take_of_length_le (by omega)] at p4 hA
    have hvo:=hA.one
    obtain ⟨f,o1,o2⟩:=hA.own noteQ
    have ht : c.notes.l.any (failN i) = trF c i:=rfl
    rw [ht] at p4
    cases hw : trF c i with
    | true =>
      rw [hw,if_pos rfl] at hr; subst hr
      rw [hw] at p4
      simp -implicitDefEqProofs (maxDischargeDepth:=12) only [WW,List.replicate,Option.some_or,s_conv,e_conv,s_slc3,e_cut3,e_cut3n,e_bns,e_bnn,e_splice,if_true,if_false,ite_true,ite_false,true_or,ne_eq,seval,h_putc,beq_self_eq_true,eq_self,exists_eq_left,exists_eq_left',c1,p1,p2,p3,p4]
      exact frz_err
    | false =>
      rw [hw,if_neg (by simp)] at hr; subst hr
      rw [hw] at p4
      simp -implicitDefEqProofs (maxDischargeDepth:=12) only [WW,List.replicate,Option.some_or,s_conv,e_conv,s_slc3,e_cut3,e_cut3n,e_bns,e_bnn,e_splice,if_true,if_false,ite_true,ite_false,true_or,ne_eq,seval,h_putc,beq_self_eq_true,eq_self,exists_eq_left,exists_eq_left',c1,p1,p2,p3,p4,hvo.1,hvo.2]
      refine frz_clip (c:=⟨c.len,Sl.of (c.notes.l.map (Note.tr i))⟩) (f:=f) ?_
      refine o1.frame fun q hq => ?_
      have:=hfp q (o2 q hq)
      exact c_put_ne (by omega)
  obtain ⟨x,hx⟩ : ∃ x,c.notes.l[n]? = some x:=⟨_,List.getElem?_eq_getElem (by omega)⟩
  have e2 : IntKind.i64.wrap ((n : Int) + 1) = ((n + 1 : Nat) : Int):=by rw [w64 (by omega) (by have:=tc.1; omega)]; omega
  have xm:=List.mem_of_getElem? hx
  have tx:=tc.2 x xm
  obtain ⟨okh,okg⟩:=okP_of (g.row.fit x xm).ok
  have hlt:=hA.lt noteQ
  simp -implicitDefEqProofs (maxDischargeDepth:=12) only [WW,List.replicate,Option.some_or,s_conv,e_conv,s_slc3,e_cut3,e_cut3n,e_bns,e_bnn,if_true,if_false,ite_true,ite_false,true_or,ne_eq,seval,beq_self_eq_true,eq_self,exists_eq_left,exists_eq_left',c1,hx,x.enc_eq]
  generalize hq : H.next = q at hN hlt
  generalize hH1 : AHeap.put _ q _ = H1
  have n1 : H1.next = q + 1:=by subst hH1; simp only [AHeap.next_put,AHeap.next_alloc,hq]
  have k1 : ∀ b,b < q→H1.cells b = H.cells b:=fun b hb => by subst hH1; rw [c_put_ne (by omega),c_alloc_ne (by omega)]
  have cq1:=congrArg (fun h => AHeap.cells h q) hH1
  simp -implicitDefEqProofs (maxDischargeDepth:=12) only [WW,List.replicate,Option.some_or,s_conv,e_conv,s_slc3,e_cut3,e_cut3n,e_bns,e_bnn,e_splice,if_true,if_false,ite_true,ite_false,true_or,ne_eq,seval,h_putc,beq_self_eq_true,eq_self,exists_eq_left,exists_eq_left',hq] at cq1
  replace cq1:=cq1.symm
  clear hH1
  simp -implicitDefEqProofs (maxDischargeDepth:=12) only [WW,List.replicate,Option.some_or,s_conv,e_conv,s_slc3,e_cut3,e_cut3n,e_bns,e_bnn,e_splice,if_true,if_false,ite_true,ite_false,true_or,ne_eq,seval,h_putc,beq_self_eq_true,eq_self,exists_eq_left,exists_eq_left',cq1]
  rw [← x.enc_eq]
  refine wA_call rfl ((clone2_ok x tx _).mono ?_)
  rintro o H2 ⟨hv,gv,lv,fh,fg,fl,rfl,C⟩
  refine ⟨_,rfl,?_⟩
  have cq2:=(C.kp q (by omega)).trans cq1
  have ho:=C.h.one.1
  have go:=C.g.one.1
  have lo:=C.l1
  have hN2:=C.nx
  have hlen:=C.h.length.1
  have glen:=C.g.length.1
  simp -implicitDefEqProofs (maxDischargeDepth:=12) only [WW,List.replicate,Option.some_or,s_conv,e_conv,s_slc3,e_cut3,e_cut3n,e_bns,e_bnn,e_splice,if_true,if_false,ite_true,ite_false,true_or,ne_eq,seval,h_putc,beq_self_eq_true,eq_self,exists_eq_left,exists_eq_left',cq2,ho,go,lo,hlen]
  generalize hH3 : AHeap.put H2 q _ = H3
  have n3 : H3.next = H2.next:=by subst hH3; simp only [AHeap.next_put]
  have k3 : ∀ b,b ≠ q→H3.cells b = H2.cells b:=fun b hb => by subst hH3; rw [c_put_ne hb]
  have cq3:=congrArg (fun h => AHeap.cells h q) hH3
  simp -implicitDefEqProofs (maxDischargeDepth:=12) only [WW,List.replicate,Option.some_or,s_conv,e_conv,s_slc3,e_cut3,e_cut3n,e_bns,e_bnn,e_splice,if_true,if_false,ite_true,ite_false,true_or,ne_eq,seval,h_putc,beq_self_eq_true,eq_self,exists_eq_left,exists_eq_left',cq2] at cq3
  replace cq3:=cq3.symm
  clear hH3
  have kq : ∀ b,b < q→H3.cells b = H.cells b:=fun b hb => by rw [k3 b (by omega),C.kp b (by omega),k1 b hb]
  have ge:=C.ge
  have lt:=C.lt
  have gq : ∀ b ∈ fh ++ (fg ++ fl),q < b∧b < H3.next:=fun b hb => by have:=ge b hb; have:=lt b hb; omega
  have hA3 : AccQ (ClosedQ Head.enc) 5 H3 hv x.heads fh:=C.h.fr headQ fun b hb => k3 b (by have:=gq b (mem3.2 (.inl hb)); omega)
  have gA3 : AccQ (ClosedQ Grace.enc) 5 H3 gv x.graces fg:=C.g.fr graceC fun b hb => k3 b (by have:=gq b (mem3.2 (.inr (.inl hb))); omega)
  have lA3 : Own 3 H3 lv (slm Syllable.enc x.lyrics) fl:=C.l.frame fun b hb => k3 b (by have:=gq b (mem3.2 (.inr (.inr hb))); omega)
  generalize hw0 : (c.notes.l.take n).any (failN i) = w0 at p4
  refine wp_loopY 2 (Inv:=fun k2 t H' => ∃ (j : Nat) (f' : List Nat),j + k2 = x.heads.l.length∧AccQ (ClosedQ Head.enc) 5 H' hv (x.heads.map (mapTo (trH i) j)) f'∧(∀ b ∈ f',b ∈ fh)∧H'.cells 4 = some [.sc (.bool (w0 || (x.heads.l.take j).any (failH i)))]∧(∀ b,b < H3.next→b ∉ fh→b ≠ 4→H'.cells b = H3.cells b)∧H3.next ≤ H'.next ∧
      ∃ y : Nat→AV,t = [c.enc,i.enc,.ptr 0 0,.ptr 1 0,.ptr 2 0,.sc (.int .i64 0),y 6,.ptr 3 0,.ptr 4 0,.func (.func 40) [] [.ptr 1 0,.ptr 4 0],y 10,.ptr q 0,y 12,y 13,y 14,y 15,y 16,y 17,y 18,y 19,y 20,y 21,y 22,y 23,y 24,y 25,y 26,y 27,y 28,slm Note.enc c.notes,.sc (.int .i64 c.notes.l.length),.sc (.int .i64 n),y 32,y 33,y 34,y 35,y 36,y 37,y 38,.sc (.int .i64 x.heads.l.length),.sc (.int .i64 j),y 41,y 42,y 43,y 44,y 45,y 46,y 47,y 48,y 49,y 50,y 51,y 52,y 53,y 54,y 55,y 56,y 57,y 58,y 59,y 60,y 61,y 62,y 63,y 64,y 65,y 66,y 67,y 68,y 69,y 70,y 71,y 72,y 73,y 74])
    (Ex:=fun t H' => ∃ (f' : List Nat),AccQ (ClosedQ Head.enc) 5 H' hv (x.heads.map (List.map (trH i))) f'∧(∀ b ∈ f',b ∈ fh)∧H'.cells 4 = some [.sc (.bool (w0 || x.heads.l.any (failH i)))]∧(∀ b,b < H3.next→b ∉ fh→b ≠ 4→H'.cells b = H3.cells b)∧H3.next ≤ H'.next ∧
      ∃ y : Nat→AV,t = [c.enc,i.enc,.ptr 0 0,.ptr 1 0,.ptr 2 0,.sc (.int .i64 0),y 6,.ptr 3 0,.ptr 4 0,.func (.func 40) [] [.ptr 1 0,.ptr 4 0],y 10,.ptr q 0,y 12,y 13,y 14,y 15,y 16,y 17,y 18,y 19,y 20,y 21,y 22,y 23,y 24,y 25,y 26,y 27,y 28,slm Note.enc c.notes,.sc (.int .i64 c.notes.l.length),.sc (.int .i64 n),y 32,y 33,y 34,y 35,y 36,y 37,y 38,y 39,y 40,y 41,y 42,y 43,y 44,y 45,y 46,y 47,y 48,y 49,y 50,y 51,y 52,y 53,y 54,y 55,y 56,y 57,y 58,y 59,y 60,y 61,y 62,y 63,y 64,y 65,y 66,y 67,y 68,y 69,y 70,y 71,y 72,y 73,y 74]) (k:=x.heads.l.length) ?_ ?_
    ⟨0,fh,by omega,?_,fun _ h => h,?_,fun _ _ _ _ => rfl,Nat.le_refl _,ex_x rfl⟩
  · clear y
    rintro k2 t H' ⟨j,f',hk2,hB,hf',q4,hst,hN',y,rfl⟩
    have sq:=(hst q (by omega) (fun h => by have:=(gq q (mem3.2 (.inl h))).1; omega) (by omega)).trans cq3
    have s1:=(hst 1 (by omega) (fun h => by have:=(gq 1 (mem3.2 (.inl h))).1; omega) (by omega)).trans ((kq 1 (by omega)).trans p1)
    by_cases d1 : (j : Int) < (x.heads.l.length : Int)
    rotate_left
    · have eA : x.heads.map (mapTo (trH i) j) = x.heads.map (List.map (trH i)):=by cases e : x.heads with
        | none => rfl
        | some l => rw [e,l_some] at d1; simp only [Option.map_some,Option.some.injEq]; exact mapTo_all (by omega)
      rw [eA] at hB
      rw [List.take_of_length_le (by omega)] at q4
      simp -implicitDefEqProofs (maxDischargeDepth:=12) only [WW,List.replicate,Option.some_or,s_conv,e_conv,s_slc3,e_cut3,e_cut3n,e_bns,e_bnn,if_true,if_false,ite_true,ite_false,true_or,ne_eq,seval,beq_self_eq_true,eq_self,exists_eq_left,exists_eq_left',d1]
      exact ⟨f',hB,hf',q4,hst,hN',ex_x rfl⟩
    obtain ⟨h,hj⟩ : ∃ y,x.heads.l[j]? = some y:=⟨_,List.getElem?_eq_getElem (by omega)⟩
    have e3 : IntKind.i64.wrap ((j : Int) + 1) = ((j + 1 : Nat) : Int):=by rw [w64 (by omega) (by have:=tx.heads; omega)]; omega
    have eh : ∀ j,x.heads.map (mapTo (trH i) j) = some (mapTo (trH i) j x.heads.l):=fun j => by cases e : x.heads with
      | none => rw [e] at hj; simp [Sl.l] at hj
      | some l => rfl
    rw [eh] at hB
    have jl : j < x.heads.l.length:=by omega
    obtain ⟨bh,cap,cs,a1,a2,a3,a4,a5,a6⟩:=moved_put headP hB (j:=j) (x:=h) (by rw [l_some]; exact mapTo_get hj)
    rw [l_some,mapTo_len] at a1
    subst a1
    have hBlt:=hB.lt headC
    have bq:=gq bh (mem3.2 (.inl (hf' bh a5)))
    simp -implicitDefEqProofs (maxDischargeDepth:=12) only [WW,List.replicate,Option.some_or,s_conv,e_conv,s_slc3,e_cut3,e_cut3n,e_bns,e_bnn,if_true,if_false,ite_true,ite_false,true_or,ne_eq,seval,beq_self_eq_true,eq_self,exists_eq_left,exists_eq_left',d1,sq,jl,e_callf,callee40]
    refine wA_call rfl ((move_ok (bh:=bh) (o:=j * 5) (qi:=1) (qf:=4) (okh h (List.mem_of_getElem? hj)) hi a2 a4 (by omega) s1 q4 (by omega)).mono ?_)
    rintro o H6 ⟨rfl,w1,w2,w3,w4⟩
    refine ⟨_,rfl,?_⟩
    simp -implicitDefEqProofs (maxDischargeDepth:=12) only [WW,List.replicate,Option.some_or,s_conv,e_conv,s_slc3,e_cut3,e_cut3n,e_bns,e_bnn,if_true,if_false,ite_true,ite_false,true_or,ne_eq,seval,beq_self_eq_true,eq_self,exists_eq_left,exists_eq_left',e3]
    obtain ⟨f2,u1,u2⟩:=a6 (trQ i h.pitch) H6 w1 (fun b hb hne => w3 b (hBlt b hb) hne (by have:=(gq b (mem3.2 (.inl (hf' b hb)))).1; omega))
    rw [l_some] at u1
    refine ⟨k2 - 1,by omega,j + 1,f2,by omega,?_,fun b hb => hf' b (u2 b hb),?_,fun b h1 h2 h3 => ?_,by omega,ex_x rfl⟩
    · rw [eh,← mapTo_set (f:=trH i) hj]; exact u1
    · rw [w2,List.take_add_one,hj,List.any_append,← Bool.or_assoc]; simp [failH]
    · rw [w3 b (by omega) (fun e => h2 (by rw [e]; exact hf' _ a5)) h3,hst b h1 h2 h3]
  rotate_left
  · have : x.heads.map (mapTo (trH i) 0) = x.heads:=by cases x.heads <;> simp [mapTo_zero]
    rw [this]; exact hA3
  · rw [List.take_zero,List.any_nil,Bool.or_false,kq 4 (by omega)]; exact p4
  rintro t H4 ⟨f1,hB,hf1,q4,hst,hN4,y,rfl⟩
  have sq:=(hst q (by omega) (fun h => by have:=(gq q (mem3.2 (.inl h))).1; omega) (by omega)).trans cq3
  simp -implicitDefEqProofs (maxDischargeDepth:=12) only [WW,List.replicate,Option.some_or,s_conv,e_conv,s_slc3,e_cut3,e_cut3n,e_bns,e_bnn,if_true,if_false,ite_true,ite_false,true_or,ne_eq,seval,beq_self_eq_true,eq_self,exists_eq_left,exists_eq_left',sq,glen]
  have fr34 : ∀ b ∈ fg ++ fl,H4.cells b = H3.cells b:=fun b hb => by
    have h1:=gq b (List.mem_append.2 (.inr hb))
    exact hst b h1.2 (fun h => (List.mem_append.1 hb).elim (fun h2 => C.hg b h h2) (fun h2 => C.hl b h h2)) (by omega)
  have gA4 : AccQ (ClosedQ Grace.enc) 5 H4 gv x.graces fg:=gA3.fr graceC fun b hb => fr34 b (List.mem_append.2 (.inl hb))
  refine wp_loopY 4 (Inv:=fun k2 t H' => ∃ (j : Nat) (f' : List Nat),j + k2 = x.graces.l.length∧AccQ (ClosedQ Grace.enc) 5 H' gv (x.graces.map (mapTo (trG i) j)) f'∧(∀ b ∈ f',b ∈ fg)∧H'.cells 4 = some [.sc (.bool ((w0 || x.heads.l.any (failH i)) || (x.graces.l.take j).any (failG i)))]∧(∀ b,b < H4.next→b ∉ fg→b ≠ 4→H'.cells b = H4.cells b)∧H4.next ≤ H'.next ∧
      ∃ y : Nat→AV,t = [c.enc,i.enc,.ptr 0 0,.ptr 1 0,.ptr 2 0,.sc (.int .i64 0),y 6,.ptr 3 0,.ptr 4 0,.func (.func 40) [] [.ptr 1 0,.ptr 4 0],y 10,.ptr q 0,y 12,y 13,y 14,y 15,y 16,y 17,y 18,y 19,y 20,y 21,y 22,y 23,y 24,y 25,y 26,y 27,y 28,slm Note.enc c.notes,.sc (.int .i64 c.notes.l.length),.sc (.int .i64 n),y 32,y 33,y 34,y 35,y 36,y 37,y 38,y 39,y 40,y 41,y 42,y 43,y 44,y 45,y 46,y 47,y 48,y 49,y 50,y 51,y 52,.sc (.int .i64 x.graces.l.length),.sc (.int .i64 j),y 55,y 56,y 57,y 58,y 59,y 60,y 61,y 62,y 63,y 64,y 65,y 66,y 67,y 68,y 69,y 70,y 71,y 72,y 73,y 74])
    (Ex:=fun t H' => ∃ (f' : List Nat),AccQ (ClosedQ Grace.enc) 5 H' gv (x.graces.map (List.map (trG i))) f'∧(∀ b ∈ f',b ∈ fg)∧H'.cells 4 = some [.sc (.bool (w0 || failN i x))]∧(∀ b,b < H4.next→b ∉ fg→b ≠ 4→H'.cells b = H4.cells b)∧H4.next ≤ H'.next ∧
      ∃ y : Nat→AV,t = [c.enc,i.enc,.ptr 0 0,.ptr 1 0,.ptr 2 0,.sc (.int .i64 0),y 6,.ptr 3 0,.ptr 4 0,.func (.func 40) [] [.ptr 1 0,.ptr 4 0],y 10,.ptr q 0,y 12,y 13,y 14,y 15,y 16,y 17,y 18,y 19,y 20,y 21,y 22,y 23,y 24,y 25,y 26,y 27,y 28,slm Note.enc c.notes,.sc (.int .i64 c.notes.l.length),.sc (.int .i64 n),y 32,y 33,y 34,y 35,y 36,y 37,y 38,y 39,y 40,y 41,y 42,y 43,y 44,y 45,y 46,y 47,y 48,y 49,y 50,y 51,y 52,y 53,y 54,y 55,y 56,y 57,y 58,y 59,y 60,y 61,y 62,y 63,y 64,y 65,y 66,y 67,y 68,y 69,y 70,y 71,y 72,y 73,y 74]) (k:=x.graces.l.length) ?_ ?_
    ⟨0,fg,by omega,?_,fun _ h => h,?_,fun _ _ _ _ => rfl,Nat.le_refl _,ex_x rfl⟩
  · clear y
    rintro k2 t H' ⟨j,f',hk2,hG,hf',r4,hst4,hN',y,rfl⟩
    have nfg : ∀ b ∈ fg,q < b:=fun b hb => (gq b (mem3.2 (.inr (.inl hb)))).1
    have rq:=(hst4 q (by omega) (fun h => by have:=nfg q h; omega) (by omega)).trans sq
    have r1:=(hst4 1 (by omega) (fun h => by have:=nfg 1 h; omega) (by omega)).trans ((hst 1 (by omega) (fun h => by have:=(gq 1 (mem3.2 (.inl h))).1; omega) (by omega)).trans ((kq 1 (by omega)).trans p1))
    by_cases d1 : (j : Int) < (x.graces.l.length : Int)
    rotate_left
    · have eA : x.graces.map (mapTo (trG i) j) = x.graces.map (List.map (trG i)):=by cases e : x.graces with
        | none => rfl
        | some l => rw [e,l_some] at d1; simp only [Option.map_some,Option.some.injEq]; exact mapTo_all (by omega)
      rw [eA] at hG
      rw [List.take_of_length_le (by omega)] at r4
      simp -implicitDefEqProofs (maxDischargeDepth:=12) only [WW,List.replicate,Option.some_or,s_conv,e_conv,s_slc3,e_cut3,e_cut3n,e_bns,e_bnn,if_true,if_false,ite_true,ite_false,true_or,ne_eq,seval,beq_self_eq_true,eq_self,exists_eq_left,exists_eq_left',d1]
      exact ⟨f',hG,hf',by rw [r4,Bool.or_assoc]; rfl,hst4,hN',ex_x rfl⟩
    obtain ⟨h,hj⟩ : ∃ y,x.graces.l[j]? = some y:=⟨_,List.getElem?_eq_getElem (by omega)⟩
    have e3 : IntKind.i64.wrap ((j : Int) + 1) = ((j + 1 : Nat) : Int):=by rw [w64 (by omega) (by have:=tx.graces; omega)]; omega
    have eh : ∀ j,x.graces.map (mapTo (trG i) j) = some (mapTo (trG i) j x.graces.l):=fun j => by cases e : x.graces with
      | none => rw [e] at hj; simp [Sl.l] at hj
      | some l => rfl
    rw [eh] at hG
    have jl : j < x.graces.l.length:=by omega
    obtain ⟨bh,cap,cs,a1,a2,a3,a4,a5,a6⟩:=moved_put graceP hG (j:=j) (x:=h) (by rw [l_some]; exact mapTo_get hj)
    rw [l_some,mapTo_len] at a1
    subst a1
    have hBlt:=hG.lt graceC
    have bq:=gq bh (mem3.2 (.inr (.inl (hf' bh a5))))
    simp -implicitDefEqProofs (maxDischargeDepth:=12) only [WW,List.replicate,Option.some_or,s_conv,e_conv,s_slc3,e_cut3,e_cut3n,e_bns,e_bnn,if_true,if_false,ite_true,ite_false,true_or,ne_eq,seval,beq_self_eq_true,eq_self,exists_eq_left,exists_eq_left',d1,rq,jl,e_callf,callee40]
    refine wA_call rfl ((move_ok (bh:=bh) (o:=j * 5) (qi:=1) (qf:=4) (okg h (List.mem_of_getElem? hj)) hi a2 a4 (by omega) r1 r4 (by omega)).mono ?_)
    rintro o H6 ⟨rfl,w1,w2,w3,w4⟩
    refine ⟨_,rfl,?_⟩
    simp -implicitDefEqProofs (maxDischargeDepth:=12) only [WW,List.replicate,Option.some_or,s_conv,e_conv,s_slc3,e_cut3,e_cut3n,e_bns,e_bnn,if_true,if_false,ite_true,ite_false,true_or,ne_eq,seval,beq_self_eq_true,eq_self,exists_eq_left,exists_eq_left',e3]
    obtain ⟨f2,u1,u2⟩:=a6 (trQ i h.pitch) H6 w1 (fun b hb hne => w3 b (hBlt b hb) hne (by have:=nfg b (hf' b hb); omega))
    rw [l_some] at u1
    refine ⟨k2 - 1,by omega,j + 1,f2,by omega,?_,fun b hb => hf' b (u2 b hb),?_,fun b h1 h2 h3 => ?_,by omega,ex_x rfl⟩
    · rw [eh,← mapTo_set (f:=trG i) hj]; exact u1
    · rw [w2,List.take_add_one,hj,List.any_append,← Bool.or_assoc]; simp [failG]
    · rw [w3 b (by omega) (fun e => h2 (by rw [e]; exact hf' _ a5)) h3,hst4 b h1 h2 h3]
  rotate_left
  · have : x.graces.map (mapTo (trG i) 0) = x.graces:=by cases x.graces <;> simp [mapTo_zero]
    rw [this]; exact gA4
  · rw [List.take_zero,List.any_nil,Bool.or_false]; exact q4
  rintro t H5 ⟨f2,hG,hf2,r4,hst4,hN5,y,rfl⟩
  have nfg : ∀ b ∈ fg,q < b:=fun b hb => (gq b (mem3.2 (.inr (.inl hb)))).1
  have r43 : ∀ b,b ≤ q→b ≠ 4→H5.cells b = H3.cells b:=fun b hb h4 => by
    rw [hst4 b (by omega) (fun h => by have:=nfg b h; omega) h4,hst b (by omega) (fun h => by have:=(gq b (mem3.2 (.inl h))).1; omega) h4]
  have rq:=(r43 q (Nat.le_refl _) (by omega)).trans cq3
  have r3:=(r43 3 (by omega) (by decide)).trans ((kq 3 (by omega)).trans p3)
  simp -implicitDefEqProofs (maxDischargeDepth:=12) only [WW,List.replicate,Option.some_or,s_conv,e_conv,s_slc3,e_cut3,e_cut3n,e_bns,e_bnn,e_splice,if_true,if_false,ite_true,ite_false,true_or,ne_eq,seval,h_putc,beq_self_eq_true,eq_self,exists_eq_left,exists_eq_left',rq,r3,ho,go,lo]
  generalize hHa : AHeap.alloc H5 _ = Ha
  have na : Ha.next = H5.next + 1:=by subst hHa; simp only [AHeap.next_alloc]
  have ka : ∀ b,b < H5.next→Ha.cells b = H5.cells b:=fun b hb => by subst hHa; rw [c_alloc_ne (by omega)]
  have ca:=congrArg (fun h => AHeap.cells h H5.next) hHa
  simp -implicitDefEqProofs (maxDischargeDepth:=12) only [WW,List.replicate,Option.some_or,s_conv,e_conv,s_slc3,e_cut3,e_cut3n,e_bns,e_bnn,e_splice,if_true,if_false,ite_true,ite_false,true_or,ne_eq,seval,h_putc,beq_self_eq_true,eq_self,exists_eq_left,exists_eq_left'] at ca
  replace ca:=ca.symm
  clear hHa
  have kH : ∀ b,b < q→b ≠ 4→Ha.cells b = H.cells b:=fun b hb h4 => by rw [ka b (by omega),r43 b (by omega) h4,kq b hb]
  have hBl:=hB.lt headC
  have hh : AccQ HeadQ 5 Ha hv (x.heads.map (List.map (trH i))) f1:=by
    have : AccQ (ClosedQ Head.enc) 5 Ha hv (x.heads.map (List.map (trH i))) f1:=hB.fr headC fun b hb => by
      have h1:=gq b (mem3.2 (.inl (hf1 b hb)))
      rw [ka b (by omega),hst4 b (by have:=hBl b hb; omega) (fun h => C.hg b (hf1 b hb) h) (by omega)]
    exact this
  have hG' : AccQ (ClosedQ Grace.enc) 5 Ha gv (x.graces.map (List.map (trG i))) f2:=hG.fr graceC fun b hb => ka b (hG.lt graceC b hb)
  obtain ⟨f3,og,og2⟩:=hG'.own graceC1
  have ol : Own 3 Ha lv (slm Syllable.enc x.lyrics) fl:=lA3.frame fun b hb => by
    have h1:=gq b (mem3.2 (.inr (.inr hb)))
    rw [ka b (by omega),hst4 b (by omega) (fun h => C.gl b h hb) (by omega),fr34 b (List.mem_append.2 (.inr hb))]
  have hgf : ∀ b ∈ f1 ++ (f3 ++ fl),b ∈ fh ++ (fg ++ fl):=fun b hb => by
    rcases mem3.1 hb with h | h | h
    · exact mem3.2 (.inl (hf1 b h))
    · exact mem3.2 (.inr (.inl (hf2 b (og2 b h))))
    · exact mem3.2 (.inr (.inr h))
  refine wA_appQ noteQ (H0:=H) hA (y:=x.tr i) (g:=f1 ++ (f3 ++ fl)) (fun b hb => kH b (hlt b hb) (by have:=hfp b hb; omega)) rfl (asrc_one ca rfl) ⟨hv,gv,lv,f1,f3,fl,rfl,hh,og.mono (by decide),ol,go,lo,fun b h1 h2 => C.hg b (hf1 b h1) (hf2 b (og2 b h2)),fun b h1 h2 => C.hl b (hf1 b h1) h2,fun b h1 h2 => C.gl b (hf2 b (og2 b h1)) h2,rfl⟩
    (fun b h1 h2 => by have:=hlt b h1; have:=(gq b (hgf b h2)).1; omega) (by rw [l_of,List.length_map,List.length_take]; have:=tc.1; omega) ?_
  intro v' H8 fp' q1 q2 q3 q5 q6 q7
  have z8 : ∀ b,b < 5→H8.cells b = Ha.cells b:=fun b hb => q3 b (fun h => by have:=hfp b h; omega) (by omega)
  have y3:=(z8 3 (by decide)).trans ((kH 3 (by omega) (by decide)).trans p3)
  have g6 : ∀ b ∈ fp',5 ≤ b:=fun b hb => by
    rcases q5 b hb with h | h | h
    · exact hfp b h
    · have:=(gq b (hgf b h)).1; omega
    · omega
  have ew : (c.notes.l.take (n + 1)).any (failN i) = (w0 || failN i x):=by rw [List.take_add_one,hx,List.any_append,hw0]; simp
  simp -implicitDefEqProofs (maxDischargeDepth:=12) only [WW,List.replicate,Option.some_or,s_conv,e_conv,s_slc3,e_cut3,e_cut3n,e_bns,e_bnn,if_true,if_false,ite_true,ite_false,true_or,ne_eq,seval,beq_self_eq_true,eq_self,exists_eq_left,exists_eq_left',y3,q6,q7,e2]
  refine ⟨k - 1,by omega,n + 1,v',fp',by omega,?_,?_,?_,?_,?_,g6,?_,ex_x rfl⟩
  · rw [c_put_ne (by decide),z8 1 (by decide),kH 1 (by omega) (by decide)]; exact p1
  · rw [c_put_ne (by decide),z8 2 (by decide),kH 2 (by omega) (by decide)]; exact p2
  · rw [h_put_self y3]; rfl
  · rw [c_put_ne (by decide),z8 4 (by decide),ka 4 (by omega),ew]; exact r4
  · rw [List.take_add_one,hx,List.map_append,of_cons (by simp)]
    rw [l_of] at q1
    exact q1.fr noteQ fun b hb => c_put_ne (by have:=g6 b hb; omega)
  · omega
end
end Go.Hem
namespace Go.Hem
noncomputable section
theorem tr_heads {i : Interval} {n : Note} : (n.tr i).heads.l = n.heads.l.map (trH i):=by
  show Sl.l (n.heads.map _) = _
  cases n.heads <;> simp [Sl.l]
theorem tr_graces {i : Interval} {n : Note} : (n.tr i).graces.l = n.graces.l.map (trG i):=by
  show Sl.l (n.graces.map _) = _
  cases n.graces <;> simp [Sl.l]
structure Can (i : Interval) (n : Note) : Prop where
  h : ∀ h ∈ n.heads.l,h.pitch.ok∧Has (h.pitch.num + i.semitones) (trQ i h.pitch)
  g : ∀ h ∈ n.graces.l,h.pitch.ok∧Has (h.pitch.num + i.semitones) (trQ i h.pitch)
theorem can_of {i : Interval} {n : Note} (hi : i.ok) (hc : chordE n = 0) (hf : failN i n = false) : Can i n:=by
  obtain ⟨a,b⟩:=okP_of hc
  unfold failN at hf
  rw [Bool.or_eq_false_iff,List.any_eq_false,List.any_eq_false] at hf
  constructor
  · intro h hh
    have:=hf.1 h hh
    unfold failH at this
    simp only [ne_eq,decide_not,Bool.not_eq_true',decide_eq_false_iff_not,Decidable.not_not] at this
    exact ⟨a h hh,tr_has (a h hh) hi this⟩
  · intro h hh
    have:=hf.2 h hh
    unfold failG at this
    simp only [ne_eq,decide_not,Bool.not_eq_true',decide_eq_false_iff_not,Decidable.not_not] at this
    exact ⟨b h hh,tr_has (b h hh) hi this⟩
theorem headsL_tr {i : Interval} : ∀ {l : List Head} {q q' : Int},(∀ h ∈ l,Has (h.pitch.num + i.semitones) (trQ i h.pitch))→headsL q l = 0→(q' = q + i.semitones ∨ q' = -1)→headsL q' (l.map (trH i)) = 0
  | [],_,_,_,_,_ => rfl
  | x :: l,q,q',hh,k,hq => by
    simp only [List.map_cons,headsL] at k ⊢
    have hx:=hh x (by simp)
    by_cases c1 : wellE x = 0
    · rw [if_neg (by simpa using c1)] at k
      by_cases c3 : x.pitch.num ≤ q
      · rw [if_pos c3] at k; simp at k
      · rw [if_neg c3] at k
        have w:=wellE_ok c1
        have c2 : wellE (trH i x) = 0:=by
          unfold wellE
          rw [if_pos (show (trH i x).pitch.ok from hx.1)]
          show firstE [0,within x.shown 2] = 0
          unfold within
          rw [if_neg (by omega)]; rfl
        have e : (trH i x).pitch.num = x.pitch.num + i.semitones:=hx.2
        have p0:=hx.1.2.1
        have e0 : (trQ i x.pitch).num = x.pitch.num + i.semitones:=hx.2
        rw [if_neg (by simpa using c2),if_neg (by rw [e]; rcases hq with h | h <;> omega)]
        exact headsL_tr (fun h hm => hh h (by simp [hm])) k (.inl (by rw [e]))
    · rw [if_pos c1] at k; exact absurd k c1
theorem gracesL_tr {i : Interval} : ∀ {l : List Grace},(∀ h ∈ l,Has (h.pitch.num + i.semitones) (trQ i h.pitch))→gracesL l = 0→gracesL (l.map (trG i)) = 0
  | [],_,_ => rfl
  | x :: l,hh,k => by
    simp only [List.map_cons,gracesL] at k ⊢
    have hx:=hh x (by simp)
    by_cases c1 : x.pitch.ok
    · rw [if_neg (by simpa using c1)] at k
      rw [if_neg (by simpa using (show (trG i x).pitch.ok from hx.1))]
      by_cases c3 : x.log < 1 ∨ 6 < x.log
      · rw [if_pos c3] at k; simp at k
      · rw [if_neg c3] at k
        rw [if_neg (show ¬ ((trG i x).log < 1 ∨ 6 < (trG i x).log) from c3)]
        exact gracesL_tr (fun h hm => hh h (by simp [hm])) k
    · rw [if_pos c1] at k; simp at k
theorem chordE_tr {i : Interval} {n : Note} (hc : chordE n = 0) (h : Can i n) : chordE (n.tr i) = 0:=by
  obtain ⟨a,b,d⟩:=chordE_parts hc
  have a' : headsE (n.tr i).heads.l = 0:=by
    rw [tr_heads]
    unfold headsE at a ⊢
    rw [List.length_map]
    by_cases c1 : n.heads.l.length = 0
    · rw [if_pos c1] at a; simp at a
    rw [if_neg c1] at a ⊢
    by_cases c2 : 10 < n.heads.l.length
    · rw [if_pos c2] at a; simp at a
    rw [if_neg c2] at a ⊢
    exact headsL_tr (fun h' hh => (h.h h' hh).2) a (.inr rfl)
  have b' : gracesE (n.tr i).graces.l = 0:=by
    rw [tr_graces]
    unfold gracesE at b ⊢
    rw [List.length_map]
    by_cases c1 : 8 < n.graces.l.length
    · rw [if_pos c1] at b; simp at b
    rw [if_neg c1] at b ⊢
    exact gracesL_tr (fun h' hh => (h.g h' hh).2) b
  have d' : lyricsE (n.tr i).lyrics.l = 0:=d
  unfold chordE at hc ⊢
  rw [if_neg (by rw [firstE_all (by simp [a,b,d])]; simp)] at hc
  rw [if_neg (by rw [firstE_all (by simp [a',b',d'])]; simp)]
  exact hc
theorem headsL_strict : ∀ {l : List Head} {q : Int},headsL q l = 0→(∀ h ∈ l,q < h.pitch.num)∧l.Pairwise fun x y => x.pitch.num < y.pitch.num
  | [],_,_ => ⟨by simp,.nil⟩
  | x :: l,q,k => by
    simp only [headsL] at k
    by_cases c1 : wellE x = 0
    · rw [if_neg (by simpa using c1)] at k
      by_cases c3 : x.pitch.num ≤ q
      · rw [if_pos c3] at k; simp at k
      · rw [if_neg c3] at k
        obtain ⟨r1,r2⟩:=headsL_strict k
        refine ⟨fun h hh => ?_,List.pairwise_cons.2 ⟨r1,r2⟩⟩
        rcases List.mem_cons.1 hh with rfl | hh
        · omega
        · have:=r1 h hh; omega
    · rw [if_pos c1] at k; exact absurd k c1
theorem strict_eq : ∀ {l : List Head},(l.Pairwise fun x y => x.pitch.num < y.pitch.num)→∀ {x y : Head},x ∈ l→y ∈ l→x.pitch.num = y.pitch.num→x = y
  | [],_,_,_,h,_,_ => by simp at h
  | a :: l,hp,x,y,hx,hy,e => by
    obtain ⟨p1,p2⟩:=List.pairwise_cons.1 hp
    rcases List.mem_cons.1 hx with h1 | h1
    · rcases List.mem_cons.1 hy with h2 | h2
      · rw [h1,h2]
      · have:=p1 y h2; rw [h1] at e; omega
    · rcases List.mem_cons.1 hy with h2 | h2
      · have:=p1 x h1; rw [h2] at e; omega
      · exact strict_eq p2 h1 h2 e
theorem chord_strict {n : Note} (h : chordE n = 0) : n.heads.l.Pairwise fun x y => x.pitch.num < y.pitch.num:=by
  have a:=(chordE_parts h).1
  unfold headsE at a
  by_cases c1 : n.heads.l.length = 0
  · rw [if_pos c1] at a; simp at a
  rw [if_neg c1] at a
  by_cases c2 : 10 < n.heads.l.length
  · rw [if_pos c2] at a; simp at a
  rw [if_neg c2] at a
  exact (headsL_strict a).2
theorem tr_good {c : Clip} {i : Interval} (hi : i.ok) (g : Good c) (hf : trF c i = false) : Good ⟨c.len,Sl.of (c.notes.l.map (Note.tr i))⟩:=by
  have can : ∀ n ∈ c.notes.l,Can i n:=fun n hn => can_of hi (g.row.fit n hn).ok (by
    unfold trF at hf
    rw [List.any_eq_false] at hf
    simpa using hf n hn)
  refine ⟨g.lo,g.hi,?_,?_⟩
  · show Row c.len _
    rw [l_of]
    refine ⟨fun n hn => ?_,List.pairwise_map.2 (g.row.ord.imp fun k => k)⟩
    obtain ⟨m,hm,rfl⟩:=List.mem_map.1 hn
    have f:=g.row.fit m hm
    exact ⟨f.lo,f.one,f.hi,chordE_tr f.ok (can m hm)⟩
  · show Neat _
    rw [l_of]
    refine ⟨fun k a' b' h1 h2 => ?_,fun k n' h1 h' hh ht => ?_⟩
    · rw [List.getElem?_map] at h1 h2
      obtain ⟨a,ha,rfl⟩:=Option.map_eq_some_iff.1 h1
      obtain ⟨b,hb,rfl⟩:=Option.map_eq_some_iff.1 h2
      have am:=List.mem_of_getElem? ha
      have bm:=List.mem_of_getElem? hb
      cases q : oneB (a.tr i) (b.tr i) with
      | false => rfl
      | true =>
        have hno:=g.neat.1 k a b ha hb
        rw [← hno]
        unfold oneB Note.plainB headsOne at q ⊢
        simp only [Bool.and_eq_true,decide_eq_true_eq] at q
        obtain ⟨q1,⟨q2,q3⟩,q4,q5⟩:=q
        have q1' : a.fin = b.at_:=q1
        rw [tr_heads] at q2 q4 q5
        rw [tr_heads,List.map_map,List.map_map] at q5
        rw [List.all_map] at q2 q4
        have q2' : b.heads.l.all (fun h => decide (h.shown = 0)) = true:=q2
        have q4' : a.heads.l.all (·.tied) = true:=q4
        have q3' : b.tailB = true:=by
          have e : (b.tr i).graces.l.length = b.graces.l.length:=by rw [tr_graces,List.length_map]
          unfold Note.tailB at q3 ⊢
          rw [e] at q3; exact q3
        have q5' : a.heads.l.map Head.pitch = b.heads.l.map Head.pitch:=by
          apply List.ext_getElem?
          intro j
          have hj:=congrArg (·[j]?) q5
          simp only [List.getElem?_map] at hj ⊢
          cases ea : a.heads.l[j]? with
          | none =>
            rw [ea] at hj
            cases eb : b.heads.l[j]? with
            | none => rfl
            | some y => rw [eb] at hj; simp at hj
          | some x =>
            rw [ea] at hj
            cases eb : b.heads.l[j]? with
            | none => rw [eb] at hj; simp at hj
            | some y =>
              rw [eb] at hj
              simp only [Option.map_some,Option.some.injEq,Function.comp] at hj ⊢
              have hj' : trQ i x.pitch = trQ i y.pitch:=hj
              have xm:=List.mem_of_getElem? ea
              have ym:=List.mem_of_getElem? eb
              have cx:=((can a am).h x xm).2.2
              have cy:=((can b bm).h y ym).2.2
              rw [hj'] at cx
              have en : x.pitch.num = y.pitch.num:=by omega
              have kt:=g.neat.2 k a ha x xm (List.all_eq_true.1 q4' x xm)
              rw [hb] at kt
              unfold keepTie Note.hasB at kt
              simp only [Bool.and_eq_true,List.any_eq_true,decide_eq_true_eq] at kt
              obtain ⟨_,_,o,om,eo⟩:=kt
              have : o = y:=strict_eq (chord_strict (g.row.fit b bm).ok) om ym (by rw [eo]; exact en)
              rw [← this,eo]
        rw [decide_eq_true q1',q2',q3',q4',decide_eq_true q5']
        simp
    · rw [List.getElem?_map] at h1
      obtain ⟨n,hn,rfl⟩:=Option.map_eq_some_iff.1 h1
      rw [tr_heads,List.mem_map] at hh
      obtain ⟨h,hm,rfl⟩:=hh
      have kt:=g.neat.2 k n hn h hm ht
      rw [List.getElem?_map]
      unfold keepTie at kt ⊢
      rw [Bool.and_eq_true] at kt ⊢
      refine ⟨ht,?_⟩
      cases e : c.notes.l[k + 1]? with
      | none => rw [e] at kt; simp at kt
      | some m =>
        rw [e] at kt
        simp only [Option.map_some,Bool.and_eq_true,decide_eq_true_eq] at kt ⊢
        refine ⟨kt.2.1,?_⟩
        have:=kt.2.2
        unfold Note.hasB at this ⊢
        rw [tr_heads]
        simp only [List.any_map,List.any_eq_true,Function.comp,decide_eq_true_eq] at this ⊢
        obtain ⟨o,om,eo⟩:=this
        exact ⟨o,om,by show trQ i o.pitch = trQ i h.pitch; rw [eo]⟩
end
end Go.Hem
namespace Go.Hem
noncomputable section
theorem tr_at {c : Clip} {i : Interval} {n : Nat} {x : Note} (hx : c.notes.l[n]? = some x) : (c.notes.l.map (Note.tr i))[n]? = some (x.tr i):=by rw [List.getElem?_map,hx]; rfl
theorem numbers_pv (X c : Clip) (i : Interval) (hX : X.notes.l = c.notes.l.map (Note.tr i)) (hl : c.notes.l.length < 1000000) (hi : i.ok) (hc : ∀ x ∈ c.notes.l,Can i x∧x.heads.l ≠ []) : Pv prog polS 25 [X.enc,c.enc,.sc (.int .i64 i.semitones)] (.sc (.bool true)):=by
  refine Pv_of' ok25 (by simp only [AV.closedBs,Clip.enc_closed,AV.closedB,Bool.and_self]) ?_
  simp -implicitDefEqProofs (maxDischargeDepth:=12) only [wpF,cf25,WW,List.replicate,Option.some_or,s_conv,e_conv,s_slc3,e_cut3,e_cut3n,e_bns,e_bnn,e_splice,if_true,if_false,ite_true,ite_false,true_or,ne_eq,seval,h_putc,beq_self_eq_true,eq_self,exists_eq_left,exists_eq_left',X.enc_eq,c.enc_eq]
  refine wp_loop (Inv:=fun k t H => ∃ (n : Nat),n + k = c.notes.l.length∧H.cells 0 = some X.enc.cells∧H.cells 1 = some c.enc.cells ∧
    ∃ y : Nat→AV,t = [y 0,y 1,.sc (.int .i64 i.semitones),.ptr 0 0,.ptr 1 0,y 5,.sc (.bool false),.sc (.int .i64 n),y 8,y 9,y 10,y 11,y 12,y 13,y 14,y 15,y 16,y 17,y 18,y 19,y 20,y 21,y 22,y 23,y 24,y 25,y 26,y 27,y 28,y 29,y 30,y 31,y 32,y 33,y 34,y 35,y 36,y 37,y 38,y 39,y 40,y 41,y 42,y 43,y 44,y 45,y 46,y 47,y 48,y 49,y 50,y 51,y 52,y 53,y 54,y 55,y 56,y 57,y 58,y 59,y 60,y 61,y 62,y 63,y 64,y 65,y 66,y 67,y 68,y 69,y 70,y 71,y 72,y 73,y 74,y 75,y 76,y 77,y 78,y 79,y 80,y 81,y 82,y 83,y 84,y 85,y 86,y 87]) (k:=c.notes.l.length) ?_ ⟨0,by omega,?_,?_,ex_x rfl⟩
  rotate_left
  · simp -implicitDefEqProofs (maxDischargeDepth:=12) only [WW,List.replicate,Option.some_or,s_conv,e_conv,s_slc3,e_cut3,e_cut3n,e_bns,e_bnn,e_splice,if_true,if_false,ite_true,ite_false,true_or,ne_eq,seval,h_putc,beq_self_eq_true,eq_self,exists_eq_left,exists_eq_left',X.enc_eq]
  · simp -implicitDefEqProofs (maxDischargeDepth:=12) only [WW,List.replicate,Option.some_or,s_conv,e_conv,s_slc3,e_cut3,e_cut3n,e_bns,e_bnn,e_splice,if_true,if_false,ite_true,ite_false,true_or,ne_eq,seval,h_putc,beq_self_eq_true,eq_self,exists_eq_left,exists_eq_left',c.enc_eq]
  rintro k t H ⟨n,hk,p0,p1,y,rfl⟩
  simp only [X.enc_eq,c.enc_eq,c_agg] at p0 p1
  have hXl : (X.notes.l.length : Int) = (c.notes.l.length : Int):=by rw [hX,List.length_map]
  by_cases c1 : (n : Int) < (c.notes.l.length : Int)
  rotate_left
  · simp -implicitDefEqProofs (maxDischargeDepth:=12) only [WW,List.replicate,Option.some_or,s_conv,e_conv,s_slc3,e_cut3,e_cut3n,e_bns,e_bnn,e_splice,if_true,if_false,ite_true,ite_false,true_or,ne_eq,seval,h_putc,beq_self_eq_true,eq_self,exists_eq_left,exists_eq_left',p0,p1,hXl,c1]
    exact frz_sc
  obtain ⟨x,hx⟩ : ∃ x,c.notes.l[n]? = some x:=⟨_,List.getElem?_eq_getElem (by omega)⟩
  have hx2 : X.notes.l[n]? = some (x.tr i):=by rw [hX]; exact tr_at hx
  have e2 : IntKind.i64.wrap ((n : Int) + 1) = ((n + 1 : Nat) : Int):=by rw [w64 (by omega) (by omega)]; omega
  obtain ⟨can,hne⟩:=hc x (List.mem_of_getElem? hx)
  obtain ⟨h,hh⟩ : ∃ h,x.heads.l[0]? = some h:=⟨_,List.getElem?_eq_getElem (by cases e : x.heads.l; exact absurd e hne; simp)⟩
  obtain ⟨ok1,ok2,en⟩:=can.h h (List.mem_of_getElem? hh)
  have hh2 : (x.tr i).heads.l[0]? = some (trH i h):=by rw [tr_heads,List.getElem?_map,hh]; rfl
  have hq:=number_pv (trQ i h.pitch)
  have hp:=number_pv h.pitch
  rw [if_pos ok2,if_pos ok2,en] at hq
  rw [if_pos ok1,if_pos ok1] at hp
  have es : IntKind.i64.wrap (h.pitch.num + i.semitones) = h.pitch.num + i.semitones:=by
    obtain ⟨_,_,a,b⟩:=hi
    have:=ok1.2.1; have:=ok1.2.2
    exact w64 (by omega) (by omega)
  have eX : (x.tr i).enc = .agg [.sc (.int .i64 x.at_),.sc (.int .i64 x.len),slm Head.enc (x.tr i).heads,slm Grace.enc (x.tr i).graces,.sc (.int .i64 x.articulations),.sc (.int .i64 x.ornament),.sc (.int .i64 x.dynamic),slm Syllable.enc x.lyrics]:=rfl
  have eH : (trH i h).enc = .agg [.sc (.int .i64 (trQ i h.pitch).step),.sc (.int .i64 (trQ i h.pitch).alter),.sc (.int .i64 (trQ i h.pitch).octave),.sc (.bool h.tied),.sc (.int .i64 h.shown)]:=rfl
  simp -implicitDefEqProofs (maxDischargeDepth:=12) only [WW,List.replicate,Option.some_or,s_conv,e_conv,s_slc3,e_cut3,e_cut3n,e_bns,e_bnn,e_splice,if_true,if_false,ite_true,ite_false,true_or,ne_eq,seval,h_putc,beq_self_eq_true,eq_self,exists_eq_left,exists_eq_left',p0,p1,hXl,c1,hx2,eX,hh2,eH]
  rw [← (trQ i h.pitch).enc_eq]
  refine wA_pure rfl hq ?_
  simp -implicitDefEqProofs (maxDischargeDepth:=12) only [WW,List.replicate,Option.some_or,s_conv,e_conv,s_slc3,e_cut3,e_cut3n,e_bns,e_bnn,e_splice,if_true,if_false,ite_true,ite_false,true_or,ne_eq,seval,h_putc,beq_self_eq_true,eq_self,exists_eq_left,exists_eq_left',tup2,p0,p1,hx,x.enc_eq,hh,h.enc_eq]
  rw [← h.pitch.enc_eq]
  refine wA_pure rfl hp ?_
  simp -implicitDefEqProofs (maxDischargeDepth:=12) only [WW,List.replicate,Option.some_or,s_conv,e_conv,s_slc3,e_cut3,e_cut3n,e_bns,e_bnn,e_splice,if_true,if_false,ite_true,ite_false,true_or,ne_eq,seval,h_putc,beq_self_eq_true,eq_self,exists_eq_left,exists_eq_left',tup2,p0,p1,hx,x.enc_eq,hx2,eX,es,e2]
  exact ⟨k - 1,by omega,n + 1,by omega,rfl,rfl,ex_x rfl⟩
end
end Go.Hem
namespace Go.Hem
noncomputable section
def exC (n : Nat) (Ex : List AV→AHeap→Prop) (Q : Post) : Post:=fun e t H => match e with
  | .exit m => m = n∧Ex t H
  | .ret => Q .ret t H
  | .normal => Q .normal t H
theorem exC_exit {n m : Nat} {Ex : List AV→AHeap→Prop} {Q : Post} {t : List AV} {H : AHeap} : exC n Ex Q (.exit m) t H = (m = n∧Ex t H):=rfl
theorem exC_ret {n : Nat} {Ex : List AV→AHeap→Prop} {Q : Post} {t : List AV} {H : AHeap} : exC n Ex Q .ret t H = Q .ret t H:=rfl
theorem wp_loopZ {P : Program} {pol : Pol} {b : CC} {Q : Post} (n : Nat) (Inv : Nat→List AV→AHeap→Prop) (Ex : List AV→AHeap→Prop)
    (step : ∀ k t H,Inv k t H→wpC P pol b t H (thenC (exC n Ex Q) fun t' H' => ∃ k',k' < k∧Inv k' t' H')) (hex : ∀ t H,Ex t H→Q (.exit n) t H) {k : Nat} {t : List AV} {H : AHeap} (h : Inv k t H) : wpC P pol (.loop b) t H Q:=by
  refine wp_loop Inv (fun k t H hi => wpC_mono (fun e t' H' q => ?_) (step k t H hi)) h
  cases e with
  | normal => exact q
  | exit id => obtain ⟨e1,e2⟩:=q; cases e1; exact hex _ _ e2
  | ret => exact q
def Note.shift (d : Int) (n : Note) : Note:={ n with at_:=IntKind.i64.wrap (n.at_ + d) }
end
end Go.Hem
