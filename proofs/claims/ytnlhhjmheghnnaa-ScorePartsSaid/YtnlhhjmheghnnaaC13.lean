/- ScoreParts: whatever the score,the part with its cells and the place,the law returns true and leaves its arguments as they were. No condition. -/
import Derived.Test.YtnlhhjmheghnnaaWalks2
import Derived.Test.YtnlhhjmheghnnaaHemSh
import Derived.Test.YtnlhhjmheghnnaaHemLaw
import Derived.Test.YtnlhhjmheghnnaaRows
import Derived.WalkKit
import Derived.ProofKit
import Derived.OpenShut
namespace Go.Proofs.Ytnlhhjmheghnnaa
open Go.ChangeShapes Go.WideShapes Go.ChangeAt Go.RowKit Go.Hem
set_option linter.unusedVariables false
theorem hemOwn : ownKnob Try.prog.godebug = none:=by kernel_rfl
theorem hemLaid : laidOutB Try.prog = true:=by kernel_rfl
theorem hemMixed : Try.prog.follows .mixedOrders = true:=by kernel_rfl
theorem shScore : shOf Try.prog 20 27 = some Score.sh:=by kernel_rfl
def Portion.sh : Sh:=.struct [.int .i64,Part.sh,.slice (.slice Cell.sh)]
theorem Portion.opn {bs : List AV} (h : Portion.sh.ok bs) : ∃ x : Portion,bs = x.enc.cells:=by
  simp only [Portion.sh] at h
  simp only [Sh.ok.eq_5,Sh.oks] at h
  obtain ⟨_,_,rfl,h0,_,_,rfl,h1,_,_,rfl,h2,rfl⟩:=h
  simp only [Sh.ok.eq_1] at h0
  obtain ⟨x0,rfl,_⟩:=h0
  obtain ⟨x1,rfl⟩:=Part.opn h1
  obtain ⟨x2,rfl,_⟩:=slm_open (f:=rowE) (fun cs h => by
    obtain ⟨r,rfl,_⟩:=slm_open (f:=Cell.enc) (fun _ h => Cell.opn h) (fun _ => rfl) h
    exact ⟨r,(rowE_c r).symm⟩) (fun r => by unfold Canon; rw [if_neg (by decide)]; exact rowE_c r) h2
  exact ⟨⟨x0,x1,x2⟩,by
    show _ = [AV.sc (.int .i64 x0)] ++ x1.enc.cells ++ [slm rowE x2]
    simp⟩
theorem shPortion : shOf Try.prog 20 119 = some Portion.sh:=by kernel_rfl
set_option maxRecDepth 100000 in
theorem scoreParts_lifted (os : Os) (started : os.Started) (H : Type) (enc : TypeId × Value→H) :
    ReturnsInHanded {} Try.checked os 13 .any (Rows.scorePartsSpec.pre6 enc Try.prog Try.f13 Rows.scorePartsRow.domain false) (Rows.scorePartsSpec.post enc Try.prog Try.f13 false true false false):=by
  refine returnsInHanded_of_change (C:=Try.checked) hemOwn started (by kernel_rfl) Try.func13
    (ChangeSpec.witness6 (enc:=enc) (C:=Try.checked) false ⟨#[],#[.agg #[.string ⟨#[]⟩,.bool false,.slice none 0 0,.slice none 0 0,.slice none 0 0,.slice none 0 0],.agg #[.int .i64 0,.int .i64 0,.int .i64 0,.string ⟨#[]⟩,.int .i64 0,.int .i64 0,.slice none 0 0,.slice none 0 0],.int .i64 0],[]⟩ 8 (by kernel_rfl) (by kernel_rfl) (by kernel_rfl) (by kernel_rfl)) ?_
  intro W base args ds gs before hval0 hW hcnd _
  have hval : ∀ (j : Nat) t v,Try.f13.params[j]? = some t→args[j]? = some v→Value.okWide Try.prog W .any base t v:=hval0
  have hW':=hW
  obtain ⟨p,q,hA0,hV,rfl,hfz,hnd⟩:=hW
  have hA : DataW.TrodAll enc Try.prog W 0 (fun _ => true) true Try.f13.params.toList args.toList ds p:=hA0
  rw [Try.params13] at hA hval
  obtain ⟨v0,v1,v2,d0,d1,d2,p0,p1,p2,rfl,rfl,rfl,h0,h1,h2⟩:=trodAll_three hA
  obtain ⟨rfl,rfl⟩:=trodVars_none hV
  obtain ⟨l0,a1,a2⟩:=arg_struct Try.underlying27 (hval 0 27 v0 rfl rfl) shScore h0
  obtain ⟨x,rfl⟩:=Score.opn a1
  obtain ⟨l1,b1,b2⟩:=arg_struct Try.underlying119 (hval 1 119 v1 rfl rfl) shPortion h1
  obtain ⟨y,rfl⟩:=Portion.opn b1
  obtain ⟨i,rfl,rfl,rfl,wi⟩:=open_int Try.underlying3 (hval 2 3 v2 rfl rfl) h2
  have hlt : ∀ y ∈ p0,y.block < W.heap.size:=fun y hy => by simpa using hW'.lt y (by simp [hy])
  have hlt1 : ∀ y ∈ p1,y.block < W.heap.size:=fun y hy => by simpa using hW'.lt y (by simp [hy])
  clear hA0 hval0
  refine (law_walk hemMixed (law13_pv x y i) (VRs.cons a2 (VRs.cons b2 (VRs.cons (.sc (.int .i64 i)) VRs.nil))) (insPol_ok rfl)).mono fun e W' ⟨he,hg,hb⟩ => ?_
  subst he
  exact ⟨_,rfl,post_of_same (pa:=p0 ++ (p1 ++ [])) (pv:=[]) hW' (fun _ _ _ => trodAll_mk1 (shut_bool Try.underlying4 _)) (fun sp hsp =>
      trodAll_mk3 (WideElems.Trod_stays hemLaid (by kernel_rfl) (of_decide_eq_true (by kernel_rfl)) h0 (fun y hy => hb.same (hlt y hy)) (fun y hy => hsp y (by simp [hy])))
        (WideElems.Trod_stays hemLaid (by kernel_rfl) (of_decide_eq_true (by kernel_rfl)) h1 (fun y hy => hb.same (hlt1 y hy)) (fun y hy => hsp y (by simp [hy])))
        (shut_int Try.underlying3 wi)) (fun _ _ => rfl) (by simp)
    (hg.frame _) hg.2.1 (ok_one (by kernel_rfl) rfl (okWide_bool_mk Try.underlying4 _))⟩
theorem scoreParts_holds : Rows.ScorePartsSaid :=
  OpenClaim.holds_of_wide 13 Try.f13 rfl rfl rfl rfl rfl rfl rfl ⟨rfl,rfl,rfl,rfl,rfl⟩ rfl rfl rfl rfl rfl (by kernel_rfl) Try.func13 (by kernel_rfl)
    (of_decide_eq_true (by kernel_rfl)) (by unfold Func.isWrapper; first | (rw [if_pos (by decide +kernel)]; kernel_rfl) | (rw [if_neg (by decide +kernel)]; exact ⟨rfl,rfl⟩))
    (fun os started H enc _ => scoreParts_lifted os started H enc)
#print axioms scoreParts_holds
end Go.Proofs.Ytnlhhjmheghnnaa
