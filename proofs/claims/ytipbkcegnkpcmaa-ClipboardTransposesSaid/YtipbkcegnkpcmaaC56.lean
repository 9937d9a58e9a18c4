/- ClipboardTransposes: whatever the arguments,the law returns true and leaves its arguments as they were. No condition. -/
import Derived.Test.YtipbkcegnkpcmaaWalks2
import Derived.Test.YtipbkcegnkpcmaaHemSh
import Derived.Test.YtipbkcegnkpcmaaHemLaw
import Derived.Test.YtipbkcegnkpcmaaRows
import Derived.WalkKit
import Derived.ProofKit
import Derived.OpenShut
namespace Go.Proofs.Ytipbkcegnkpcmaa
open Go.ChangeShapes Go.WideShapes Go.ChangeAt Go.RowKit Go.Hem
set_option linter.unusedVariables false
theorem hemOwn : ownKnob Try.prog.godebug = none:=by kernel_rfl
theorem hemLaid : laidOutB Try.prog = true:=by kernel_rfl
theorem hemMixed : Try.prog.follows .mixedOrders = true:=by kernel_rfl
theorem shClip : shOf Try.prog 20 24 = some Clip.sh:=by kernel_rfl
theorem shInterval : shOf Try.prog 20 50 = some Interval.sh:=by kernel_rfl
set_option maxRecDepth 100000 in
theorem clipboardTransposes_lifted (os : Os) (started : os.Started) (H : Type) (enc : TypeId × Value→H) :
    ReturnsInHanded {} Try.checked os 8 .any (Rows.clipboardTransposesSpec.pre6 enc Try.prog Try.f8 Rows.clipboardTransposesRow.domain false) (Rows.clipboardTransposesSpec.post enc Try.prog Try.f8 false true false false):=by
  refine returnsInHanded_of_change (C:=Try.checked) hemOwn started (by kernel_rfl) Try.func8
    (ChangeSpec.witness6 (enc:=enc) (C:=Try.checked) false ⟨#[],#[.agg #[.int .i64 0,.slice none 0 0],.agg #[.int .i64 0,.int .i64 0]],[]⟩ 8 (by kernel_rfl) (by kernel_rfl) (by kernel_rfl) (by kernel_rfl)) ?_
  intro W base args ds gs before hval0 hW hcnd _
  have hval : ∀ (j : Nat) t v,Try.f8.params[j]? = some t→args[j]? = some v→Value.okWide Try.prog W .any base t v:=hval0
  have hW':=hW
  obtain ⟨p,q,hA0,hV,rfl,hfz,hnd⟩:=hW
  have hA : DataW.TrodAll enc Try.prog W 0 (fun _ => true) true Try.f8.params.toList args.toList ds p:=hA0
  rw [Try.params8] at hA hval
  obtain ⟨v0,v1,d0,d1,p0,p1,rfl,rfl,rfl,h0,h1⟩:=trodAll_two hA
  obtain ⟨rfl,rfl⟩:=trodVars_none hV
  obtain ⟨l0,a0,b0⟩:=arg_struct Try.underlying24 (hval 0 24 v0 rfl rfl) shClip h0
  obtain ⟨x0,rfl⟩:=Clip.opn a0
  obtain ⟨l1,a1,b1⟩:=arg_struct Try.underlying50 (hval 1 50 v1 rfl rfl) shInterval h1
  obtain ⟨x1,rfl⟩:=Interval.opn a1
  have hlt0 : ∀ y ∈ p0,y.block < W.heap.size:=fun y hy => by simpa using hW'.lt y (by simp [hy])
  have hlt1 : ∀ y ∈ p1,y.block < W.heap.size:=fun y hy => by simpa using hW'.lt y (by simp [hy])
  clear hA0 hval0
  refine (law_walk hemMixed (law8_pv x0 x1) (VRs.cons b0 (VRs.cons b1 VRs.nil))).mono fun e W' ⟨he,hg,hb⟩ => ?_
  subst he
  exact ⟨_,rfl,post_of_same (pa:=p0 ++ p1) (pv:=[]) hW' (fun _ _ _ => trodAll_mk1 (shut_bool Try.underlying4 _)) (fun sp hsp => trodAll_mk2 (WideElems.Trod_stays hemLaid (by kernel_rfl) (of_decide_eq_true (by kernel_rfl)) h0 (fun y hy => hb.same (hlt0 y hy)) (fun y hy => hsp y (by simp [hy]))) (WideElems.Trod_stays hemLaid (by kernel_rfl) (of_decide_eq_true (by kernel_rfl)) h1 (fun y hy => hb.same (hlt1 y hy)) (fun y hy => hsp y (by simp [hy])))) (fun _ _ => rfl) (by simp)
    (hg.frame _) hg.2.1 (ok_one (by kernel_rfl) rfl (okWide_bool_mk Try.underlying4 _))⟩
theorem clipboardTransposes_holds : Rows.ClipboardTransposesSaid :=
  OpenClaim.holds_of_wide 8 Try.f8 rfl rfl rfl rfl rfl rfl rfl ⟨rfl,rfl,rfl,rfl,rfl⟩ rfl rfl rfl rfl rfl (by kernel_rfl) Try.func8 (by kernel_rfl)
    (of_decide_eq_true (by kernel_rfl)) (by unfold Func.isWrapper; first | (rw [if_pos (by decide +kernel)]; kernel_rfl) | (rw [if_neg (by decide +kernel)]; exact ⟨rfl,rfl⟩))
    (fun os started H enc _ => clipboardTransposes_lifted os started H enc)
#print axioms clipboardTransposes_holds
end Go.Proofs.Ytipbkcegnkpcmaa
