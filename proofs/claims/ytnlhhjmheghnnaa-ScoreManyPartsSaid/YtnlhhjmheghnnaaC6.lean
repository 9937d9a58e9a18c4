/- ScoreManyParts: whatever the number, the law returns true and leaves its argument as it was. No condition. -/
import Derived.Test.YtnlhhjmheghnnaaWalks1
import Derived.Test.YtnlhhjmheghnnaaHemSh
import Derived.Test.YtnlhhjmheghnnaaHemLaw
import Derived.Test.YtnlhhjmheghnnaaRows
import Derived.WalkKit
import Derived.ProofKit
import Derived.OpenShut
namespace Go.Proofs.Ytnlhhjmheghnnaa
open Go.ChangeShapes Go.WideShapes Go.ChangeAt Go.RowKit Go.Hem
set_option linter.unusedVariables false

theorem hemOwn : ownKnob Try.prog.godebug = none := by kernel_rfl
theorem hemLaid : laidOutB Try.prog = true := by kernel_rfl
theorem hemMixed : Try.prog.follows .mixedOrders = true := by kernel_rfl
theorem shScore : shOf Try.prog 20 27 = some Score.sh := by kernel_rfl

set_option maxRecDepth 100000 in
theorem scoreManyParts_lifted (os : Os) (started : os.Started) (H : Type) (enc : TypeId × Value → H) :
    ReturnsInHanded {} Try.checked os 6 .any (Rows.scoreManyPartsSpec.pre6 enc Try.prog Try.f6 Rows.scoreManyPartsRow.domain false) (Rows.scoreManyPartsSpec.post enc Try.prog Try.f6 false true false false) := by
  refine returnsInHanded_of_change (C := Try.checked) hemOwn started (by kernel_rfl) Try.func6
    (ChangeSpec.witness6 (enc := enc) (C := Try.checked) false ⟨#[], #[.int .u8 0], []⟩ 8 (by kernel_rfl) (by kernel_rfl) (by kernel_rfl) (by kernel_rfl)) ?_
  intro W base args ds gs before hval0 hW hcnd _
  have hval : ∀ (j : Nat) t v, Try.f6.params[j]? = some t → args[j]? = some v → Value.okWide Try.prog W .any base t v := hval0
  have hW' := hW
  obtain ⟨p, q, hA0, hV, rfl, hfz, hnd⟩ := hW
  have hA : DataW.TrodAll enc Try.prog W 0 (fun _ => true) true Try.f6.params.toList args.toList ds p := hA0
  rw [Try.params6] at hA hval
  obtain ⟨v0, d0, rfl, rfl, h0⟩ := trodAll_one hA
  obtain ⟨rfl, rfl⟩ := trodVars_none hV
  obtain ⟨i, rfl, rfl, rfl, wi⟩ := open_int Try.underlying5 (hval 0 5 v0 rfl rfl) h0
  clear hA0 hval0
  have wi0 := wi
  simp only [Lit.wf, Bool.and_eq_true, decide_eq_true_eq] at wi
  have e1 : IntKind.u8.max = 255 := by decide
  have e2 : IntKind.u8.min = 0 := by decide
  rw [e1, e2] at wi
  refine (law_walk hemMixed (law6_pv i (by omega) (by omega)) (VRs.cons (.sc (.int .u8 i)) VRs.nil) (insPol_ok rfl)).mono fun e W' ⟨he, hg, hb⟩ => ?_
  subst he
  exact ⟨_, rfl, post_of_same (pa := []) (pv := []) hW' (fun _ _ _ => trodAll_mk1 (shut_bool Try.underlying4 _)) (fun sp hsp => trodAll_mk1 (shut_int Try.underlying5 wi0)) (fun _ _ => rfl) (by simp)
    (hg.frame _) hg.2.1 (ok_one (by kernel_rfl) rfl (okWide_bool_mk Try.underlying4 _))⟩

theorem scoreManyParts_holds : Rows.ScoreManyPartsSaid :=
  OpenClaim.holds_of_wide 6 Try.f6 rfl rfl rfl rfl rfl rfl rfl ⟨rfl, rfl, rfl, rfl, rfl⟩ rfl rfl rfl rfl rfl (by kernel_rfl) Try.func6 (by kernel_rfl)
    (of_decide_eq_true (by kernel_rfl)) (by unfold Func.isWrapper; first | (rw [if_pos (by decide +kernel)]; kernel_rfl) | (rw [if_neg (by decide +kernel)]; exact ⟨rfl, rfl⟩))
    (fun os started H enc _ => scoreManyParts_lifted os started H enc)
#print axioms scoreManyParts_holds
end Go.Proofs.Ytnlhhjmheghnnaa
