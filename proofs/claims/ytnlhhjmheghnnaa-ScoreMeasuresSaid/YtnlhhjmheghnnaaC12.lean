/- ScoreMeasures: whatever the score, the measures and the place, the law returns true and leaves its arguments as they were. No condition. -/
import Derived.Test.YtnlhhjmheghnnaaWalks2
import Derived.Test.YtnlhhjmheghnnaaHemSh
import Derived.Test.YtnlhhjmheghnnaaHemLaw2
import Derived.Test.YtnlhhjmheghnnaaRows
import Derived.WalkKit
import Derived.ProofKit
import Derived.OpenShut
namespace Go.Proofs.Ytnlhhjmheghnnaa
open Go.ChangeShapes Go.WideShapes Go.ChangeAt Go.RowKit Go.Hem
set_option linter.unusedVariables false
theorem hemOwn : ownKnob Try.prog.godebug = none := by kernel_rfl
theorem hemLaid : laidOutB Try.prog = true := by kernel_rfl
theorem hemMixed : Try.prog.follows .mixedOrders = true := by kernel_rfl
theorem shScore : shOf Try.prog 20 27 = some Score.sh := by kernel_rfl
theorem shMeasures : shOf Try.prog 20 23 = some (.slice Measure.sh) := by kernel_rfl
theorem shPair : shOf Try.prog 20 99 = some Pair.sh := by kernel_rfl
set_option maxRecDepth 100000 in
theorem scoreMeasures_lifted (os : Os) (started : os.Started) (H : Type) (enc : TypeId × Value → H) :
    ReturnsInHanded {} Try.checked os 12 .any (Rows.scoreMeasuresSpec.pre6 enc Try.prog Try.f12 Rows.scoreMeasuresRow.domain false) (Rows.scoreMeasuresSpec.post enc Try.prog Try.f12 false true false false) := by
  refine returnsInHanded_of_change (C := Try.checked) hemOwn started (by kernel_rfl) Try.func12
    (ChangeSpec.witness6 (enc := enc) (C := Try.checked) false ⟨#[], #[.agg #[.string ⟨#[]⟩, .bool false, .slice none 0 0, .slice none 0 0, .slice none 0 0, .slice none 0 0], .slice none 0 0, .agg #[.int .i64 0, .int .i64 0]], []⟩ 8 (by kernel_rfl) (by kernel_rfl) (by kernel_rfl) (by kernel_rfl)) ?_
  intro W base args ds gs before hval0 hW hcnd _
  have hval : ∀ (j : Nat) t v, Try.f12.params[j]? = some t → args[j]? = some v → Value.okWide Try.prog W .any base t v := hval0
  have hW' := hW
  obtain ⟨p, q, hA0, hV, rfl, hfz, hnd⟩ := hW
  have hA : DataW.TrodAll enc Try.prog W 0 (fun _ => true) true Try.f12.params.toList args.toList ds p := hA0
  rw [Try.params12] at hA hval
  obtain ⟨v0, v1, v2, d0, d1, d2, p0, p1, p2, rfl, rfl, rfl, h0, h1, h2⟩ := trodAll_three hA
  obtain ⟨rfl, rfl⟩ := trodVars_none hV
  obtain ⟨l0, a1, a2⟩ := arg_struct Try.underlying27 (hval 0 27 v0 rfl rfl) shScore h0
  obtain ⟨x, rfl⟩ := Score.opn a1
  obtain ⟨l1, b1, b2⟩ := arg_slice Try.underlying23 (hval 1 23 v1 rfl rfl) shMeasures h1
  obtain ⟨y, rfl, _⟩ := slm_open (f := Measure.enc) (fun _ h => Measure.opn h) (fun _ => rfl) b1
  obtain ⟨l2, c1, c2⟩ := arg_arr Try.underlying99 (hval 2 99 v2 rfl rfl) shPair h2
  obtain ⟨i, j, rfl, _⟩ := Pair.opn c1
  have hlt : ∀ y ∈ p0, y.block < W.heap.size := fun y hy => by simpa using hW'.lt y (by simp [hy])
  have hlt1 : ∀ y ∈ p1, y.block < W.heap.size := fun y hy => by simpa using hW'.lt y (by simp [hy])
  have hlt2 : ∀ y ∈ p2, y.block < W.heap.size := fun y hy => by simpa using hW'.lt y (by simp [hy])
  clear hA0 hval0
  refine (law_walk hemMixed (law12_pv x y i j) (VRs.cons a2 (VRs.cons b2.head (VRs.cons c2 VRs.nil))) (insPol_ok rfl)).mono fun e W' ⟨he, hg, hb⟩ => ?_
  subst he
  exact ⟨_, rfl, post_of_same (pa := p0 ++ p1 ++ p2) (pv := []) hW' (fun _ _ _ => trodAll_mk1 (shut_bool Try.underlying4 _)) (fun sp hsp => by
      rw [List.append_assoc]
      exact trodAll_mk3 (WideElems.Trod_stays hemLaid (by kernel_rfl) (of_decide_eq_true (by kernel_rfl)) h0 (fun y hy => hb.same (hlt y hy)) (fun y hy => hsp y (by simp [hy])))
        (WideElems.Trod_stays hemLaid (by kernel_rfl) (of_decide_eq_true (by kernel_rfl)) h1 (fun y hy => hb.same (hlt1 y hy)) (fun y hy => hsp y (by simp [hy])))
        (WideElems.Trod_stays hemLaid (by kernel_rfl) (of_decide_eq_true (by kernel_rfl)) h2 (fun y hy => hb.same (hlt2 y hy)) (fun y hy => hsp y (by simp [hy])))) (fun _ _ => rfl) (by simp)
    (hg.frame _) hg.2.1 (ok_one (by kernel_rfl) rfl (okWide_bool_mk Try.underlying4 _))⟩
theorem scoreMeasures_holds : Rows.ScoreMeasuresSaid :=
  OpenClaim.holds_of_wide 12 Try.f12 rfl rfl rfl rfl rfl rfl rfl ⟨rfl, rfl, rfl, rfl, rfl⟩ rfl rfl rfl rfl rfl (by kernel_rfl) Try.func12 (by kernel_rfl)
    (of_decide_eq_true (by kernel_rfl)) (by unfold Func.isWrapper; first | (rw [if_pos (by decide +kernel)]; kernel_rfl) | (rw [if_neg (by decide +kernel)]; exact ⟨rfl, rfl⟩))
    (fun os started H enc _ => scoreMeasures_lifted os started H enc)
#print axioms scoreMeasures_holds
end Go.Proofs.Ytnlhhjmheghnnaa
