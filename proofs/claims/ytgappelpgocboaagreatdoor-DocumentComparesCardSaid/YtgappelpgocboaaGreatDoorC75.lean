/- DocumentCompares: whatever the three entries,the law returns true and leaves its arguments as they were. The package-level variables that the row lists start as the program's text lays them. -/
import Derived.Test.YtgappelpgocboaaGreatDoorWalks0
import Derived.Test.YtgappelpgocboaaGreatDoorHemSh53
import Derived.Test.YtgappelpgocboaaGreatDoorHemPost
import Derived.Test.YtgappelpgocboaaGreatDoorJFn
import Derived.Test.YtgappelpgocboaaGreatDoorRows
import Derived.Test.YtgappelpgocboaaGreatDoorTie
import Derived.Test.YtgappelpgocboaaGreatDoorCards
import Derived.WalkKit
import Derived.ProofKit
import Derived.LaidMore
import Derived.LaidSub
import Derived.Lib.LaidTab
import Derived.OpenShut
import Derived.Stop.Joined
import Derived.SevenTiedAt
namespace Go.Proofs.YtgappelpgocboaaGreatDoor
open Go.ChangeShapes Go.WideShapes Go.ChangeAt Go.WideMaps Go.WideElems Go.RowKit Go.Hem
set_option linter.unusedVariables false
theorem hemOwn : ownKnob Tryz.prog.godebug = none:=by kernel_rfl
theorem hemLaid : laidOutB Tryz.prog = true:=by kernel_rfl
theorem hemMixed : Tryz.prog.follows .mixedOrders = true:=by kernel_rfl
theorem shEntry : shOf Tryz.prog 20 36 = some Entry.sh:=by kernel_rfl
def lay53 : List (String × DataW Unit):=Rows.documentComparesRow.laid
set_option maxRecDepth 100000 in
theorem door_met (os : Os) (args : Array Value) : laidMetH Tryz.prog lay53 ((World.doorLaid Tryz.prog 4000 os).forCall (fun _ _ => 0) ⟨#[],args,[]⟩).memory :=
  laidMetH_of_parts3 (fuel:=8) (laidMet_of_run' 8 (by kernel_rfl) (by kernel_rfl)) (by kernel_rfl) (by kernel_rfl)
set_option maxRecDepth 100000 in
theorem tab55_of {W : World} (h : laidMetH Tryz.prog lay53 W) : Tab55 W:=by
  have h1 := laidMetH.filter (fun x => x.1 == "internal/strconv.uint64pow10") h
  rw [show lay53.filter (fun x => x.1 == "internal/strconv.uint64pow10") = [("internal/strconv.uint64pow10", Lib.tabData .u64 Lib.pow10Tab)] from by kernel_rfl] at h1
  have h2 : laidMet Tryz.prog [("internal/strconv.uint64pow10", Lib.tabData .u64 Lib.pow10Tab)] W := h1
  exact Lib.tabIs_of_head (g:=0) (t:=384) (e:=307) (n:=20) (by kernel_rfl) (by kernel_rfl) (by kernel_rfl) (by kernel_rfl) (by kernel_rfl) (by kernel_rfl) h2
set_option maxRecDepth 100000 in
theorem documentCompares_lifted (os : Os) (started : os.Started) (H : Type) (enc : TypeId × Value→H) :
    ReturnsInHanded {} Tryz.checked os 3 .any (fun w args => (Rows.documentComparesSpec.pre enc Tryz.prog Tryz.f3 [] false w args∧laidMetH Tryz.prog lay53 w)∧sizedMet enc Tryz.prog Tryz.f3 (OpenSpec.ofChange Rows.documentComparesSpec) false w args)
      (Rows.documentComparesSpec.post enc Tryz.prog Tryz.f3 false true false false):=by
  refine returnsInHanded_of_change_and (C:=Tryz.checked) (X:=fun w _ => laidMetH Tryz.prog lay53 w) (fun _ _ _ hh h => h.of_heap hh) hemOwn started (by kernel_rfl) Tryz.func3
    (ChangeSpec.witness_shaped (enc:=enc) (C:=Tryz.checked) (os:=os) (X:=fun w _ => laidMetH Tryz.prog lay53 w) false (World.doorLaid Tryz.prog 4000 os) #[.agg #[.int .i64 0,.int .i64 0,.int .i64 0,.int .i64 0,.int .i64 0,.int .i64 0,.int .i64 0,.int .i64 0,.int .i64 0,.int .i64 0,.int .i64 0,.int .i64 0,.int .i64 0,.int .i64 0,.int .i64 0,.int .i64 0,.int .i64 0,.int .i64 0,.int .i64 0,.int .i64 0,.int .i64 0,.int .i64 0,.int .i64 0,.int .i64 0,.int .i64 0,.int .i64 0,.int .i64 0,.int .i64 0,.int .i64 0,.int .i64 0,.string ⟨#[]⟩],.agg #[.int .i64 0,.int .i64 0,.int .i64 0,.int .i64 0,.int .i64 0,.int .i64 0,.int .i64 0,.int .i64 0,.int .i64 0,.int .i64 0,.int .i64 0,.int .i64 0,.int .i64 0,.int .i64 0,.int .i64 0,.int .i64 0,.int .i64 0,.int .i64 0,.int .i64 0,.int .i64 0,.int .i64 0,.int .i64 0,.int .i64 0,.int .i64 0,.int .i64 0,.int .i64 0,.int .i64 0,.int .i64 0,.int .i64 0,.int .i64 0,.string ⟨#[]⟩],.agg #[.int .i64 0,.int .i64 0,.int .i64 0,.int .i64 0,.int .i64 0,.int .i64 0,.int .i64 0,.int .i64 0,.int .i64 0,.int .i64 0,.int .i64 0,.int .i64 0,.int .i64 0,.int .i64 0,.int .i64 0,.int .i64 0,.int .i64 0,.int .i64 0,.int .i64 0,.int .i64 0,.int .i64 0,.int .i64 0,.int .i64 0,.int .i64 0,.int .i64 0,.int .i64 0,.int .i64 0,.int .i64 0,.int .i64 0,.int .i64 0,.string ⟨#[]⟩]] 8 rfl (World.shaped_of_RefB (by kernel_rfl) (by kernel_rfl)) (by kernel_rfl) (by kernel_rfl) (by kernel_rfl) (door_met os _)) ?_
  intro W base args ds gs before hval0 hW _ _ hL _
  have hval : ∀ (j : Nat) t v,Tryz.f3.params[j]? = some t→args[j]? = some v→Value.okWide Tryz.prog W .any base t v:=hval0
  have hW':=hW
  obtain ⟨p,q,hA0,hV,rfl,hfz,hnd⟩:=hW
  have hA : DataW.TrodAll enc Tryz.prog W 0 (fun _ => true) true Tryz.f3.params.toList args.toList ds p:=hA0
  rw [Tryz.params3] at hA hval
  obtain ⟨v0,v1,v2,d0,d1,d2,p0,p1,p2,rfl,rfl,rfl,h0,h1,h2⟩:=trodAll_three hA
  obtain ⟨rfl,rfl⟩:=trodVars_none hV
  obtain ⟨l0,a0,b0⟩:=arg_struct Tryz.underlying36 (hval 0 36 v0 rfl rfl) shEntry h0
  obtain ⟨x0,rfl⟩:=Entry.opn a0
  obtain ⟨l1,a1,b1⟩:=arg_struct Tryz.underlying36 (hval 1 36 v1 rfl rfl) shEntry h1
  obtain ⟨x1,rfl⟩:=Entry.opn a1
  obtain ⟨l2,a2,b2⟩:=arg_struct Tryz.underlying36 (hval 2 36 v2 rfl rfl) shEntry h2
  obtain ⟨x2,rfl⟩:=Entry.opn a2
  have hlt0 : ∀ y ∈ p0,y.block < W.heap.size:=fun y hy => by simpa using hW'.lt y (by simp [hy])
  have hlt1 : ∀ y ∈ p1,y.block < W.heap.size:=fun y hy => by simpa using hW'.lt y (by simp [hy])
  have hlt2 : ∀ y ∈ p2,y.block < W.heap.size:=fun y hy => by simpa using hW'.lt y (by simp [hy])
  clear hA0 hval0
  refine (law_walk hemMixed (law3_pv x0 x1 x2) (VRs.cons b0 (VRs.cons b1 (VRs.cons b2 VRs.nil))) (polK_ok (tab55_of hL) hemMixed)).mono fun e W' ⟨he,hg,hb⟩ => ?_
  subst he
  exact ⟨_,rfl,post_of_same2 (pa:=p0 ++ (p1 ++ p2)) (pv:=[]) hW' (fun _ _ _ => trodAll_mk1 (shut_bool Tryz.underlying4 _)) (fun sp hsp => trodAll_mk3
      (WideElems.Trod_stays hemLaid (by kernel_rfl) (of_decide_eq_true (by kernel_rfl)) h0 (fun y hy => hb.same (hlt0 y hy)) (fun y hy => hsp y (by simp [hy])))
      (WideElems.Trod_stays hemLaid (by kernel_rfl) (of_decide_eq_true (by kernel_rfl)) h1 (fun y hy => hb.same (hlt1 y hy)) (fun y hy => hsp y (by simp [hy])))
      (WideElems.Trod_stays hemLaid (by kernel_rfl) (of_decide_eq_true (by kernel_rfl)) h2 (fun y hy => hb.same (hlt2 y hy)) (fun y hy => hsp y (by simp [hy])))) (fun _ _ => rfl) (by simp)
    (World.keptBut_mono (fun _ f => f.elim) hg.1) hg.2.1 (ok_one (by kernel_rfl) rfl (okWide_bool_mk Tryz.underlying4 _))⟩
theorem documentCompares_row : Rows.DocumentComparesSaid :=
  OpenClaim.holds_of_wide 3 Tryz.f3 rfl rfl rfl rfl rfl rfl rfl ⟨rfl,rfl,rfl,rfl,rfl⟩ rfl rfl rfl rfl rfl (by kernel_rfl) Tryz.func3 jfs
    (of_decide_eq_true (by kernel_rfl)) (by unfold Func.isWrapper; first | (rw [if_pos (by decide +kernel)]; kernel_rfl) | (rw [if_neg (by decide +kernel)]; exact ⟨rfl,rfl⟩))
    (fun os started H enc _ => documentCompares_lifted os started H enc)
/-- No function of the program has a go statement: so this call comes to none. -/
theorem noGo : (Tryz.prog.funcs.toList.all fun fn => !fn.goes) = true:=by kernel_rfl
theorem noGoAny : Tryz.prog.funcs.any Func.goes = false:=by
  cases h : Tryz.prog.funcs.any Func.goes with
  | false => rfl
  | true =>
    obtain ⟨i,hi,hg⟩:=Array.any_eq_true.1 h
    have:=List.all_eq_true.1 noGo Tryz.prog.funcs[i] (by simp)
    rw [hg] at this; cases this
theorem noGoFrom (f : FuncId) : Tryz.prog.goes f = false:=by
  unfold Program.goes
  rw [noGoAny,Bool.and_false,Bool.or_false]
  cases h : (Tryz.prog.closure f).any fun g => (Tryz.prog.funcs[g]?).any Func.goes with
  | false => rfl
  | true =>
    obtain ⟨g,_,hg⟩:=List.any_eq_true.1 h
    cases q : Tryz.prog.funcs[g]? with
    | none => rw [q] at hg; cases hg
    | some fn =>
      rw [q] at hg
      have hm : fn ∈ Tryz.prog.funcs.toList:=by
        obtain ⟨hi,rfl⟩:=Array.getElem?_eq_some_iff.1 q
        simp
      have:=List.all_eq_true.1 noGo fn hm
      rw [show fn.goes = true from hg] at this; cases this
theorem noGoBy (c : OpenClaim) (h : c.start = .entering) : false = c.goesBy Tryz.prog:=by
  unfold OpenClaim.goesBy Program.goesAt Program.goesFrom
  rw [h]
  simp only [Bool.or_false]
  cases q : Tryz.prog.funcNamed c.func with
  | none => rfl
  | some f => rw [Option.any_some,noGoFrom f]
set_option maxRecDepth 100000 in
theorem documentCompares_card : Rows.DocumentComparesCardSaid :=
  Claim7.holds_tied_plain_at .later [] [.data,.data,.data] true Rows.documentComparesCard.stood.harness false
    documentCompares_row (fun _ h => by cases h) (by kernel_rfl) (fun _ h => by cases h) documentCompares_row_tie rfl ⟨rfl,rfl⟩ (by kernel_rfl) rfl
    (fun f fn hf hfn => by
      obtain rfl : f = 3:=Option.some.inj ((show Tryz.prog.funcNamed Rows.documentComparesRow.func = some 3 by kernel_rfl).symm.trans hf) |>.symm
      obtain rfl : fn = Tryz.f3:=(Option.some.inj (Tryz.func3.symm.trans hfn)).symm
      exact ⟨by kernel_rfl,fun j t ht => by
        rw [Tryz.params3] at ht
        have hm : t ∈ [36,36,36]:=by simpa using Array.mem_of_getElem? ht
        have hall : ([36,36,36].all fun u => !Tryz.prog.wantsStandIn u) = true:=by kernel_rfl
        exact (show Tryz.prog.wantsStandIn t = false by simpa using List.all_eq_true.1 hall t hm)⟩)
    (noGoBy _ rfl)
end Go.Proofs.YtgappelpgocboaaGreatDoor
