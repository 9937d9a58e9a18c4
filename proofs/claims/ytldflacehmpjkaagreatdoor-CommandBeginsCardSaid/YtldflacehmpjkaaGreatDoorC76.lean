/- CommandBegins: whatever the site and the number of measures,the law returns true and leaves its arguments as they were. The package-level variables that the row lists start as the program's text lays them. -/
import Derived.Test.YtldflacehmpjkaaGreatDoorWalks0
import Derived.Test.YtldflacehmpjkaaGreatDoorKE
import Derived.Test.YtldflacehmpjkaaGreatDoorHemLaw
import Derived.Test.YtldflacehmpjkaaGreatDoorHemPost
import Derived.Test.YtldflacehmpjkaaGreatDoorJFn
import Derived.Test.YtldflacehmpjkaaGreatDoorRows
import Derived.Test.YtldflacehmpjkaaGreatDoorTie
import Derived.Test.YtldflacehmpjkaaGreatDoorCards
import Derived.WalkKit
import Derived.ProofKit
import Derived.LaidMore
import Derived.LaidSub
import Derived.Lib.LaidTab
import Derived.OpenShut
import Derived.Stop.Joined
import Derived.SevenTiedAt
namespace Go.Proofs.YtldflacehmpjkaaGreatDoor
open Go.ChangeShapes Go.WideShapes Go.ChangeAt Go.WideMaps Go.WideElems Go.RowKit Go.Hem
set_option linter.unusedVariables false
theorem hemOwn : ownKnob Tryz.prog.godebug = none:=by kernel_rfl
theorem hemMixed : Tryz.prog.follows .mixedOrders = true:=by kernel_rfl
def lay48 : List (String × DataW Unit):=Rows.commandBeginsRow.laid
set_option maxRecDepth 100000 in
theorem door_met (os : Os) (args : Array Value) : laidMetH Tryz.prog lay48 ((World.doorLaid Tryz.prog 4000 os).forCall (fun _ _ => 0) ⟨#[],args,[]⟩).memory :=
  laidMetH_of_parts3 (fuel:=8) (laidMet_of_run' 8 (by kernel_rfl) (by kernel_rfl)) (by kernel_rfl) (by kernel_rfl)
set_option maxRecDepth 100000 in
theorem tab55_of {W : World} (h : laidMetH Tryz.prog lay48 W) : Tab55 W:=by
  have h1 := laidMetH.filter (fun x => x.1 == "internal/strconv.uint64pow10") h
  rw [show lay48.filter (fun x => x.1 == "internal/strconv.uint64pow10") = [("internal/strconv.uint64pow10", Lib.tabData .u64 Lib.pow10Tab)] from by kernel_rfl] at h1
  have h2 : laidMet Tryz.prog [("internal/strconv.uint64pow10", Lib.tabData .u64 Lib.pow10Tab)] W := h1
  exact Lib.tabIs_of_head (g:=0) (t:=430) (e:=364) (n:=20) (by kernel_rfl) (by kernel_rfl) (by kernel_rfl) (by kernel_rfl) (by kernel_rfl) (by kernel_rfl) h2
set_option maxRecDepth 100000 in
theorem commandBegins_lifted (os : Os) (started : os.Started) (H : Type) (enc : TypeId × Value→H) :
    ReturnsInHanded {} Tryz.checked os 3 .any (fun w args => (Rows.commandBeginsSpec.pre enc Tryz.prog Tryz.f3 [] false w args∧laidMetH Tryz.prog lay48 w)∧sizedMet enc Tryz.prog Tryz.f3 (OpenSpec.ofChange Rows.commandBeginsSpec) false w args)
      (Rows.commandBeginsSpec.post enc Tryz.prog Tryz.f3 false true false false):=by
  refine returnsInHanded_of_change_and (C:=Tryz.checked) (X:=fun w _ => laidMetH Tryz.prog lay48 w) (fun _ _ _ hh h => h.of_heap hh) hemOwn started (by kernel_rfl) Tryz.func3
    (ChangeSpec.witness_shaped (enc:=enc) (C:=Tryz.checked) (os:=os) (X:=fun w _ => laidMetH Tryz.prog lay48 w) false (World.doorLaid Tryz.prog 4000 os) #[.int .i64 0,.int .i64 0] 8 rfl (World.shaped_of_RefB (by kernel_rfl) (by kernel_rfl)) (by kernel_rfl) (by kernel_rfl) (by kernel_rfl) (door_met os _)) ?_
  intro W base args ds gs before hval0 hW _ _ hL _
  have hval : ∀ (j : Nat) t v,Tryz.f3.params[j]? = some t→args[j]? = some v→Value.okWide Tryz.prog W .any base t v:=hval0
  have hW':=hW
  obtain ⟨p,q,hA0,hV,rfl,hfz,hnd⟩:=hW
  have hA : DataW.TrodAll enc Tryz.prog W 0 (fun _ => true) true Tryz.f3.params.toList args.toList ds p:=hA0
  rw [Tryz.params3] at hA hval
  obtain ⟨v0,v1,d0,d1,p0,p1,rfl,rfl,rfl,h0,h1⟩:=trodAll_two hA
  obtain ⟨rfl,rfl⟩:=trodVars_none hV
  obtain ⟨a,rfl,rfl,rfl,wa⟩:=open_int Tryz.underlying3 (hval 0 3 v0 rfl rfl) h0
  obtain ⟨b,rfl,rfl,rfl,wb⟩:=open_int Tryz.underlying3 (hval 1 3 v1 rfl rfl) h1
  clear hA0 hval0
  have key : Calls Tryz.prog 3 #[.int .i64 a,.int .i64 b] W fun e W' => e = .returned (.bool true)∧Grown2 W W'∧Below W.heap.size W W':=by
    by_cases q : (a < 0 ∨ 99 < a) ∨ (b < 1 ∨ 40 < b)
    · exact law_walk (σ:=0) hemMixed (other_pv q) (VRs.cons (.sc (.int .i64 a)) (VRs.cons (.sc (.int .i64 b)) VRs.nil)) (polI_ok (tab55_of hL) hemMixed)
    · exact law_walk (σ:=a) hemMixed (begins_pv (n:=b) (by omega) (by omega)) (VRs.cons (vr_sym (by omega) (by omega)) (VRs.cons (.sc (.int .i64 b)) VRs.nil)) (polI_ok (tab55_of hL) hemMixed)
  refine key.mono fun e W' ⟨he,hg,hb⟩ => ?_
  subst he
  exact ⟨_,rfl,post_of_same2 (pa:=[] ++ []) (pv:=[]) hW' (fun _ _ _ => trodAll_mk1 (shut_bool Tryz.underlying4 _)) (fun sp hsp => trodAll_mk2 (shut_int Tryz.underlying3 wa) (shut_int Tryz.underlying3 wb)) (fun _ _ => rfl) (by simp)
    (World.keptBut_mono (fun _ f => f.elim) hg.1) hg.2.1 (ok_one (by kernel_rfl) rfl (okWide_bool_mk Tryz.underlying4 _))⟩
theorem commandBegins_row : Rows.CommandBeginsSaid :=
  OpenClaim.holds_of_wide 3 Tryz.f3 rfl rfl rfl rfl rfl rfl rfl ⟨rfl,rfl,rfl,rfl,rfl⟩ rfl rfl rfl rfl rfl (by kernel_rfl) Tryz.func3 jfs
    (of_decide_eq_true (by kernel_rfl)) (by unfold Func.isWrapper; first | (rw [if_pos (by decide +kernel)]; kernel_rfl) | (rw [if_neg (by decide +kernel)]; exact ⟨rfl,rfl⟩))
    (fun os started H enc _ => commandBegins_lifted os started H enc)
/-- No function of the program has a go statement: so this call comes to none. -/
theorem noGo : (Tryz.prog.funcs.toList.all fun fn => !fn.goes) = true:=by kernel_rfl
theorem noGoAny : Tryz.prog.funcs.any Func.goes = false:=by
  cases h : Tryz.prog.funcs.any Func.goes with
  | false => rfl
  | true =>
    obtain ⟨i,hi,hg⟩:=Array.any_eq_true.1 h
    have:=List.all_eq_true.1 noGo Tryz.prog.funcs[i] (by simp)
    rw [hg] at this; cases this
theorem noGoFrom (f : FuncId) : Tryz.prog.goes f = false:=by
  unfold Program.goes
  rw [noGoAny,Bool.and_false,Bool.or_false]
  cases h : (Tryz.prog.closure f).any fun g => (Tryz.prog.funcs[g]?).any Func.goes with
  | false => rfl
  | true =>
    obtain ⟨g,_,hg⟩:=List.any_eq_true.1 h
    cases q : Tryz.prog.funcs[g]? with
    | none => rw [q] at hg; cases hg
    | some fn =>
      rw [q] at hg
      have hm : fn ∈ Tryz.prog.funcs.toList:=by
        obtain ⟨hi,rfl⟩:=Array.getElem?_eq_some_iff.1 q
        simp
      have:=List.all_eq_true.1 noGo fn hm
      rw [show fn.goes = true from hg] at this; cases this
theorem noGoBy (c : OpenClaim) (h : c.start = .entering) : false = c.goesBy Tryz.prog:=by
  unfold OpenClaim.goesBy Program.goesAt Program.goesFrom
  rw [h]
  simp only [Bool.or_false]
  cases q : Tryz.prog.funcNamed c.func with
  | none => rfl
  | some f => rw [Option.any_some,noGoFrom f]
set_option maxRecDepth 100000 in
theorem commandBegins_card : Rows.CommandBeginsCardSaid :=
  Claim7.holds_tied_plain_at .later [] [.data,.data,.data] true Rows.commandBeginsCard.stood.harness false
    commandBegins_row (fun _ h => by cases h) (by kernel_rfl) (fun _ h => by cases h) commandBegins_row_tie rfl ⟨rfl,rfl⟩ (by kernel_rfl) rfl
    (fun f fn hf hfn => by
      obtain rfl : f = 3:=Option.some.inj ((show Tryz.prog.funcNamed Rows.commandBeginsRow.func = some 3 by kernel_rfl).symm.trans hf) |>.symm
      obtain rfl : fn = Tryz.f3:=(Option.some.inj (Tryz.func3.symm.trans hfn)).symm
      exact ⟨by kernel_rfl,fun j t ht => by
        rw [Tryz.params3] at ht
        have hm : t ∈ [3,3]:=by simpa using Array.mem_of_getElem? ht
        have hall : ([3,3].all fun u => !Tryz.prog.wantsStandIn u) = true:=by kernel_rfl
        exact (show Tryz.prog.wantsStandIn t = false by simpa using List.all_eq_true.1 hall t hm)⟩)
    (noGoBy _ rfl)
end Go.Proofs.YtldflacehmpjkaaGreatDoor
