/- ScriptExpressions: whatever the arguments,the law returns true and leaves its arguments as they were. The package-level variables that the row lists start as the program's text lays them. -/
import Derived.Test.YteeikpjhfdjjfaaGreatDoorWalks1
import Derived.Test.YteeikpjhfdjjfaaGreatDoorHemPost
import Derived.Test.YteeikpjhfdjjfaaGreatDoorJFn
import Derived.Test.YteeikpjhfdjjfaaGreatDoorTieM
import Derived.Test.YteeikpjhfdjjfaaGreatDoorRows
import Derived.Test.YteeikpjhfdjjfaaGreatDoorCards
import Derived.WalkKit
import Derived.ChangeMaps5
import Derived.ProofKit
import Derived.LaidMore
import Derived.LaidSub
import Derived.Lay
import Derived.Lib.LaidTab
import Derived.OpenShut
import Derived.Stop.Joined
import Derived.SevenTiedAt
namespace Go.Proofs.YteeikpjhfdjjfaaGreatDoor
open Go.ChangeMaps Go.ChangeShapes Go.WideShapes Go.ChangeAt Go.WideMaps Go.WideElems Go.RowKit Go.Hem
set_option linter.unusedVariables false
theorem hemOwn : ownKnob Tryz.prog.godebug = none:=by kernel_rfl
theorem hemMixed : Tryz.prog.follows .mixedOrders = true:=by kernel_rfl
def lay55 : List (String × DataW Unit):=Rows.scriptExpressionsRow.laid
set_option maxRecDepth 100000 in
theorem all_plain : ∀ w,laidMetH Tryz.prog lay55 w = laidMet Tryz.prog lay55 w:=fun w => MakeChecks.laidMetH_plain _ _ _ (by kernel_rfl)
set_option maxRecDepth 100000 in
theorem all_fits (os : Os) : (World.holding Tryz.prog os ⟨#[],#[],[]⟩).layFits Tryz.prog lay55 [] = true:=by kernel_rfl
set_option maxRecDepth 100000 in
theorem all_ifaces (os : Os) : (World.holding Tryz.prog os ⟨#[],#[],[]⟩).layIfaces Tryz.prog lay55 (World.laidAll Tryz.prog os lay55) = true:=by kernel_rfl
theorem all_met (os : Os) (args : Array Value) : laidMetH Tryz.prog lay55 ((World.laidAll Tryz.prog os lay55).forCall (fun _ _ => 0) ⟨#[],args,[]⟩).memory:=by
  rw [all_plain]
  exact laidMet_laidAll _ (all_fits os) (all_ifaces os)
set_option maxRecDepth 100000 in
theorem tab55_of {W : World} (h : laidMetH Tryz.prog lay55 W) : Tab55 W:=by
  have h1 := laidMetH.filter (fun x => x.1 == "internal/strconv.uint64pow10") h
  rw [show lay55.filter (fun x => x.1 == "internal/strconv.uint64pow10") = [("internal/strconv.uint64pow10", Lib.tabData .u64 Lib.pow10Tab)] from by kernel_rfl] at h1
  have h2 : laidMet Tryz.prog [("internal/strconv.uint64pow10", Lib.tabData .u64 Lib.pow10Tab)] W := h1
  exact Lib.tabIs_of_head (g:=3) (t:=584) (e:=236) (n:=20) (by kernel_rfl) (by kernel_rfl) (by kernel_rfl) (by kernel_rfl) (by kernel_rfl) (by kernel_rfl) h2
set_option maxRecDepth 100000 in
theorem scriptExpressions_lifted (os : Os) (started : os.Started) (H : Type) (enc : TypeId × Value→H) :
    ReturnsInHanded {} Tryz.checked os 3 .any (fun w args => (Rows.scriptExpressionsSpec.pre enc Tryz.prog Tryz.f3 [] false w args∧laidMetH Tryz.prog lay55 w)∧sizedMet enc Tryz.prog Tryz.f3 (OpenSpec.ofChange Rows.scriptExpressionsSpec) false w args)
      (Rows.scriptExpressionsSpec.post enc Tryz.prog Tryz.f3 false true false false):=by
  refine returnsInHanded_of_change_and (C:=Tryz.checked) (X:=fun w _ => laidMetH Tryz.prog lay55 w) (fun _ _ _ hh h => h.of_heap hh) hemOwn started (by kernel_rfl) Tryz.func3
    (ChangeSpec.witness_shaped (enc:=enc) (C:=Tryz.checked) (os:=os) (X:=fun w _ => laidMetH Tryz.prog lay55 w) false (World.laidAll Tryz.prog os lay55) #[.int .i64 0,.int .i64 0,.int .u8 0] 8 (World.laidAll_os _ _ _) (World.shaped_of_ZipB (by kernel_rfl) (by kernel_rfl)) (by kernel_rfl) (by kernel_rfl) (by kernel_rfl) (all_met os _)) ?_
  intro W base args ds gs before hval0 hW _ _ hL _
  have hval : ∀ (j : Nat) t v,Tryz.f3.params[j]? = some t→args[j]? = some v→Value.okWide Tryz.prog W .any base t v:=hval0
  have hW':=hW
  obtain ⟨p,q,hA0,hV,rfl,hfz,hnd⟩:=hW
  have hA : DataW.TrodAll enc Tryz.prog W 0 (fun _ => true) true Tryz.f3.params.toList args.toList ds p:=hA0
  rw [Tryz.params3] at hA hval
  obtain ⟨v0,v1,v2,d0,d1,d2,p0,p1,p2,rfl,rfl,rfl,h0,h1,h2⟩:=trodAll_three hA
  obtain ⟨rfl,rfl⟩:=trodVars_none hV
  obtain ⟨x0,rfl,rfl,rfl,wx0⟩:=open_int Tryz.underlying3 (hval 0 3 v0 rfl rfl) h0
  obtain ⟨x1,rfl,rfl,rfl,wx1⟩:=open_int Tryz.underlying3 (hval 1 3 v1 rfl rfl) h1
  obtain ⟨x2,rfl,rfl,rfl,wx2⟩:=open_int Tryz.underlying5 (hval 2 5 v2 rfl rfl) h2
  clear hA0 hval0
  have hb0:=wx0
  simp only [Lit.wf,Bool.and_eq_true,decide_eq_true_eq] at hb0
  have hb1:=wx1
  simp only [Lit.wf,Bool.and_eq_true,decide_eq_true_eq] at hb1
  have hb2:=wx2
  simp only [Lit.wf,Bool.and_eq_true,decide_eq_true_eq] at hb2
  have mi64 : IntKind.i64.min = -9223372036854775808:=rfl
  have Mi64 : IntKind.i64.max = 9223372036854775807:=rfl
  have mu8 : IntKind.u8.min = 0:=rfl
  have Mu8 : IntKind.u8.max = 255:=rfl
  refine (law_walk hemMixed (law1_pv x0 x1 x2 (by omega) (by omega) (by omega) (by omega) (by omega) (by omega)) (VRs.cons (.sc (.int .i64 x0)) (VRs.cons (.sc (.int .i64 x1)) (VRs.cons (.sc (.int .u8 x2)) VRs.nil))) (pol55_ok (tab55_of hL) rfl)).mono fun e W' ⟨he,hg,hb⟩ => ?_
  subst he
  exact ⟨_,rfl,post_of_same2 (pa:=[] ++ [] ++ []) (pv:=[]) hW' (fun _ _ _ => trodAll_mk1 (shut_bool Tryz.underlying4 _)) (fun sp hsp => trodAll_mk3 (shut_int Tryz.underlying3 wx0) (shut_int Tryz.underlying3 wx1) (shut_int Tryz.underlying5 wx2)) (fun _ _ => rfl) (by simp)
    (World.keptBut_mono (fun _ f => f.elim) hg.1) hg.2.1 (ok_one (by kernel_rfl) rfl (okWide_bool_mk Tryz.underlying4 _))⟩
theorem scriptExpressions_row : Rows.ScriptExpressionsSaid :=
  OpenClaim.holds_of_wide 3 Tryz.f3 rfl rfl rfl rfl rfl rfl rfl ⟨rfl,rfl,rfl,rfl,rfl⟩ rfl rfl rfl rfl rfl (by kernel_rfl) Tryz.func3 jfs
    (of_decide_eq_true (by kernel_rfl)) (by unfold Func.isWrapper; first | (rw [if_pos (by decide +kernel)]; kernel_rfl) | (rw [if_neg (by decide +kernel)]; exact ⟨rfl,rfl⟩))
    (fun os started H enc _ => scriptExpressions_lifted os started H enc)
/-- No function of the program has a go statement: so this call comes to none. -/
theorem noGo : (Tryz.prog.funcs.toList.all fun fn => !fn.goes) = true:=by kernel_rfl
theorem noGoAny : Tryz.prog.funcs.any Func.goes = false:=by
  cases h : Tryz.prog.funcs.any Func.goes with
  | false => rfl
  | true =>
    obtain ⟨i,hi,hg⟩:=Array.any_eq_true.1 h
    have:=List.all_eq_true.1 noGo Tryz.prog.funcs[i] (by simp)
    rw [hg] at this; cases this
theorem noGoFrom (f : FuncId) : Tryz.prog.goes f = false:=by
  unfold Program.goes
  rw [noGoAny,Bool.and_false,Bool.or_false]
  cases h : (Tryz.prog.closure f).any fun g => (Tryz.prog.funcs[g]?).any Func.goes with
  | false => rfl
  | true =>
    obtain ⟨g,_,hg⟩:=List.any_eq_true.1 h
    cases q : Tryz.prog.funcs[g]? with
    | none => rw [q] at hg; cases hg
    | some fn =>
      rw [q] at hg
      have hm : fn ∈ Tryz.prog.funcs.toList:=by
        obtain ⟨hi,rfl⟩:=Array.getElem?_eq_some_iff.1 q
        simp
      have:=List.all_eq_true.1 noGo fn hm
      rw [show fn.goes = true from hg] at this; cases this
theorem noGoBy (c : OpenClaim) (h : c.start = .entering) : false = c.goesBy Tryz.prog:=by
  unfold OpenClaim.goesBy Program.goesAt Program.goesFrom
  rw [h]
  simp only [Bool.or_false]
  cases q : Tryz.prog.funcNamed c.func with
  | none => rfl
  | some f => rw [Option.any_some,noGoFrom f]
set_option maxRecDepth 100000 in
theorem scriptExpressions_card : Rows.ScriptExpressionsCardSaid :=
  Claim7.holds_tied_plain_at .later [] [.sentinel,.sentinel,.data,.data,.data,.pinned,.data] true Rows.scriptExpressionsCard.stood.harness true
    scriptExpressions_row (fun _ h => by cases h) (by kernel_rfl) (fun _ h => by cases h) scriptExpressions_row_tie rfl ⟨rfl,rfl⟩ (by kernel_rfl) rfl
    (fun f fn hf hfn => by
      obtain rfl : f = 3:=Option.some.inj ((show Tryz.prog.funcNamed Rows.scriptExpressionsRow.func = some 3 by kernel_rfl).symm.trans hf) |>.symm
      obtain rfl : fn = Tryz.f3:=(Option.some.inj (Tryz.func3.symm.trans hfn)).symm
      exact ⟨by kernel_rfl,fun j t ht => by
        rw [Tryz.params3] at ht
        have hm : t ∈ [3,3,5]:=by simpa using Array.mem_of_getElem? ht
        have hall : ([3,3,5].all fun u => !Tryz.prog.wantsStandIn u) = true:=by kernel_rfl
        exact (show Tryz.prog.wantsStandIn t = false by simpa using List.all_eq_true.1 hall t hm)⟩)
    (noGoBy _ rfl)
end Go.Proofs.YteeikpjhfdjjfaaGreatDoor
