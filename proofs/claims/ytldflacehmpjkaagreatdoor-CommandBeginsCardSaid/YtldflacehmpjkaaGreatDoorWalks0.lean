/- Walks. -/
import Derived.Test.YtldflacehmpjkaaGreatDoorKBm
import Derived.Test.YtldflacehmpjkaaGreatDoorHemBun
set_option maxRecDepth 10000
set_option maxHeartbeats 4000000
set_option linter.unusedSimpArgs false
set_option linter.unusedVariables false
namespace Go.Hem
theorem in_yes {n a b : Int} (h1 : a ≤ n) (h2 : n ≤ b) : Pv prog polI 6 [.sc (.int .i64 n),.sc (.int .i64 a),.sc (.int .i64 b)] (.sc (.bool true)):=by
  refine Pv_of' ok6 rfl ?_
  simp -implicitDefEqProofs (maxDischargeDepth:=12) only [wpF,cf6,WZ,seval,h1,h2]
  exact frz_sc
theorem in_no {n a b : Int} (h : n < a ∨ b < n) : Pv prog polI 6 [.sc (.int .i64 n),.sc (.int .i64 a),.sc (.int .i64 b)] (.sc (.bool false)):=by
  refine Pv_of' ok6 rfl ?_
  by_cases h1 : a ≤ n
  · have h2 : ¬ n ≤ b:=by omega
    simp -implicitDefEqProofs (maxDischargeDepth:=12) only [wpF,cf6,WZ,seval,h1,h2]
    exact frz_sc
  · simp -implicitDefEqProofs (maxDischargeDepth:=12) only [wpF,cf6,WZ,seval,h1]
    exact frz_sc
def noScore : AV:=.agg [.sc (.str ⟨#[]⟩),.sc (.bool false),.sc .nils,.sc .nils,.sc .nils,.sc .nils]
theorem frz_pl {u : AV} {H : AHeap} (h : u.plain = true) : Frz u H u:=frz_plain rfl h
theorem empty_pv {s n : Int} (h : s < 0 ∨ 99 < s ∨ n < 1 ∨ 340 < n) : Pv prog polI 5 [.sc (.int .i64 s),.sc (.int .i64 n)] (.tup [noScore,.sc (.int .i64 2)]):=by
  refine Pv_of' ok5 rfl ?_
  by_cases h1 : s < 0
  · simp -implicitDefEqProofs (maxDischargeDepth:=12) only [wpF,cf5,WZ,seval,h1]
    exact frz_pl rfl
  by_cases h2 : 99 < s
  · simp -implicitDefEqProofs (maxDischargeDepth:=12) only [wpF,cf5,WZ,seval,h1,h2]
    exact frz_pl rfl
  by_cases h3 : n < 1
  · simp -implicitDefEqProofs (maxDischargeDepth:=12) only [wpF,cf5,WZ,seval,h1,h2,h3]
    exact frz_pl rfl
  have h4 : 340 < n:=by omega
  simp -implicitDefEqProofs (maxDischargeDepth:=12) only [wpF,cf5,WZ,seval,h1,h2,h3,h4]
  exact frz_pl rfl
theorem big_pv {s n : Int} (h1 : 40 < n) (h2 : n ≤ 340) : Pv prog polI 3 [.sc (.int .i64 s),.sc (.int .i64 n)] (.sc (.bool true)):=by
  refine Pv_of' ok3 rfl ?_
  simp -implicitDefEqProofs (maxDischargeDepth:=12) only [wpF,cf3,WZ,seval]
  refine wA_pure rfl known_pv ?_
  simp -implicitDefEqProofs (maxDischargeDepth:=12) only [WZ,seval,h1,h2]
  refine wA_pure rfl known_pv ?_
  simp -implicitDefEqProofs (maxDischargeDepth:=12) only [WZ,seval]
  exact frz_sc
theorem out_pv {s n : Int} (h : s < 0 ∨ 99 < s ∨ n < 1 ∨ 340 < n) (hn : ¬ (40 < n∧n ≤ 340)) : Pv prog polI 3 [.sc (.int .i64 s),.sc (.int .i64 n)] (.sc (.bool true)):=by
  refine Pv_of' ok3 rfl ?_
  simp -implicitDefEqProofs (maxDischargeDepth:=12) only [wpF,cf3,WZ,seval]
  refine wA_pure rfl known_pv ?_
  by_cases g : 40 < n
  · have g2 : ¬ n ≤ 340:=by omega
    simp -implicitDefEqProofs (maxDischargeDepth:=12) only [WZ,seval,g,g2]
    refine wA_pure rfl (empty_pv h) ?_
    simp -implicitDefEqProofs (maxDischargeDepth:=12) only [WZ,seval,noScore]
    by_cases k : s < 0 ∨ 99 < s
    · refine wA_pure rfl (in_no k) ?_
      simp -implicitDefEqProofs (maxDischargeDepth:=12) only [WZ,seval]
      exact frz_sc
    · refine wA_pure rfl (in_yes (by omega) (by omega)) ?_
      simp -implicitDefEqProofs (maxDischargeDepth:=12) only [WZ,seval]
      refine wA_pure rfl (in_no (by omega)) ?_
      simp -implicitDefEqProofs (maxDischargeDepth:=12) only [WZ,seval]
      exact frz_sc
  · simp -implicitDefEqProofs (maxDischargeDepth:=12) only [WZ,seval,g]
    refine wA_pure rfl (empty_pv h) ?_
    simp -implicitDefEqProofs (maxDischargeDepth:=12) only [WZ,seval,noScore]
    by_cases k : s < 0 ∨ 99 < s
    · refine wA_pure rfl (in_no k) ?_
      simp -implicitDefEqProofs (maxDischargeDepth:=12) only [WZ,seval]
      exact frz_sc
    · refine wA_pure rfl (in_yes (by omega) (by omega)) ?_
      simp -implicitDefEqProofs (maxDischargeDepth:=12) only [WZ,seval]
      refine wA_pure rfl (in_no (by omega)) ?_
      simp -implicitDefEqProofs (maxDischargeDepth:=12) only [WZ,seval]
      exact frz_sc
theorem other_pv {s n : Int} (h : (s < 0 ∨ 99 < s) ∨ (n < 1 ∨ 40 < n)) : Pv prog polI 3 [.sc (.int .i64 s),.sc (.int .i64 n)] (.sc (.bool true)):=by
  by_cases q : 40 < n∧n ≤ 340
  · exact big_pv q.1 q.2
  · exact out_pv (by omega) q
end Go.Hem
