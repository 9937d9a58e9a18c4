import Derived.Test.YtnlhhjmheghnnaaRows
import Derived.WalkKit
import Derived.Shelf.Spec.SlicesInsertGrow
set_option linter.unusedVariables false
set_option linter.unusedSimpArgs false
namespace Go.Proofs.Ins
open Go.RowKit Go.Lib
theorem ins103_skip (a : Option Addr) (a2 : Option Addr) (len cap i cp : Nat) (w : World) (hi : i ≤ len) (hl : len ≤ cap) (hn : a = none→cap = 0) :
    Calls Try.prog 103 #[.slice a len cap,.int .i64 i,.slice a2 0 cp] w fun e w' => e = .returned (.slice a len cap)∧w' = w:=by
  have hz3 : (0 : Int) ≤ (i : Int):=by omega
  have hz4 : (i : Int) ≤ (cap : Int):=by omega
  have hz5 : (i : Int) ≤ (len : Int):=by omega
  cases a with
  | none =>
    have:=hn rfl
    subst this
    obtain rfl : len = 0:=by omega
    obtain rfl : i = 0:=by omega
    go_enter Try.func103,Try.ntmps103
    go_wp2
    all_goals (go_ret; exact ⟨rfl,rfl⟩)
  | some a =>
    go_enter Try.func103,Try.ntmps103
    go_wp2
    all_goals (go_ret; exact ⟨rfl,rfl⟩)
theorem ins103_nil (m cp : Nat) (a : Option Addr) (w w1 : World) (v : Value) (hm : 0 < m)
    (hrun : ∀ ty,(Builtin.append_ #[23,23] ty #[.slice none 0 0,.slice a m cp]).run Try.prog w = .ok v w1) :
    Calls Try.prog 103 #[.slice none 0 0,.int .i64 0,.slice a m cp] w fun e w' => e = .returned v∧w' = w1:=by
  have hz1 : ¬ ((m : Int) = 0):=by omega
  go_enter Try.func103,Try.ntmps103
  go_wp2_with (first
    | (at_builtin; refine Lib.wpList_append_run _ rfl _ _ _ _ rfl _ _ rfl rfl _ _ (hrun _) ?_))
  all_goals (go_ret; exact ⟨rfl,rfl⟩)
theorem ins103_end (c len cap m cp : Nat) (a : Option Addr) (w w1 : World) (v : Value) (hm : 0 < m) (hl : len ≤ cap)
    (hrun : ∀ ty,(Builtin.append_ #[23,23] ty #[.slice (some ⟨c,0,none⟩) len cap,.slice a m cp]).run Try.prog w = .ok v w1) :
    Calls Try.prog 103 #[.slice (some ⟨c,0,none⟩) len cap,.int .i64 len,.slice a m cp] w fun e w' => e = .returned v∧w' = w1:=by
  have hz1 : ¬ ((m : Int) = 0):=by omega
  have hz3 : (0 : Int) ≤ (len : Int):=by omega
  have hz4 : (len : Int) ≤ (cap : Int):=by omega
  go_enter Try.func103,Try.ntmps103
  go_wp2_with (first
    | (at_builtin; refine Lib.wpList_append_run _ rfl _ _ _ _ rfl _ _ rfl rfl _ _ (hrun _) ?_))
  all_goals (go_ret; exact ⟨rfl,rfl⟩)
set_option maxHeartbeats 4000000 in
set_option maxRecDepth 100000 in
theorem ins103_grow (c len cap i m cp K N : Nat) (a : Addr) (w w1 w2 w3 : World) (hi : i < len) (hm : 0 < m) (hl : len ≤ cap) (hroom : cap < len + m) (hbig : len + m < 2 ^ 40) (hK : len + m ≤ K)
    (hrz : ∀ ty,(Builtin.append_ #[23,3] ty #[.slice (some ⟨c,0,none⟩) i cap,.int .i64 ((len : Int) + (m : Int) - (i : Int))]).run Try.prog w = .ok (.slice (some ⟨N,0,none⟩) (len + m) K) w1)
    (hcA : ∀ ty,(Builtin.copy_ #[23,23] ty #[.slice (some ⟨N,i * 22,none⟩) (len + m - i) (K - i),.slice (some a) m cp]).run Try.prog w1 = .ok (goInt m) w2)
    (hcB : ∀ ty,(Builtin.copy_ #[23,23] ty #[.slice (some ⟨N,(i + m) * 22,none⟩) (len + m - (i + m)) (K - (i + m)),.slice (some ⟨c,i * 22,none⟩) (len - i) (cap - i)]).run Try.prog w2.drew = .ok (goInt (len - i : Nat)) w3) :
    Calls Try.prog 103 #[.slice (some ⟨c,0,none⟩) len cap,.int .i64 i,.slice (some a) m cp] w fun e w' => e = .returned (.slice (some ⟨N,0,none⟩) (len + m) K)∧w' = w3:=by
  have hz1 : ¬ ((m : Int) = 0):=by omega
  have hz2 : ¬ ((i : Int) = (len : Int)):=by omega
  have hz3 : (cap : Int) < (len : Int) + (m : Int):=by omega
  have hw1 : IntKind.i64.wrap ((i : Int) + (m : Int)) = (i : Int) + (m : Int):=by rw [IntKind.wrap_i64]; omega
  have hw2 : IntKind.i64.wrap ((len : Int) + (m : Int)) = (len : Int) + (m : Int):=by rw [IntKind.wrap_i64]; omega
  have hw3 : IntKind.i64.wrap ((len : Int) + (m : Int) - (i : Int)) = (len : Int) + (m : Int) - (i : Int):=by rw [IntKind.wrap_i64]; omega
  have hz5 : (0 : Int) ≤ (i : Int):=by omega
  have hz6 : (i : Int) ≤ (cap : Int):=by omega
  have hz7 : (i : Int) ≤ (len : Int):=by omega
  have hz8 : (0 : Int) ≤ (i : Int) + (m : Int):=by omega
  have hz9 : (i : Int) + (m : Int) ≤ (len : Int) + (m : Int):=by omega
  have htn : ((i : Int) + (m : Int)).toNat = i + m:=by omega
  have hGi : ¬ (K = i):=by omega
  have hGim : ¬ (K = i + m):=by omega
  have hci : ¬ (cap = i):=by omega
  have mixed : Try.prog.follows .mixedOrders = true:=by kernel_rfl
  go_enter Try.func103,Try.ntmps103
  go_wp2_with (first
    | (at_builtin; refine Lib.wpList_append_run _ rfl _ _ _ _ rfl _ _ rfl rfl _ _ (hrz _) ?_)
    | (at_builtin; refine wpList_copy_runI _ rfl _ _ 23 23 rfl _ _ rfl rfl (hcA _) ?_))
  go_region_law_o (refine step_copy_runI rfl _ _ 23 23 rfl (.slice (some ⟨N,(i + m) * 22,none⟩) (len + m - (i + m)) (K - (i + m))) (.slice (some ⟨c,i * 22,none⟩) (len - i) (cap - i)) (by simp [Act.eval,Act.put]) (by simp [Act.eval,Act.put]) (hcB _) ?_)
  go_wp2
  go_ret
  exact ⟨rfl,rfl⟩
set_option maxHeartbeats 4000000 in
set_option maxRecDepth 100000 in
theorem ins103_room (c len cap i m cp : Nat) (a : Addr) (w w1 w2 : World) (hi : i < len) (hm : 0 < m) (hl : len ≤ cap) (hroom : len + m ≤ cap) (hbig : len + m < 2 ^ 40)
    (hov : (callFunc 133 #[.slice (some a) m cp,.slice (some ⟨c,(i + m) * 22,none⟩) (len + m - (i + m)) (cap - (i + m))]).run Try.prog w = .ok (.value (.bool false)) w)
    (hcA : ∀ ty,(Builtin.copy_ #[23,23] ty #[.slice (some ⟨c,(i + m) * 22,none⟩) (len + m - (i + m)) (cap - (i + m)),.slice (some ⟨c,i * 22,none⟩) (len + m - i) (cap - i)]).run Try.prog w.drew = .ok (goInt (len - i : Nat)) w1)
    (hcB : ∀ ty,(Builtin.copy_ #[23,23] ty #[.slice (some ⟨c,i * 22,none⟩) (len + m - i) (cap - i),.slice (some a) m cp]).run Try.prog w1 = .ok (goInt m) w2) :
    Calls Try.prog 103 #[.slice (some ⟨c,0,none⟩) len cap,.int .i64 i,.slice (some a) m cp] w fun e w' => e = .returned (.slice (some ⟨c,0,none⟩) (len + m) cap)∧w' = w2:=by
  have hz1 : ¬ ((m : Int) = 0):=by omega
  have hz2 : ¬ ((i : Int) = (len : Int)):=by omega
  have hz3 : ¬ ((cap : Int) < (len : Int) + (m : Int)):=by omega
  have hw1 : IntKind.i64.wrap ((i : Int) + (m : Int)) = (i : Int) + (m : Int):=by rw [IntKind.wrap_i64]; omega
  have hw2 : IntKind.i64.wrap ((len : Int) + (m : Int)) = (len : Int) + (m : Int):=by rw [IntKind.wrap_i64]; omega
  have hz5 : (0 : Int) ≤ (i : Int):=by omega
  have hz6 : (i : Int) ≤ (cap : Int):=by omega
  have hz7 : (i : Int) ≤ (len : Int):=by omega
  have hz8 : (0 : Int) ≤ (i : Int) + (m : Int):=by omega
  have hz9 : (i : Int) + (m : Int) ≤ (len : Int) + (m : Int):=by omega
  have hza : (0 : Int) ≤ (len : Int) + (m : Int):=by omega
  have hzb : (len : Int) + (m : Int) ≤ (cap : Int):=by omega
  have hzc : (i : Int) ≤ (len : Int) + (m : Int):=by omega
  have htn : ((i : Int) + (m : Int)).toNat = i + m:=by omega
  have htn2 : ((len : Int) + (m : Int)).toNat = len + m:=by omega
  have hGim : ¬ (cap = i + m):=by omega
  have hci : ¬ (cap = i):=by omega
  have mixed : Try.prog.follows .mixedOrders = true:=by kernel_rfl
  go_enter Try.func103,Try.ntmps103
  go_wp2_with (simp only [hov])
  go_region_law_o (refine step_copy_runI rfl _ _ 23 23 rfl (.slice (some ⟨c,(i + m) * 22,none⟩) (len + m - (i + m)) (cap - (i + m))) (.slice (some ⟨c,i * 22,none⟩) (len + m - i) (cap - i)) (by simp [Act.eval,Act.put]) (by simp [Act.eval,Act.put]) (hcA _) ?_)
  go_wp2_with (at_builtin; refine wpList_copy_runI _ rfl _ _ 23 23 rfl _ _ rfl rfl (hcB _) ?_)
  go_ret
  exact ⟨rfl,rfl⟩
theorem ins103_apart (c cv o o2 la ca lb cb : Nat) (w : World) (cells cellsv : Array Value) (e ev : TypeId) (hne : cv ≠ c) (h1 : w.heap[cv]? = some (.cells cellsv ev (0,0))) (h2 : w.heap[c]? = some (.cells cells e (0,0))) (h3 : cells.size ≠ 0) :
    (callFunc 133 #[.slice (some ⟨cv,o,none⟩) la ca,.slice (some ⟨c,o2,none⟩) lb cb]).run Try.prog w = .ok (.value (.bool false)) w:=by
  rw [run_callFunc_extern Try.func133 (by kernel_rfl) (by kernel_rfl) (by kernel_rfl) (e:=Extern.SlicesOverlaps.overlaps #[23,23] #[4]) (by kernel_rfl)]
  rw [Lib.run_overlaps_apart w 23 4 76 Try.underlying23 22 Try.sizeOf76 ⟨cv,o,none⟩ ⟨c,o2,none⟩ la ca lb cb hne ev e cellsv.size cells.size (by simp [World.shape?,h1]) (by simp [World.shape?,h2]) h3 (by simp [World.frozen?,h1]) (by simp [World.frozen?,h1])]
  rfl
end Go.Proofs.Ins
