/- The law at any site and 1 to 40 measures; the policy holds. Written by gen48c.py. -/
import Derived.Test.YtldflacehmpjkaaGreatDoorKDe
import Derived.Test.YtldflacehmpjkaaGreatDoorKDa
import Derived.Test.YtldflacehmpjkaaGreatDoorKDf
import Derived.Test.YtldflacehmpjkaaGreatDoorKDc
import Derived.Test.YtldflacehmpjkaaGreatDoorKDb
import Derived.Test.YtldflacehmpjkaaGreatDoorKDd
import Derived.Test.YtldflacehmpjkaaGreatDoorKFa
import Derived.Test.YtldflacehmpjkaaGreatDoorKFc
import Derived.Test.YtldflacehmpjkaaGreatDoorKFb
import Derived.Test.YtldflacehmpjkaaGreatDoorKFd
import Derived.Test.YtldflacehmpjkaaGreatDoorKBm
set_option maxRecDepth 100000
namespace Go.Hem
open Go.Proofs
theorem i36 {k : Nat} : 1 ≤ k→k ≤ 40→isoR 36 cf36 k = true:=upTo40 (p:=fun k => isoR 36 cf36 k = true) i36_1 i36_2 i36_3 i36_4 i36_5 i36_6 i36_7 i36_8 i36_9 i36_10 i36_11 i36_12 i36_13 i36_14 i36_15 i36_16 i36_17 i36_18 i36_19 i36_20 i36_21 i36_22 i36_23 i36_24 i36_25 i36_26 i36_27 i36_28 i36_29 i36_30 i36_31 i36_32 i36_33 i36_34 i36_35 i36_36 i36_37 i36_38 i36_39 i36_40
theorem i37 {k : Nat} : 1 ≤ k→k ≤ 40→isoR 37 cf37 k = true:=upTo40 (p:=fun k => isoR 37 cf37 k = true) i37_1 i37_2 i37_3 i37_4 i37_5 i37_6 i37_7 i37_8 i37_9 i37_10 i37_11 i37_12 i37_13 i37_14 i37_15 i37_16 i37_17 i37_18 i37_19 i37_20 i37_21 i37_22 i37_23 i37_24 i37_25 i37_26 i37_27 i37_28 i37_29 i37_30 i37_31 i37_32 i37_33 i37_34 i37_35 i37_36 i37_37 i37_38 i37_39 i37_40
theorem i38 {k : Nat} : 1 ≤ k→k ≤ 40→isoR 38 cf38 k = true:=upTo40 (p:=fun k => isoR 38 cf38 k = true) i38_1 i38_2 i38_3 i38_4 i38_5 i38_6 i38_7 i38_8 i38_9 i38_10 i38_11 i38_12 i38_13 i38_14 i38_15 i38_16 i38_17 i38_18 i38_19 i38_20 i38_21 i38_22 i38_23 i38_24 i38_25 i38_26 i38_27 i38_28 i38_29 i38_30 i38_31 i38_32 i38_33 i38_34 i38_35 i38_36 i38_37 i38_38 i38_39 i38_40
theorem i39 {k : Nat} : 1 ≤ k→k ≤ 40→isoR 39 cf39 k = true:=upTo40 (p:=fun k => isoR 39 cf39 k = true) i39_1 i39_2 i39_3 i39_4 i39_5 i39_6 i39_7 i39_8 i39_9 i39_10 i39_11 i39_12 i39_13 i39_14 i39_15 i39_16 i39_17 i39_18 i39_19 i39_20 i39_21 i39_22 i39_23 i39_24 i39_25 i39_26 i39_27 i39_28 i39_29 i39_30 i39_31 i39_32 i39_33 i39_34 i39_35 i39_36 i39_37 i39_38 i39_39 i39_40
theorem i40 {k : Nat} : 1 ≤ k→k ≤ 40→isoR 40 cf40 k = true:=upTo40 (p:=fun k => isoR 40 cf40 k = true) i40_1 i40_2 i40_3 i40_4 i40_5 i40_6 i40_7 i40_8 i40_9 i40_10 i40_11 i40_12 i40_13 i40_14 i40_15 i40_16 i40_17 i40_18 i40_19 i40_20 i40_21 i40_22 i40_23 i40_24 i40_25 i40_26 i40_27 i40_28 i40_29 i40_30 i40_31 i40_32 i40_33 i40_34 i40_35 i40_36 i40_37 i40_38 i40_39 i40_40
theorem i41 {k : Nat} : 1 ≤ k→k ≤ 40→isoR 41 cf41 k = true:=upTo40 (p:=fun k => isoR 41 cf41 k = true) i41_1 i41_2 i41_3 i41_4 i41_5 i41_6 i41_7 i41_8 i41_9 i41_10 i41_11 i41_12 i41_13 i41_14 i41_15 i41_16 i41_17 i41_18 i41_19 i41_20 i41_21 i41_22 i41_23 i41_24 i41_25 i41_26 i41_27 i41_28 i41_29 i41_30 i41_31 i41_32 i41_33 i41_34 i41_35 i41_36 i41_37 i41_38 i41_39 i41_40
theorem i42 {k : Nat} : 1 ≤ k→k ≤ 40→isoR 42 cf42 k = true:=upTo40 (p:=fun k => isoR 42 cf42 k = true) i42_1 i42_2 i42_3 i42_4 i42_5 i42_6 i42_7 i42_8 i42_9 i42_10 i42_11 i42_12 i42_13 i42_14 i42_15 i42_16 i42_17 i42_18 i42_19 i42_20 i42_21 i42_22 i42_23 i42_24 i42_25 i42_26 i42_27 i42_28 i42_29 i42_30 i42_31 i42_32 i42_33 i42_34 i42_35 i42_36 i42_37 i42_38 i42_39 i42_40
theorem i43 {k : Nat} : 1 ≤ k→k ≤ 40→isoR 43 cf43 k = true:=upTo40 (p:=fun k => isoR 43 cf43 k = true) i43_1 i43_2 i43_3 i43_4 i43_5 i43_6 i43_7 i43_8 i43_9 i43_10 i43_11 i43_12 i43_13 i43_14 i43_15 i43_16 i43_17 i43_18 i43_19 i43_20 i43_21 i43_22 i43_23 i43_24 i43_25 i43_26 i43_27 i43_28 i43_29 i43_30 i43_31 i43_32 i43_33 i43_34 i43_35 i43_36 i43_37 i43_38 i43_39 i43_40
theorem i44 {k : Nat} : 1 ≤ k→k ≤ 40→isoR 44 cf44 k = true:=upTo40 (p:=fun k => isoR 44 cf44 k = true) i44_1 i44_2 i44_3 i44_4 i44_5 i44_6 i44_7 i44_8 i44_9 i44_10 i44_11 i44_12 i44_13 i44_14 i44_15 i44_16 i44_17 i44_18 i44_19 i44_20 i44_21 i44_22 i44_23 i44_24 i44_25 i44_26 i44_27 i44_28 i44_29 i44_30 i44_31 i44_32 i44_33 i44_34 i44_35 i44_36 i44_37 i44_38 i44_39 i44_40
theorem i45 {k : Nat} : 1 ≤ k→k ≤ 40→isoR 45 cf45 k = true:=upTo40 (p:=fun k => isoR 45 cf45 k = true) i45_1 i45_2 i45_3 i45_4 i45_5 i45_6 i45_7 i45_8 i45_9 i45_10 i45_11 i45_12 i45_13 i45_14 i45_15 i45_16 i45_17 i45_18 i45_19 i45_20 i45_21 i45_22 i45_23 i45_24 i45_25 i45_26 i45_27 i45_28 i45_29 i45_30 i45_31 i45_32 i45_33 i45_34 i45_35 i45_36 i45_37 i45_38 i45_39 i45_40
theorem i46 {k : Nat} : 1 ≤ k→k ≤ 40→isoR 46 cf46 k = true:=upTo40 (p:=fun k => isoR 46 cf46 k = true) i46_1 i46_2 i46_3 i46_4 i46_5 i46_6 i46_7 i46_8 i46_9 i46_10 i46_11 i46_12 i46_13 i46_14 i46_15 i46_16 i46_17 i46_18 i46_19 i46_20 i46_21 i46_22 i46_23 i46_24 i46_25 i46_26 i46_27 i46_28 i46_29 i46_30 i46_31 i46_32 i46_33 i46_34 i46_35 i46_36 i46_37 i46_38 i46_39 i46_40
theorem i47 {k : Nat} : 1 ≤ k→k ≤ 40→isoR 47 cf47 k = true:=upTo40 (p:=fun k => isoR 47 cf47 k = true) i47_1 i47_2 i47_3 i47_4 i47_5 i47_6 i47_7 i47_8 i47_9 i47_10 i47_11 i47_12 i47_13 i47_14 i47_15 i47_16 i47_17 i47_18 i47_19 i47_20 i47_21 i47_22 i47_23 i47_24 i47_25 i47_26 i47_27 i47_28 i47_29 i47_30 i47_31 i47_32 i47_33 i47_34 i47_35 i47_36 i47_37 i47_38 i47_39 i47_40
theorem i48 {k : Nat} : 1 ≤ k→k ≤ 40→isoR 48 cf48 k = true:=upTo40 (p:=fun k => isoR 48 cf48 k = true) i48_1 i48_2 i48_3 i48_4 i48_5 i48_6 i48_7 i48_8 i48_9 i48_10 i48_11 i48_12 i48_13 i48_14 i48_15 i48_16 i48_17 i48_18 i48_19 i48_20 i48_21 i48_22 i48_23 i48_24 i48_25 i48_26 i48_27 i48_28 i48_29 i48_30 i48_31 i48_32 i48_33 i48_34 i48_35 i48_36 i48_37 i48_38 i48_39 i48_40
theorem i49 {k : Nat} : 1 ≤ k→k ≤ 40→isoR 49 cf49 k = true:=upTo40 (p:=fun k => isoR 49 cf49 k = true) i49_1 i49_2 i49_3 i49_4 i49_5 i49_6 i49_7 i49_8 i49_9 i49_10 i49_11 i49_12 i49_13 i49_14 i49_15 i49_16 i49_17 i49_18 i49_19 i49_20 i49_21 i49_22 i49_23 i49_24 i49_25 i49_26 i49_27 i49_28 i49_29 i49_30 i49_31 i49_32 i49_33 i49_34 i49_35 i49_36 i49_37 i49_38 i49_39 i49_40
theorem i50 {k : Nat} : 1 ≤ k→k ≤ 40→isoR 50 cf50 k = true:=upTo40 (p:=fun k => isoR 50 cf50 k = true) i50_1 i50_2 i50_3 i50_4 i50_5 i50_6 i50_7 i50_8 i50_9 i50_10 i50_11 i50_12 i50_13 i50_14 i50_15 i50_16 i50_17 i50_18 i50_19 i50_20 i50_21 i50_22 i50_23 i50_24 i50_25 i50_26 i50_27 i50_28 i50_29 i50_30 i50_31 i50_32 i50_33 i50_34 i50_35 i50_36 i50_37 i50_38 i50_39 i50_40
theorem i51 {k : Nat} : 1 ≤ k→k ≤ 40→isoR 51 cf51 k = true:=upTo40 (p:=fun k => isoR 51 cf51 k = true) i51_1 i51_2 i51_3 i51_4 i51_5 i51_6 i51_7 i51_8 i51_9 i51_10 i51_11 i51_12 i51_13 i51_14 i51_15 i51_16 i51_17 i51_18 i51_19 i51_20 i51_21 i51_22 i51_23 i51_24 i51_25 i51_26 i51_27 i51_28 i51_29 i51_30 i51_31 i51_32 i51_33 i51_34 i51_35 i51_36 i51_37 i51_38 i51_39 i51_40
theorem i52 {k : Nat} : 1 ≤ k→k ≤ 40→isoR 52 cf52 k = true:=upTo40 (p:=fun k => isoR 52 cf52 k = true) i52_1 i52_2 i52_3 i52_4 i52_5 i52_6 i52_7 i52_8 i52_9 i52_10 i52_11 i52_12 i52_13 i52_14 i52_15 i52_16 i52_17 i52_18 i52_19 i52_20 i52_21 i52_22 i52_23 i52_24 i52_25 i52_26 i52_27 i52_28 i52_29 i52_30 i52_31 i52_32 i52_33 i52_34 i52_35 i52_36 i52_37 i52_38 i52_39 i52_40
theorem em_all {k : Nat} : 1 ≤ k→k ≤ 40→emB k = true:=upTo40 (p:=fun k => emB k = true) em_1 em_2 em_3 em_4 em_5 em_6 em_7 em_8 em_9 em_10 em_11 em_12 em_13 em_14 em_15 em_16 em_17 em_18 em_19 em_20 em_21 em_22 em_23 em_24 em_25 em_26 em_27 em_28 em_29 em_30 em_31 em_32 em_33 em_34 em_35 em_36 em_37 em_38 em_39 em_40
theorem id_all {k : Nat} : 1 ≤ k→k ≤ 40→idB k = true:=upTo40 (p:=fun k => idB k = true) id_1 id_2 id_3 id_4 id_5 id_6 id_7 id_8 id_9 id_10 id_11 id_12 id_13 id_14 id_15 id_16 id_17 id_18 id_19 id_20 id_21 id_22 id_23 id_24 id_25 id_26 id_27 id_28 id_29 id_30 id_31 id_32 id_33 id_34 id_35 id_36 id_37 id_38 id_39 id_40
theorem va_all {k : Nat} : 1 ≤ k→k ≤ 40→vaB k = true:=upTo40 (p:=fun k => vaB k = true) va_1 va_2 va_3 va_4 va_5 va_6 va_7 va_8 va_9 va_10 va_11 va_12 va_13 va_14 va_15 va_16 va_17 va_18 va_19 va_20 va_21 va_22 va_23 va_24 va_25 va_26 va_27 va_28 va_29 va_30 va_31 va_32 va_33 va_34 va_35 va_36 va_37 va_38 va_39 va_40
theorem no_all {k : Nat} : 1 ≤ k→k ≤ 40→noB k = true:=upTo40 (p:=fun k => noB k = true) no_1 no_2 no_3 no_4 no_5 no_6 no_7 no_8 no_9 no_10 no_11 no_12 no_13 no_14 no_15 no_16 no_17 no_18 no_19 no_20 no_21 no_22 no_23 no_24 no_25 no_26 no_27 no_28 no_29 no_30 no_31 no_32 no_33 no_34 no_35 no_36 no_37 no_38 no_39 no_40
theorem st_all {k : Nat} : 1 ≤ k→k ≤ 40→stB k = true:=upTo40 (p:=fun k => stB k = true) st_1 st_2 st_3 st_4 st_5 st_6 st_7 st_8 st_9 st_10 st_11 st_12 st_13 st_14 st_15 st_16 st_17 st_18 st_19 st_20 st_21 st_22 st_23 st_24 st_25 st_26 st_27 st_28 st_29 st_30 st_31 st_32 st_33 st_34 st_35 st_36 st_37 st_38 st_39 st_40
theorem lw_all {k : Nat} : 1 ≤ k→k ≤ 40→lwB k = true:=upTo40 (p:=fun k => lwB k = true) lw_1 lw_2 lw_3 lw_4 lw_5 lw_6 lw_7 lw_8 lw_9 lw_10 lw_11 lw_12 lw_13 lw_14 lw_15 lw_16 lw_17 lw_18 lw_19 lw_20 lw_21 lw_22 lw_23 lw_24 lw_25 lw_26 lw_27 lw_28 lw_29 lw_30 lw_31 lw_32 lw_33 lw_34 lw_35 lw_36 lw_37 lw_38 lw_39 lw_40
theorem rule_ok {f : FuncId} {cf : CF} (h : ruleCF f = some cf) : compF0 prog f = some cf∧∀ k,1 ≤ k→k ≤ 40→isoR f cf k = true:=by
  unfold ruleCF at h
  split at h
  · cases h; exact ⟨ok36,fun _ a b => i36 a b⟩
  · cases h; exact ⟨ok37,fun _ a b => i37 a b⟩
  · cases h; exact ⟨ok38,fun _ a b => i38 a b⟩
  · cases h; exact ⟨ok39,fun _ a b => i39 a b⟩
  · cases h; exact ⟨ok40,fun _ a b => i40 a b⟩
  · cases h; exact ⟨ok41,fun _ a b => i41 a b⟩
  · cases h; exact ⟨ok42,fun _ a b => i42 a b⟩
  · cases h; exact ⟨ok43,fun _ a b => i43 a b⟩
  · cases h; exact ⟨ok44,fun _ a b => i44 a b⟩
  · cases h; exact ⟨ok45,fun _ a b => i45 a b⟩
  · cases h; exact ⟨ok46,fun _ a b => i46 a b⟩
  · cases h; exact ⟨ok47,fun _ a b => i47 a b⟩
  · cases h; exact ⟨ok48,fun _ a b => i48 a b⟩
  · cases h; exact ⟨ok49,fun _ a b => i49 a b⟩
  · cases h; exact ⟨ok50,fun _ a b => i50 a b⟩
  · cases h; exact ⟨ok51,fun _ a b => i51 a b⟩
  · cases h; exact ⟨ok52,fun _ a b => i52 a b⟩
  · cases h
theorem polI_ok {B : World} (hB : Tab55 B) (hmix : Tryz.prog.follows .mixedOrders = true) : PolOK Tryz.prog B polI:=by
  have h0 : PolOK prog B polK:=polE_ok hB rfl
  intro f args H v H' hi he
  replace he : effI f args H = some (v,H'):=he
  unfold effI at he
  split at he
  · rename_i cf hcf
    obtain ⟨h1,h2⟩:=rule_ok hcf
    unfold effR at he
    split at he
    · rename_i b
      split at he
      · rename_i cs hcs
        rw [hCells_eq] at hcs
        cases q : isCs (f - 35) cs with
        | true =>
          rw [q] at he
          cases he
          obtain ⟨k,a1,a2,rfl⟩:=isCs_spec q
          exact ⟨Nat.le_refl _,isoB_ok h0 hmix tab_ok (memoOf_ok cmL_ok) h1 (h2 k a1 a2) (csR_closed _ _) (cells_get_some hcs)⟩
        | false =>
          rw [q] at he
          replace he : effB f cf b H = some (v,H'):=he
          unfold effB at he
          split at he
          · rename_i r hr
            cases he
            exact bodyY_ok h0 hmix tab_ok memo0_ok h1 hr
          · cases he
      · cases he
    · cases he
  · exact h0 f args H v H' hi he
theorem begins_of {k : Nat} (h1 : 1 ≤ k) (h2 : k ≤ 40) : Pv prog polI 3 [.sym,.sc (.int .i64 (Int.ofNat k))] (.sc (.bool true)):=by
  have hm : MemoOk prog polI (memoOf shL):=memoOf_ok shL_ok
  refine pv_of_y tab_ok (memoOf_ok (show MemosOk prog polI (lwM k) from ⟨known_pv,pv_of_y tab_ok hm rfl (isV_spec (em_all h1 h2)),pv_of_y tab_ok hm (scV_closed k) (isV_spec (id_all h1 h2)),pv_of_y tab_ok hm (scV_closed k) (isV_spec (va_all h1 h2)),pv_of_y tab_ok hm (scV_closed k) (isV_spec (no_all h1 h2)),pv_of_y tab_ok hm (scV_closed k) (isV_spec (st_all h1 h2)),trivial⟩)) rfl (isV_spec (lw_all h1 h2))
theorem begins_pv {n : Int} (h1 : 1 ≤ n) (h2 : n ≤ 40) : Pv prog polI 3 [.sym,.sc (.int .i64 n)] (.sc (.bool true)):=by
  obtain ⟨k,rfl⟩:=Int.eq_ofNat_of_zero_le (show 0 ≤ n by omega)
  exact begins_of (by omega) (by omega)
end Go.Hem
