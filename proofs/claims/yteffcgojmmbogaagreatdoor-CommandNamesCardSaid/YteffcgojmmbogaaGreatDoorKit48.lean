/- Contracts of library functions at this program: slices.Insert,slices.Grow,strings.Join,and two closed calls. -/
import Derived.Test.YteffcgojmmbogaaGreatDoorRows
import Derived.WalkKit
import Derived.Shelf.Spec.SlicesInsertGrow
import Derived.Test.YteffcgojmmbogaaGreatDoorProg
import Derived.Lib.AppendZerosOnto
import Derived.Below
import Derived.Laws.IdiomStrings
import Derived.Shelf.Strings.Builder1
import Derived.Shelf.Strings.Builder2
import Derived.Shelf.Strings.OnBuilder
import Derived.Shelf.Small.Strs
import Derived.Shelf.Strings.Search1
import Derived.Shelf.Bits.Mul64
set_option linter.unusedVariables false
set_option linter.unusedSimpArgs false
namespace Go.Proofs.Ins
open Go.RowKit Go.Lib
theorem ins173_skip (a : Option Addr) (a2 : Option Addr) (len cap i cp : Nat) (w : World) (hi : i ≤ len) (hl : len ≤ cap) (hn : a = none→cap = 0) :
    Calls Tryz.prog 173 #[.slice a len cap,.int .i64 i,.slice a2 0 cp] w fun e w' => e = .returned (.slice a len cap)∧w' = w:=by
  have hz3 : (0 : Int) ≤ (i : Int):=by omega
  have hz4 : (i : Int) ≤ (cap : Int):=by omega
  have hz5 : (i : Int) ≤ (len : Int):=by omega
  cases a with
  | none =>
    have:=hn rfl
    subst this
    obtain rfl : len = 0:=by omega
    obtain rfl : i = 0:=by omega
    go_enter Tryz.func173,Tryz.ntmps173
    go_wp2
    all_goals (go_ret; exact ⟨rfl,rfl⟩)
  | some a =>
    go_enter Tryz.func173,Tryz.ntmps173
    go_wp2
    all_goals (go_ret; exact ⟨rfl,rfl⟩)
theorem ins173_nil (m cp : Nat) (a : Option Addr) (w w1 : World) (v : Value) (hm : 0 < m)
    (hrun : ∀ ty,(Builtin.append_ #[48,48] ty #[.slice none 0 0,.slice a m cp]).run Tryz.prog w = .ok v w1) :
    Calls Tryz.prog 173 #[.slice none 0 0,.int .i64 0,.slice a m cp] w fun e w' => e = .returned v∧w' = w1:=by
  have hz1 : ¬ ((m : Int) = 0):=by omega
  go_enter Tryz.func173,Tryz.ntmps173
  go_wp2_with (first
    | (at_builtin; refine Lib.wpList_append_run _ rfl _ _ _ _ rfl _ _ rfl rfl _ _ (hrun _) ?_))
  all_goals (go_ret; exact ⟨rfl,rfl⟩)
theorem ins173_end (c len cap m cp : Nat) (a : Option Addr) (w w1 : World) (v : Value) (hm : 0 < m) (hl : len ≤ cap)
    (hrun : ∀ ty,(Builtin.append_ #[48,48] ty #[.slice (some ⟨c,0,none⟩) len cap,.slice a m cp]).run Tryz.prog w = .ok v w1) :
    Calls Tryz.prog 173 #[.slice (some ⟨c,0,none⟩) len cap,.int .i64 len,.slice a m cp] w fun e w' => e = .returned v∧w' = w1:=by
  have hz1 : ¬ ((m : Int) = 0):=by omega
  have hz3 : (0 : Int) ≤ (len : Int):=by omega
  have hz4 : (len : Int) ≤ (cap : Int):=by omega
  go_enter Tryz.func173,Tryz.ntmps173
  go_wp2_with (first
    | (at_builtin; refine Lib.wpList_append_run _ rfl _ _ _ _ rfl _ _ rfl rfl _ _ (hrun _) ?_))
  all_goals (go_ret; exact ⟨rfl,rfl⟩)
set_option maxHeartbeats 4000000 in
set_option maxRecDepth 100000 in
theorem ins173_grow (c len cap i m cp K N : Nat) (a : Addr) (w w1 w2 w3 : World) (hi : i < len) (hm : 0 < m) (hl : len ≤ cap) (hroom : cap < len + m) (hbig : len + m < 2 ^ 40) (hK : len + m ≤ K)
    (hrz : ∀ ty,(Builtin.append_ #[48,3] ty #[.slice (some ⟨c,0,none⟩) i cap,.int .i64 ((len : Int) + (m : Int) - (i : Int))]).run Tryz.prog w = .ok (.slice (some ⟨N,0,none⟩) (len + m) K) w1)
    (hcA : ∀ ty,(Builtin.copy_ #[48,48] ty #[.slice (some ⟨N,i * 2,none⟩) (len + m - i) (K - i),.slice (some a) m cp]).run Tryz.prog w1 = .ok (goInt m) w2)
    (hcB : ∀ ty,(Builtin.copy_ #[48,48] ty #[.slice (some ⟨N,(i + m) * 2,none⟩) (len + m - (i + m)) (K - (i + m)),.slice (some ⟨c,i * 2,none⟩) (len - i) (cap - i)]).run Tryz.prog w2.drew = .ok (goInt (len - i : Nat)) w3) :
    Calls Tryz.prog 173 #[.slice (some ⟨c,0,none⟩) len cap,.int .i64 i,.slice (some a) m cp] w fun e w' => e = .returned (.slice (some ⟨N,0,none⟩) (len + m) K)∧w' = w3:=by
  have hz1 : ¬ ((m : Int) = 0):=by omega
  have hz2 : ¬ ((i : Int) = (len : Int)):=by omega
  have hz3 : (cap : Int) < (len : Int) + (m : Int):=by omega
  have hw1 : IntKind.i64.wrap ((i : Int) + (m : Int)) = (i : Int) + (m : Int):=by rw [IntKind.wrap_i64]; omega
  have hw2 : IntKind.i64.wrap ((len : Int) + (m : Int)) = (len : Int) + (m : Int):=by rw [IntKind.wrap_i64]; omega
  have hw3 : IntKind.i64.wrap ((len : Int) + (m : Int) - (i : Int)) = (len : Int) + (m : Int) - (i : Int):=by rw [IntKind.wrap_i64]; omega
  have hz5 : (0 : Int) ≤ (i : Int):=by omega
  have hz6 : (i : Int) ≤ (cap : Int):=by omega
  have hz7 : (i : Int) ≤ (len : Int):=by omega
  have hz8 : (0 : Int) ≤ (i : Int) + (m : Int):=by omega
  have hz9 : (i : Int) + (m : Int) ≤ (len : Int) + (m : Int):=by omega
  have htn : ((i : Int) + (m : Int)).toNat = i + m:=by omega
  have hGi : ¬ (K = i):=by omega
  have hGim : ¬ (K = i + m):=by omega
  have hci : ¬ (cap = i):=by omega
  have mixed : Tryz.prog.follows .mixedOrders = true:=by kernel_rfl
  go_enter Tryz.func173,Tryz.ntmps173
  go_wp2_with (first
    | (at_builtin; refine Lib.wpList_append_run _ rfl _ _ _ _ rfl _ _ rfl rfl _ _ (hrz _) ?_)
    | (at_builtin; refine wpList_copy_runI _ rfl _ _ 48 48 rfl _ _ rfl rfl (hcA _) ?_))
  go_region_law_o (refine step_copy_runI rfl _ _ 48 48 rfl (.slice (some ⟨N,(i + m) * 2,none⟩) (len + m - (i + m)) (K - (i + m))) (.slice (some ⟨c,i * 2,none⟩) (len - i) (cap - i)) (by simp [Act.eval,Act.put]) (by simp [Act.eval,Act.put]) (hcB _) ?_)
  go_wp2
  go_ret
  exact ⟨rfl,rfl⟩
set_option maxHeartbeats 4000000 in
set_option maxRecDepth 100000 in
theorem ins173_room (c len cap i m cp : Nat) (a : Addr) (w w1 w2 : World) (hi : i < len) (hm : 0 < m) (hl : len ≤ cap) (hroom : len + m ≤ cap) (hbig : len + m < 2 ^ 40)
    (hov : (callFunc 278 #[.slice (some a) m cp,.slice (some ⟨c,(i + m) * 2,none⟩) (len + m - (i + m)) (cap - (i + m))]).run Tryz.prog w = .ok (.value (.bool false)) w)
    (hcA : ∀ ty,(Builtin.copy_ #[48,48] ty #[.slice (some ⟨c,(i + m) * 2,none⟩) (len + m - (i + m)) (cap - (i + m)),.slice (some ⟨c,i * 2,none⟩) (len + m - i) (cap - i)]).run Tryz.prog w.drew = .ok (goInt (len - i : Nat)) w1)
    (hcB : ∀ ty,(Builtin.copy_ #[48,48] ty #[.slice (some ⟨c,i * 2,none⟩) (len + m - i) (cap - i),.slice (some a) m cp]).run Tryz.prog w1 = .ok (goInt m) w2) :
    Calls Tryz.prog 173 #[.slice (some ⟨c,0,none⟩) len cap,.int .i64 i,.slice (some a) m cp] w fun e w' => e = .returned (.slice (some ⟨c,0,none⟩) (len + m) cap)∧w' = w2:=by
  have hz1 : ¬ ((m : Int) = 0):=by omega
  have hz2 : ¬ ((i : Int) = (len : Int)):=by omega
  have hz3 : ¬ ((cap : Int) < (len : Int) + (m : Int)):=by omega
  have hw1 : IntKind.i64.wrap ((i : Int) + (m : Int)) = (i : Int) + (m : Int):=by rw [IntKind.wrap_i64]; omega
  have hw2 : IntKind.i64.wrap ((len : Int) + (m : Int)) = (len : Int) + (m : Int):=by rw [IntKind.wrap_i64]; omega
  have hz5 : (0 : Int) ≤ (i : Int):=by omega
  have hz6 : (i : Int) ≤ (cap : Int):=by omega
  have hz7 : (i : Int) ≤ (len : Int):=by omega
  have hz8 : (0 : Int) ≤ (i : Int) + (m : Int):=by omega
  have hz9 : (i : Int) + (m : Int) ≤ (len : Int) + (m : Int):=by omega
  have hza : (0 : Int) ≤ (len : Int) + (m : Int):=by omega
  have hzb : (len : Int) + (m : Int) ≤ (cap : Int):=by omega
  have hzc : (i : Int) ≤ (len : Int) + (m : Int):=by omega
  have htn : ((i : Int) + (m : Int)).toNat = i + m:=by omega
  have htn2 : ((len : Int) + (m : Int)).toNat = len + m:=by omega
  have hGim : ¬ (cap = i + m):=by omega
  have hci : ¬ (cap = i):=by omega
  have mixed : Tryz.prog.follows .mixedOrders = true:=by kernel_rfl
  go_enter Tryz.func173,Tryz.ntmps173
  go_wp2_with (simp only [hov])
  go_region_law_o (refine step_copy_runI rfl _ _ 48 48 rfl (.slice (some ⟨c,(i + m) * 2,none⟩) (len + m - (i + m)) (cap - (i + m))) (.slice (some ⟨c,i * 2,none⟩) (len + m - i) (cap - i)) (by simp [Act.eval,Act.put]) (by simp [Act.eval,Act.put]) (hcA _) ?_)
  go_wp2_with (at_builtin; refine wpList_copy_runI _ rfl _ _ 48 48 rfl _ _ rfl rfl (hcB _) ?_)
  go_ret
  exact ⟨rfl,rfl⟩
theorem ins173_apart (c cv o o2 la ca lb cb : Nat) (w : World) (cells cellsv : Array Value) (e ev : TypeId) (hne : cv ≠ c) (h1 : w.heap[cv]? = some (.cells cellsv ev (0,0))) (h2 : w.heap[c]? = some (.cells cells e (0,0))) (h3 : cells.size ≠ 0) :
    (callFunc 278 #[.slice (some ⟨cv,o,none⟩) la ca,.slice (some ⟨c,o2,none⟩) lb cb]).run Tryz.prog w = .ok (.value (.bool false)) w:=by
  rw [run_callFunc_extern Tryz.func278 (by kernel_rfl) (by kernel_rfl) (by kernel_rfl) (e:=Extern.SlicesOverlaps.overlaps #[48,48] #[4]) (by kernel_rfl)]
  rw [Lib.run_overlaps_apart w 48 4 23 Tryz.underlying48 2 Tryz.sizeOf23 ⟨cv,o,none⟩ ⟨c,o2,none⟩ la ca lb cb hne ev e cellsv.size cells.size (by simp [World.shape?,h1]) (by simp [World.shape?,h2]) h3 (by simp [World.frozen?,h1]) (by simp [World.frozen?,h1])]
  rfl
end Go.Proofs.Ins
set_option linter.unusedVariables false
set_option linter.unusedSimpArgs false
namespace Go.Proofs.Ins
open Go.RowKit Go.Lib
set_option maxHeartbeats 4000000 in
set_option maxRecDepth 100000 in
theorem grow430 (n N K : Nat) (w w1 : World) (hn : 0 < n) (hb : n < 2 ^ 40)
    (hrz : ∀ ty,(Builtin.append_ #[63,3] ty #[.slice none 0 0,.int .i64 n]).run Tryz.prog w = .ok (.slice (some ⟨N,0,none⟩) n K) w1) (hK : n ≤ K) :
    Calls Tryz.prog 430 #[.slice none 0 0,.int .i64 n] w fun e w' => e = .returned (.slice (some ⟨N,0,none⟩) 0 K)∧w' = w1:=by
  have hz1 : ¬ ((n : Int) < 0):=by omega
  have hz2 : IntKind.i64.wrap ((n : Int) - 0) = (n : Int):=by rw [IntKind.wrap_i64]; omega
  have hz3 : (0 : Int) < (n : Int):=by omega
  have hz4 : wrap64 ((n : Int) - 0) = (n : Int):=by unfold wrap64; omega
  have hz5 : (0 : Int) ≤ (K : Int):=by omega
  have hz6 : ¬ (K = 0):=by omega
  go_enter Tryz.func430,Tryz.ntmps430
  go_wp2_with (first
    | (at_builtin; refine Lib.wpList_append_run _ rfl _ _ _ _ rfl _ _ rfl rfl _ _ (hrz _) ?_))
  all_goals (go_ret; exact ⟨rfl,rfl⟩)
end Go.Proofs.Ins
set_option linter.unusedVariables false
set_option linter.unusedSimpArgs false
namespace Go.Proofs.Ins
open Go.RowKit
set_option maxRecDepth 100000
theorem conv22 (w : World) : (convert 120 9 (.slice (some ⟨w.heap.size,0,none⟩) 1 1)).run Tryz.prog (w.alloc (.cells #[.int .u8 48] 5)) = .ok (.string ⟨#[48]⟩) (w.alloc (.cells #[.int .u8 48] 5)):=by
  refine run_convert_bytes_back _ 120 9 5 ⟨w.heap.size,0,none⟩ 1 [48] Tryz.underlying120 Tryz.underlying5 Tryz.underlying9 ?_
  intro j hj
  obtain rfl : j = 0:=by simpa using hj
  have e : (w.alloc (.cells #[.int .u8 48] 5)).heap[w.heap.size]? = some (.cells #[.int .u8 48] 5):=Array.getElem?_push_size
  show (match (w.alloc (.cells #[.int .u8 48] 5)).heap[w.heap.size]? with | some (.cells c _ _) => (if (none : Option _).isSome = true then none else c[0 + 0]?) | _ => none) = _
  rw [e]; rfl
theorem dec0 (w : World) : Calls Tryz.prog 22 #[.int .i64 0] w fun e w' => e = .returned (.string ⟨#[48]⟩)∧Below w.heap.size w w':=by
  have h:=conv22 w
  go_enter Tryz.func22,Tryz.ntmps22
  go_wp2_with (rw [h])
  go_ret
  exact ⟨rfl,(Below.refl _ w).alloc (Nat.le_refl _) _⟩
end Go.Proofs.Ins
namespace Go.Proofs
open Go.Shelf
def Tryz.lays170_ren : Go.Shelf.Ren:=⟨fun | 170 => 140 | n => n,fun | 70 => 128 | 3 => 3 | 0 => 0 | 72 => 130 | 37 => 120 | 5 => 5 | n => n,fun | n => n⟩
theorem Tryz.lays170 : Go.Proofs.Lays.n170 Tryz.prog Tryz.lays170_ren:={
  mixed:=by kernel_rfl
  f170:=Tryz.func140.trans (congrArg some (by kernel_rfl))
  t0:=Tryz.underlying0
  a0:=Tryz.isAgg0
  z0:=Tryz.sizeOf0
  v0:=Tryz.zeroValue0
  t3:=Tryz.underlying3
  a3:=Tryz.isAgg3
  z3:=Tryz.sizeOf3
  v3:=Tryz.zeroValue3
  t37:=Tryz.underlying120
  a37:=Tryz.isAgg120
  z37:=Tryz.sizeOf120
  v37:=Tryz.zeroValue120
  t70:=Tryz.underlying128
  a70:=Tryz.isAgg128
  z70:=Tryz.sizeOf128
  v70:=Tryz.zeroValue128
  t72:=Tryz.underlying130
  a72:=Tryz.isAgg130
  z72:=Tryz.sizeOf130
  v72:=Tryz.zeroValue130 }
open Go.RowKit in
theorem Tryz.Builder_Len (B b : Nat) (bs : List Value) (w : World) (h : Lib.IsBuilder 130 5 B b bs w) :
    Calls Tryz.prog 140 #[.pointer (some ⟨b,0,none⟩)] w fun e w' => e = .returned (.int .i64 bs.length)∧w' = w:=Any.Builder_Len Tryz.lays170 B b bs w h
def Tryz.lays169_ren : Go.Shelf.Ren:=⟨fun | 169 => 77 | n => n,fun | 70 => 128 | 9 => 9 | 0 => 0 | 72 => 130 | 37 => 120 | 127 => 237 | 3 => 3 | 5 => 5 | n => n,fun | n => n⟩
theorem Tryz.lays169 : Go.Proofs.Lays.n169 Tryz.prog Tryz.lays169_ren:={
  mixed:=by kernel_rfl
  f169:=Tryz.func77.trans (congrArg some (by kernel_rfl))
  t0:=Tryz.underlying0
  a0:=Tryz.isAgg0
  z0:=Tryz.sizeOf0
  v0:=Tryz.zeroValue0
  t3:=Tryz.underlying3
  a3:=Tryz.isAgg3
  z3:=Tryz.sizeOf3
  v3:=Tryz.zeroValue3
  t9:=Tryz.underlying9
  a9:=Tryz.isAgg9
  z9:=Tryz.sizeOf9
  v9:=Tryz.zeroValue9
  t37:=Tryz.underlying120
  a37:=Tryz.isAgg120
  z37:=Tryz.sizeOf120
  v37:=Tryz.zeroValue120
  t70:=Tryz.underlying128
  a70:=Tryz.isAgg128
  z70:=Tryz.sizeOf128
  v70:=Tryz.zeroValue128
  t72:=Tryz.underlying130
  a72:=Tryz.isAgg130
  z72:=Tryz.sizeOf130
  v72:=Tryz.zeroValue130
  t127:=Tryz.underlying237
  a127:=Tryz.isAgg237
  z127:=Tryz.sizeOf237
  v127:=Tryz.zeroValue237 }
theorem Tryz.Builder_Extra_169 : Builder.Extra Tryz.prog Tryz.lays169_ren:={
  sizeBuilder:=by kernel_rfl
  liesBuilder:=by kernel_rfl
  t5:=Tryz.underlying5
  a5:=Tryz.isAgg5
  z5:=Tryz.sizeOf5
  v5:=Tryz.zeroValue5
  infoByte:=by kernel_rfl
  cellsByte:=by kernel_rfl
  sizeByte:=by kernel_rfl
  neB5:=by decide }
open Go.RowKit in
theorem Tryz.Builder_String (B b : Nat) (l : List UInt8) (w : World) (h : Lib.IsBuilder 130 5 B b (Lib.byteCells l) w) (h0 : l ≠ []) :
    Calls Tryz.prog 77 #[.pointer (some ⟨b,0,none⟩)] w fun e w' => e = .returned (.string ⟨l.toArray⟩)∧Below B w w':=Any.Builder_String Tryz.lays169 Tryz.Builder_Extra_169 B b l w h h0
open Go.RowKit in
theorem Tryz.Builder_String_empty (B b : Nat) (w : World) (h : Lib.IsBuilder 130 5 B b [] w) (hBw : B ≤ w.heap.size) :
    Calls Tryz.prog 77 #[.pointer (some ⟨b,0,none⟩)] w fun e w' => e = .returned (.string ⟨#[]⟩)∧Below B w w':=Any.Builder_String_empty Tryz.lays169 Tryz.Builder_Extra_169 B b w h hBw
open Go.RowKit in
theorem Tryz.Builder_String_any (B b : Nat) (l : List UInt8) (w : World) (h : Lib.IsBuilder 130 5 B b (Lib.byteCells l) w) (hBw : B ≤ w.heap.size) :
    Calls Tryz.prog 77 #[.pointer (some ⟨b,0,none⟩)] w fun e w' => e = .returned (.string ⟨l.toArray⟩)∧Below B w w':=Any.Builder_String_any Tryz.lays169 Tryz.Builder_Extra_169 B b l w h hBw
def Tryz.lays241_ren : Go.Shelf.Ren:=⟨fun | 241 => 230 | 277 => 331 | n => n,fun | 70 => 128 | 3 => 3 | 0 => 0 | 72 => 130 | 37 => 120 | 5 => 5 | n => n,fun | n => n⟩
theorem Tryz.lays241 : Go.Proofs.Lays.n241 Tryz.prog Tryz.lays241_ren:={
  mixed:=by kernel_rfl
  f241:=Tryz.func230.trans (congrArg some (by kernel_rfl))
  f277:=Tryz.func331.trans (congrArg some (by kernel_rfl))
  t0:=Tryz.underlying0
  a0:=Tryz.isAgg0
  z0:=Tryz.sizeOf0
  v0:=Tryz.zeroValue0
  t3:=Tryz.underlying3
  a3:=Tryz.isAgg3
  z3:=Tryz.sizeOf3
  v3:=Tryz.zeroValue3
  t37:=Tryz.underlying120
  a37:=Tryz.isAgg120
  z37:=Tryz.sizeOf120
  v37:=Tryz.zeroValue120
  t70:=Tryz.underlying128
  a70:=Tryz.isAgg128
  z70:=Tryz.sizeOf128
  v70:=Tryz.zeroValue128
  t72:=Tryz.underlying130
  a72:=Tryz.isAgg130
  z72:=Tryz.sizeOf130
  v72:=Tryz.zeroValue130 }
theorem Tryz.Builder_Extra_241 : Builder.Extra Tryz.prog Tryz.lays241_ren:={
  sizeBuilder:=by kernel_rfl
  liesBuilder:=by kernel_rfl
  t5:=Tryz.underlying5
  a5:=Tryz.isAgg5
  z5:=Tryz.sizeOf5
  v5:=Tryz.zeroValue5
  infoByte:=by kernel_rfl
  cellsByte:=by kernel_rfl
  sizeByte:=by kernel_rfl
  neB5:=by decide }
open Go.RowKit in
theorem Tryz.Builder_grow_fresh (B b n : Nat) (w : World) (hB : B ≤ b) (hbk : w.heap[b]? = some (.cells #[.pointer (some ⟨b,0,none⟩),.slice none 0 0] 130 (0,0))) (hBw : B ≤ w.heap.size) (hn : n ≤ 281474976710656) :
    Calls Tryz.prog 230 #[.pointer (some ⟨b,0,none⟩),.int .i64 n] w fun e w' => e = .returned (.tuple #[])∧(Lib.BuilderAt 130 5 B b (.pointer (some ⟨b,0,none⟩)) [] w'∧Below B w w'):=Any.Builder_grow_fresh Tryz.lays241 Tryz.Builder_Extra_241 B b n w hB hbk hBw hn
def Tryz.lays165_ren : Go.Shelf.Ren:=⟨fun | 165 => 139 | 240 => 143 | 241 => 230 | 276 => 232 | 277 => 331 | n => n,fun | 70 => 128 | 3 => 3 | 0 => 0 | 4 => 4 | 9 => 9 | 20 => 20 | 72 => 130 | 37 => 120 | 164 => 314 | 5 => 5 | n => n,fun | n => n⟩
theorem Tryz.lays165 : Go.Proofs.Lays.n165 Tryz.prog Tryz.lays165_ren:={
  mixed:=by kernel_rfl
  f165:=Tryz.func139.trans (congrArg some (by kernel_rfl))
  f240:=Tryz.func143.trans (congrArg some (by kernel_rfl))
  f241:=Tryz.func230.trans (congrArg some (by kernel_rfl))
  f276:=Tryz.func232.trans (congrArg some (by kernel_rfl))
  f277:=Tryz.func331.trans (congrArg some (by kernel_rfl))
  t0:=Tryz.underlying0
  a0:=Tryz.isAgg0
  z0:=Tryz.sizeOf0
  v0:=Tryz.zeroValue0
  t3:=Tryz.underlying3
  a3:=Tryz.isAgg3
  z3:=Tryz.sizeOf3
  v3:=Tryz.zeroValue3
  t4:=Tryz.underlying4
  a4:=Tryz.isAgg4
  z4:=Tryz.sizeOf4
  v4:=Tryz.zeroValue4
  t9:=Tryz.underlying9
  a9:=Tryz.isAgg9
  z9:=Tryz.sizeOf9
  v9:=Tryz.zeroValue9
  t20:=Tryz.underlying20
  a20:=Tryz.isAgg20
  z20:=Tryz.sizeOf20
  v20:=Tryz.zeroValue20
  t37:=Tryz.underlying120
  a37:=Tryz.isAgg120
  z37:=Tryz.sizeOf120
  v37:=Tryz.zeroValue120
  t70:=Tryz.underlying128
  a70:=Tryz.isAgg128
  z70:=Tryz.sizeOf128
  v70:=Tryz.zeroValue128
  t72:=Tryz.underlying130
  a72:=Tryz.isAgg130
  z72:=Tryz.sizeOf130
  v72:=Tryz.zeroValue130
  t164:=Tryz.underlying314
  a164:=Tryz.isAgg314
  z164:=Tryz.sizeOf314
  v164:=Tryz.zeroValue314 }
theorem Tryz.Builder_Extra_165 : Builder.Extra Tryz.prog Tryz.lays165_ren:={
  sizeBuilder:=by kernel_rfl
  liesBuilder:=by kernel_rfl
  t5:=Tryz.underlying5
  a5:=Tryz.isAgg5
  z5:=Tryz.sizeOf5
  v5:=Tryz.zeroValue5
  infoByte:=by kernel_rfl
  cellsByte:=by kernel_rfl
  sizeByte:=by kernel_rfl
  neB5:=by decide }
open Go.RowKit in
theorem Tryz.Builder_Grow_fresh (B b n : Nat) (w : World) (hB : B ≤ b) (hbk : w.heap[b]? = some (.cells #[.pointer none,.slice none 0 0] 130 (0,0))) (hBw : B ≤ w.heap.size) (hn : n ≤ 281474976710656) :
    Calls Tryz.prog 139 #[.pointer (some ⟨b,0,none⟩),.int .i64 n] w fun e w' => e = .returned (.tuple #[])∧(Lib.BuilderAt 130 5 B b (.pointer (some ⟨b,0,none⟩)) [] w'∧Below B w w'):=Any.Builder_Grow_fresh Tryz.lays165 Tryz.Builder_Extra_165 B b n w hB hbk hBw hn
def Tryz.lays156_ren : Go.Shelf.Ren:=⟨fun | 156 => 96 | 165 => 139 | 166 => 75 | 169 => 77 | 240 => 143 | 241 => 230 | 276 => 232 | 277 => 331 | n => n,fun | 31 => 85 | 9 => 9 | 3 => 3 | 4 => 4 | 0 => 0 | 20 => 20 | 72 => 130 | 76 => 135 | 70 => 128 | 37 => 120 | 75 => 132 | 127 => 237 | 164 => 314 | 5 => 5 | 80 => 138 | n => n,fun | n => n⟩
theorem Tryz.lays156 : Go.Proofs.Lays.n156 Tryz.prog Tryz.lays156_ren:={
  mixed:=by kernel_rfl
  f156:=Tryz.func96.trans (congrArg some (by kernel_rfl))
  f165:=Tryz.func139.trans (congrArg some (by kernel_rfl))
  f166:=Tryz.func75.trans (congrArg some (by kernel_rfl))
  f169:=Tryz.func77.trans (congrArg some (by kernel_rfl))
  f240:=Tryz.func143.trans (congrArg some (by kernel_rfl))
  f241:=Tryz.func230.trans (congrArg some (by kernel_rfl))
  f276:=Tryz.func232.trans (congrArg some (by kernel_rfl))
  f277:=Tryz.func331.trans (congrArg some (by kernel_rfl))
  t0:=Tryz.underlying0
  a0:=Tryz.isAgg0
  z0:=Tryz.sizeOf0
  v0:=Tryz.zeroValue0
  t3:=Tryz.underlying3
  a3:=Tryz.isAgg3
  z3:=Tryz.sizeOf3
  v3:=Tryz.zeroValue3
  t4:=Tryz.underlying4
  a4:=Tryz.isAgg4
  z4:=Tryz.sizeOf4
  v4:=Tryz.zeroValue4
  t9:=Tryz.underlying9
  a9:=Tryz.isAgg9
  z9:=Tryz.sizeOf9
  v9:=Tryz.zeroValue9
  t20:=Tryz.underlying20
  a20:=Tryz.isAgg20
  z20:=Tryz.sizeOf20
  v20:=Tryz.zeroValue20
  t31:=Tryz.underlying85
  a31:=Tryz.isAgg85
  z31:=Tryz.sizeOf85
  v31:=Tryz.zeroValue85
  t37:=Tryz.underlying120
  a37:=Tryz.isAgg120
  z37:=Tryz.sizeOf120
  v37:=Tryz.zeroValue120
  t70:=Tryz.underlying128
  a70:=Tryz.isAgg128
  z70:=Tryz.sizeOf128
  v70:=Tryz.zeroValue128
  t72:=Tryz.underlying130
  a72:=Tryz.isAgg130
  z72:=Tryz.sizeOf130
  v72:=Tryz.zeroValue130
  t75:=Tryz.underlying132
  a75:=Tryz.isAgg132
  z75:=Tryz.sizeOf132
  v75:=Tryz.zeroValue132
  t76:=Tryz.underlying135
  a76:=Tryz.isAgg135
  z76:=Tryz.sizeOf135
  v76:=Tryz.zeroValue135
  t127:=Tryz.underlying237
  a127:=Tryz.isAgg237
  z127:=Tryz.sizeOf237
  v127:=Tryz.zeroValue237
  t164:=Tryz.underlying314
  a164:=Tryz.isAgg314
  z164:=Tryz.sizeOf314
  v164:=Tryz.zeroValue314 }
theorem Tryz.Builder_Extra_156 : Builder.Extra Tryz.prog Tryz.lays156_ren:={
  sizeBuilder:=by kernel_rfl
  liesBuilder:=by kernel_rfl
  t5:=Tryz.underlying5
  a5:=Tryz.isAgg5
  z5:=Tryz.sizeOf5
  v5:=Tryz.zeroValue5
  infoByte:=by kernel_rfl
  cellsByte:=by kernel_rfl
  sizeByte:=by kernel_rfl
  neB5:=by decide }
open Go.RowKit in
theorem Tryz.strings_Join_none (a : Option Addr) (c : Nat) (sep : ByteArray) (w : World) :
    Calls Tryz.prog 96 #[.slice a 0 c,.string sep] w fun e w' => e = .returned (.string ⟨#[]⟩)∧w' = w:=Any.strings_Join_none Tryz.lays156 Tryz.Builder_Extra_156 a c sep w
open Go.RowKit in
theorem Tryz.strings_Join (bk o c : Nat) (xs : List ByteArray) (sep : ByteArray) (w : World) (hcells : ∀ (j : Nat) x,xs[j]? = some x→w.cell? ⟨bk,o + j,none⟩ = some (.string x)) (hbk : bk < w.heap.size) (hN : xs.length ≤ 140737488355328) (hcap : xs.length ≤ c) (hlen : (Lib.join (xs.map (·.data.toList)) sep.data.toList).length ≤ 140737488355328) :
    Calls Tryz.prog 96 #[.slice (some ⟨bk,o,none⟩) xs.length c,.string sep] w fun e w' => e = .returned (.string ⟨(Lib.join (xs.map (·.data.toList)) sep.data.toList).toArray⟩)∧Below w.heap.size w w':=Any.strings_Join Tryz.lays156 Tryz.Builder_Extra_156 bk o c xs sep w hcells hbk hN hcap hlen
def Tryz.lays137_ren : Go.Shelf.Ren:=⟨fun | 137 => 74 | 217 => 144 | 266 => 233 | n => n,fun | 9 => 9 | 5 => 5 | 3 => 3 | n => n,fun | n => n⟩
theorem Tryz.lays137 : Go.Proofs.Lays.n137 Tryz.prog Tryz.lays137_ren:={
  mixed:=by kernel_rfl
  f137:=Tryz.func74.trans (congrArg some (by kernel_rfl))
  f217:=Tryz.func144.trans (congrArg some (by kernel_rfl))
  f266:=Tryz.func233.trans (congrArg some (by kernel_rfl))
  t3:=Tryz.underlying3
  a3:=Tryz.isAgg3
  z3:=Tryz.sizeOf3
  v3:=Tryz.zeroValue3
  t5:=Tryz.underlying5
  a5:=Tryz.isAgg5
  z5:=Tryz.sizeOf5
  v5:=Tryz.zeroValue5
  t9:=Tryz.underlying9
  a9:=Tryz.isAgg9
  z9:=Tryz.sizeOf9
  v9:=Tryz.zeroValue9 }
open Go.RowKit in
theorem Tryz.strings_IndexByte (s : ByteArray) (c : Int) (w : World) :
    Calls Tryz.prog 74 #[.string s,.int .u8 c] w fun e w' => e = .returned (.int .i64 (Lib.indexByte s.data.toList c.toNat.toUInt8))∧w' = w:=Any.strings_IndexByte Tryz.lays137 s c w
def Tryz.lays217_ren : Go.Shelf.Ren:=⟨fun | 217 => 144 | 266 => 233 | n => n,fun | 9 => 9 | 5 => 5 | 3 => 3 | n => n,fun | n => n⟩
theorem Tryz.lays217 : Go.Proofs.Lays.n217 Tryz.prog Tryz.lays217_ren:={
  mixed:=by kernel_rfl
  f217:=Tryz.func144.trans (congrArg some (by kernel_rfl))
  f266:=Tryz.func233.trans (congrArg some (by kernel_rfl))
  t3:=Tryz.underlying3
  a3:=Tryz.isAgg3
  z3:=Tryz.sizeOf3
  v3:=Tryz.zeroValue3
  t5:=Tryz.underlying5
  a5:=Tryz.isAgg5
  z5:=Tryz.sizeOf5
  v5:=Tryz.zeroValue5
  t9:=Tryz.underlying9
  a9:=Tryz.isAgg9
  z9:=Tryz.sizeOf9
  v9:=Tryz.zeroValue9 }
open Go.RowKit Go.Lib in
theorem Tryz.stringslite_IndexByte (s : ByteArray) (c : Int) (w : World) :
    Calls Tryz.prog 144 #[.string s,.int .u8 c] w fun e w' => e = .returned (.int .i64 (Lib.indexByte s.data.toList c.toNat.toUInt8))∧w' = w:=Any.stringslite_IndexByte Tryz.lays217 s c w
def Tryz.lays264_ren : Go.Shelf.Ren:=⟨fun | 264 => 228 | n => n,fun | 53 => 309 | 46 => 229 | n => n,fun | n => n⟩
theorem Tryz.lays264 : Go.Proofs.Lays.n264 Tryz.prog Tryz.lays264_ren:={
  mixed:=by kernel_rfl
  f264:=Tryz.func228.trans (congrArg some (by kernel_rfl))
  t46:=Tryz.underlying229
  a46:=Tryz.isAgg229
  z46:=Tryz.sizeOf229
  v46:=Tryz.zeroValue229
  t53:=Tryz.underlying309
  a53:=Tryz.isAgg309
  z53:=Tryz.sizeOf309
  v53:=Tryz.zeroValue309 }
open Go.RowKit Go.Lib in
theorem Tryz.bits_Mul64 (x y : Nat) (hx : x < 18446744073709551616) (hy : y < 18446744073709551616) (w : World) :
    Calls Tryz.prog 228 #[.int .u64 x,.int .u64 y] w fun e w' => e = .returned (.tuple #[.int .u64 ((x * y / 18446744073709551616 : Nat) : Int),.int .u64 ((x * y % 18446744073709551616 : Nat) : Int)])∧w' = w:=Any.bits_Mul64 Tryz.lays264 x y hx hy w
def Tryz.lays212_ren : Go.Shelf.Ren:=⟨fun | 212 => 137 | 263 => 227 | 264 => 228 | n => n,fun | 46 => 229 | 51 => 306 | 146 => 307 | 53 => 309 | 148 => 310 | n => n,fun | n => n⟩
theorem Tryz.lays212 : Go.Proofs.Lays.n212 Tryz.prog Tryz.lays212_ren:={
  mixed:=by kernel_rfl
  f212:=Tryz.func137.trans (congrArg some (by kernel_rfl))
  f263:=Tryz.func227.trans (congrArg some (by kernel_rfl))
  f264:=Tryz.func228.trans (congrArg some (by kernel_rfl))
  t46:=Tryz.underlying229
  a46:=Tryz.isAgg229
  z46:=Tryz.sizeOf229
  v46:=Tryz.zeroValue229
  t51:=Tryz.underlying306
  a51:=Tryz.isAgg306
  z51:=Tryz.sizeOf306
  v51:=Tryz.zeroValue306
  t53:=Tryz.underlying309
  a53:=Tryz.isAgg309
  z53:=Tryz.sizeOf309
  v53:=Tryz.zeroValue309
  t146:=Tryz.underlying307
  a146:=Tryz.isAgg307
  z146:=Tryz.sizeOf307
  v146:=Tryz.zeroValue307
  t148:=Tryz.underlying310
  a148:=Tryz.isAgg310
  z148:=Tryz.sizeOf310
  v148:=Tryz.zeroValue310 }
open Go.RowKit Go.Lib in
theorem Tryz.bits_Mul (x y : Nat) (hx : x < 18446744073709551616) (hy : y < 18446744073709551616) (w : World) :
    Calls Tryz.prog 137 #[.int .u64 x,.int .u64 y] w fun e w' => e = .returned (.tuple #[.int .u64 ((x * y / 18446744073709551616 : Nat) : Int),.int .u64 ((x * y % 18446744073709551616 : Nat) : Int)])∧w' = w:=Any.bits_Mul Tryz.lays212 x y hx hy w
end Go.Proofs
set_option linter.unusedVariables false
set_option maxRecDepth 100000
namespace Go.Proofs
open Go.Shelf
def renQ : Go.Shelf.Ren:=⟨fun | 167 => 73 | 156 => 96 | 165 => 139 | 166 => 75 | 169 => 77 | 240 => 143 | 241 => 230 | 276 => 232 | 277 => 331 | n => n,fun | 31 => 85 | 9 => 9 | 3 => 3 | 4 => 4 | 0 => 0 | 20 => 20 | 72 => 130 | 76 => 135 | 70 => 128 | 37 => 120 | 75 => 132 | 127 => 237 | 164 => 314 | 5 => 5 | 80 => 138 | n => n,fun | n => n⟩
theorem laysQ : Go.Proofs.Lays.n167 Tryz.prog renQ:={
  mixed:=by kernel_rfl
  f167:=Tryz.func73.trans (congrArg some (by kernel_rfl))
  f240:=Tryz.func143.trans (congrArg some (by kernel_rfl))
  f276:=Tryz.func232.trans (congrArg some (by kernel_rfl))
  t0:=Tryz.underlying0
  a0:=Tryz.isAgg0
  z0:=Tryz.sizeOf0
  v0:=Tryz.zeroValue0
  t4:=Tryz.underlying4
  a4:=Tryz.isAgg4
  z4:=Tryz.sizeOf4
  v4:=Tryz.zeroValue4
  t5:=Tryz.underlying5
  a5:=Tryz.isAgg5
  z5:=Tryz.sizeOf5
  v5:=Tryz.zeroValue5
  t9:=Tryz.underlying9
  a9:=Tryz.isAgg9
  z9:=Tryz.sizeOf9
  v9:=Tryz.zeroValue9
  t20:=Tryz.underlying20
  a20:=Tryz.isAgg20
  z20:=Tryz.sizeOf20
  v20:=Tryz.zeroValue20
  t37:=Tryz.underlying120
  a37:=Tryz.isAgg120
  z37:=Tryz.sizeOf120
  v37:=Tryz.zeroValue120
  t70:=Tryz.underlying128
  a70:=Tryz.isAgg128
  z70:=Tryz.sizeOf128
  v70:=Tryz.zeroValue128
  t72:=Tryz.underlying130
  a72:=Tryz.isAgg130
  z72:=Tryz.sizeOf130
  v72:=Tryz.zeroValue130
  t75:=Tryz.underlying132
  a75:=Tryz.isAgg132
  z75:=Tryz.sizeOf132
  v75:=Tryz.zeroValue132
  t164:=Tryz.underlying314
  a164:=Tryz.isAgg314
  z164:=Tryz.sizeOf314
  v164:=Tryz.zeroValue314 }
theorem extraQ : Builder.Extra Tryz.prog renQ:={
  sizeBuilder:=by kernel_rfl
  liesBuilder:=by kernel_rfl
  t5:=Tryz.underlying5
  a5:=Tryz.isAgg5
  z5:=Tryz.sizeOf5
  v5:=Tryz.zeroValue5
  infoByte:=by kernel_rfl
  cellsByte:=by kernel_rfl
  sizeByte:=by kernel_rfl
  neB5:=by decide }
theorem laysS : Go.Proofs.Lays.n169 Tryz.prog renQ:={
  mixed:=by kernel_rfl
  f169:=Tryz.func77.trans (congrArg some (by kernel_rfl))
  t0:=Tryz.underlying0
  a0:=Tryz.isAgg0
  z0:=Tryz.sizeOf0
  v0:=Tryz.zeroValue0
  t3:=Tryz.underlying3
  a3:=Tryz.isAgg3
  z3:=Tryz.sizeOf3
  v3:=Tryz.zeroValue3
  t9:=Tryz.underlying9
  a9:=Tryz.isAgg9
  z9:=Tryz.sizeOf9
  v9:=Tryz.zeroValue9
  t37:=Tryz.underlying120
  a37:=Tryz.isAgg120
  z37:=Tryz.sizeOf120
  v37:=Tryz.zeroValue120
  t70:=Tryz.underlying128
  a70:=Tryz.isAgg128
  z70:=Tryz.sizeOf128
  v70:=Tryz.zeroValue128
  t72:=Tryz.underlying130
  a72:=Tryz.isAgg130
  z72:=Tryz.sizeOf130
  v72:=Tryz.zeroValue130
  t127:=Tryz.underlying237
  a127:=Tryz.isAgg237
  z127:=Tryz.sizeOf237
  v127:=Tryz.zeroValue237 }
open Go.RowKit
theorem wbQ (B b : Nat) (bs : List Value) (c : Int) (w : World) (h : Lib.IsBuilder 130 5 B b bs w) (hlen : bs.length + 1 ≤ 140737488355328) (hBw : B ≤ w.heap.size) :
    Calls Tryz.prog 73 #[.pointer (some ⟨b,0,none⟩),.int .u8 c] w fun e w' => e = .returned .nilIface∧(Lib.BuilderAt 130 5 B b (.pointer (some ⟨b,0,none⟩)) (bs ++ [.int .u8 c]) w'∧Below B w w') :=
  Any.Builder_WriteByte laysQ extraQ B b bs c w h hlen hBw
theorem bsQ (B b : Nat) (l : List UInt8) (w : World) (h : Lib.IsBuilder 130 5 B b (Lib.byteCells l) w) (hBw : B ≤ w.heap.size) :
    Calls Tryz.prog 77 #[.pointer (some ⟨b,0,none⟩)] w fun e w' => e = .returned (.string ⟨l.toArray⟩)∧Below B w w' :=
  Any.Builder_String_any laysS extraQ B b l w h hBw
set_option maxHeartbeats 1000000 in
theorem quote0 (w : World) : Calls Tryz.prog 27 #[.string ⟨#[]⟩] w fun e w' => e = .returned (.tuple #[.string ⟨#[34,34]⟩,.int .i64 0])∧Below w.heap.size w w':=by
  have mixed : Tryz.prog.follows .mixedOrders = true:=by kernel_rfl
  go_enter Tryz.func27,Tryz.ntmps27
  go_wp2_with fail
  refine (wbQ w.heap.size w.heap.size [] 34 _ (Lib.fresh_isBuilder 130 5 w) (by simp) (by simp)).mono ?_
  rintro e w1 ⟨rfl,hb1,hB1⟩
  have H1:=Any.hidJ hb1
  have K1:=Any.hidJ (((Below.refl w.heap.size w).alloc (Nat.le_refl _) _).trans hB1)
  clear hb1 hB1
  go_wp2_with fail
  go_loop [14] (fun i => i = .int .i64 0) (fun _ => 0)
  case atStart => rfl
  case round =>
    subst hrel
    go_wp2_with fail
    refine (wbQ w.heap.size w.heap.size [.int .u8 34] 34 w1 (.inr H1.out) (by simp) K1.out.size).mono ?_
    rintro e w2 ⟨rfl,hb2,hB2⟩
    have H2:=Any.hidJ hb2
    have K2:=Any.hidJ (K1.out.trans hB2)
    clear hb2 hB2
    go_wp2_with fail
    refine (bsQ w.heap.size w.heap.size [34,34] w2 (.inr H2.out) K2.out.size).mono ?_
    rintro e w3 ⟨rfl,hB3⟩
    have K3:=Any.hidJ (K2.out.trans hB3)
    clear hB3
    go_wp2
    go_ret2
    exact ⟨rfl,K3.out⟩
end Go.Proofs
