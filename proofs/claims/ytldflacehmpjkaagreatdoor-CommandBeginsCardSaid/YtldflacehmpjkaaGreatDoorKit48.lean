/- Contracts of library functions at this program. -/
import Derived.Shelf.Strings.Builder1
import Derived.Shelf.Strings.Builder2
import Derived.Shelf.Strings.OnBuilder
import Derived.Shelf.Small.Bits
import Derived.Shelf.Small.Strs
import Derived.Shelf.Strconv.Itoa0
import Derived.Shelf.Strconv.Itoa1
import Derived.Shelf.LaysM
import Derived.Shelf.Strconv.Itoa2
import Derived.Shelf.Strconv.Itoa3
import Derived.Shelf.Strings.Search1
import Derived.Shelf.Bits.Mul64
import Derived.Test.YtldflacehmpjkaaGreatDoorProg
import Derived.WalkKit
import Derived.Below
import Derived.Lib.Builder
import Derived.Lib.UnsafeStr
import Derived.Deep.RegionWith
import Derived.Shelf.RegionOpenPlain
import Derived.Test.YtldflacehmpjkaaGreatDoorRows
import Derived.Shelf.Spec.SlicesInsertGrow
import Derived.Lib.AppendZerosOnto
set_option linter.unusedVariables false
set_option linter.unusedSimpArgs false
set_option maxHeartbeats 1000000
set_option maxRecDepth 100000
set_option maxHeartbeats 2000000
namespace Go.Proofs
open Go.Shelf
def Tryz.lays156_ren : Go.Shelf.Ren:=⟨fun | 156 => 79 | 165 => 189 | 166 => 186 | 169 => 188 | 240 => 289 | 241 => 291 | 276 => 365 | 277 => 367 | n => n,fun | 31 => 122 | 9 => 9 | 3 => 3 | 4 => 4 | 0 => 0 | 20 => 20 | 72 => 266 | 76 => 271 | 70 => 263 | 37 => 264 | 75 => 268 | 127 => 375 | 164 => 437 | 5 => 5 | 80 => 274 | n => n,fun | n => n⟩
theorem Tryz.lays156 : Go.Proofs.Lays.n156 Tryz.prog Tryz.lays156_ren:={
  mixed:=by kernel_rfl
  f156:=Tryz.func79.trans (congrArg some (by kernel_rfl))
  f165:=Tryz.func189.trans (congrArg some (by kernel_rfl))
  f166:=Tryz.func186.trans (congrArg some (by kernel_rfl))
  f169:=Tryz.func188.trans (congrArg some (by kernel_rfl))
  f240:=Tryz.func289.trans (congrArg some (by kernel_rfl))
  f241:=Tryz.func291.trans (congrArg some (by kernel_rfl))
  f276:=Tryz.func365.trans (congrArg some (by kernel_rfl))
  f277:=Tryz.func367.trans (congrArg some (by kernel_rfl))
  t0:=Tryz.underlying0
  a0:=Tryz.isAgg0
  z0:=Tryz.sizeOf0
  v0:=Tryz.zeroValue0
  t3:=Tryz.underlying3
  a3:=Tryz.isAgg3
  z3:=Tryz.sizeOf3
  v3:=Tryz.zeroValue3
  t4:=Tryz.underlying4
  a4:=Tryz.isAgg4
  z4:=Tryz.sizeOf4
  v4:=Tryz.zeroValue4
  t9:=Tryz.underlying9
  a9:=Tryz.isAgg9
  z9:=Tryz.sizeOf9
  v9:=Tryz.zeroValue9
  t20:=Tryz.underlying20
  a20:=Tryz.isAgg20
  z20:=Tryz.sizeOf20
  v20:=Tryz.zeroValue20
  t31:=Tryz.underlying122
  a31:=Tryz.isAgg122
  z31:=Tryz.sizeOf122
  v31:=Tryz.zeroValue122
  t37:=Tryz.underlying264
  a37:=Tryz.isAgg264
  z37:=Tryz.sizeOf264
  v37:=Tryz.zeroValue264
  t70:=Tryz.underlying263
  a70:=Tryz.isAgg263
  z70:=Tryz.sizeOf263
  v70:=Tryz.zeroValue263
  t72:=Tryz.underlying266
  a72:=Tryz.isAgg266
  z72:=Tryz.sizeOf266
  v72:=Tryz.zeroValue266
  t75:=Tryz.underlying268
  a75:=Tryz.isAgg268
  z75:=Tryz.sizeOf268
  v75:=Tryz.zeroValue268
  t76:=Tryz.underlying271
  a76:=Tryz.isAgg271
  z76:=Tryz.sizeOf271
  v76:=Tryz.zeroValue271
  t127:=Tryz.underlying375
  a127:=Tryz.isAgg375
  z127:=Tryz.sizeOf375
  v127:=Tryz.zeroValue375
  t164:=Tryz.underlying437
  a164:=Tryz.isAgg437
  z164:=Tryz.sizeOf437
  v164:=Tryz.zeroValue437 }
theorem Tryz.Builder_Extra_156 : Builder.Extra Tryz.prog Tryz.lays156_ren:={
  sizeBuilder:=by kernel_rfl
  liesBuilder:=by kernel_rfl
  t5:=Tryz.underlying5
  a5:=Tryz.isAgg5
  z5:=Tryz.sizeOf5
  v5:=Tryz.zeroValue5
  infoByte:=by kernel_rfl
  cellsByte:=by kernel_rfl
  sizeByte:=by kernel_rfl
  neB5:=by decide }
open Go.RowKit in
/-- No element: the empty string; the world is as it was. (Whatever the slice's address and capacity: a nil slice too.) (LAID: no walk: one application.) -/
theorem Tryz.strings_Join_none (a : Option Addr) (c : Nat) (sep : ByteArray) (w : World) :
    Calls Tryz.prog 79 #[.slice a 0 c,.string sep] w fun e w' => e = .returned (.string ⟨#[]⟩)∧w' = w:=Any.strings_Join_none Tryz.lays156 Tryz.Builder_Extra_156 a c sep w
open Go.RowKit in
/-- strings.Join: "Join concatenates the elements of its first argument to create a single string. The separator string sep is placed between elements in the resulting string.": HOWEVER MANY ELEMENTS. Below the heap's end the world is as it was. (LAID: no walk: one application.) -/
theorem Tryz.strings_Join (bk o c : Nat) (xs : List ByteArray) (sep : ByteArray) (w : World) (hcells : ∀ (j : Nat) x,xs[j]? = some x→w.cell? ⟨bk,o + j,none⟩ = some (.string x)) (hbk : bk < w.heap.size) (hN : xs.length ≤ 140737488355328) (hcap : xs.length ≤ c) (hlen : (Lib.join (xs.map (·.data.toList)) sep.data.toList).length ≤ 140737488355328) :
    Calls Tryz.prog 79 #[.slice (some ⟨bk,o,none⟩) xs.length c,.string sep] w fun e w' => e = .returned (.string ⟨(Lib.join (xs.map (·.data.toList)) sep.data.toList).toArray⟩)∧Below w.heap.size w w':=Any.strings_Join Tryz.lays156 Tryz.Builder_Extra_156 bk o c xs sep w hcells hbk hN hcap hlen
def Tryz.lays137_ren : Go.Shelf.Ren:=⟨fun | 137 => 185 | 217 => 290 | 266 => 366 | n => n,fun | 9 => 9 | 5 => 5 | 3 => 3 | n => n,fun | n => n⟩
theorem Tryz.lays137 : Go.Proofs.Lays.n137 Tryz.prog Tryz.lays137_ren:={
  mixed:=by kernel_rfl
  f137:=Tryz.func185.trans (congrArg some (by kernel_rfl))
  f217:=Tryz.func290.trans (congrArg some (by kernel_rfl))
  f266:=Tryz.func366.trans (congrArg some (by kernel_rfl))
  t3:=Tryz.underlying3
  a3:=Tryz.isAgg3
  z3:=Tryz.sizeOf3
  v3:=Tryz.zeroValue3
  t5:=Tryz.underlying5
  a5:=Tryz.isAgg5
  z5:=Tryz.sizeOf5
  v5:=Tryz.zeroValue5
  t9:=Tryz.underlying9
  a9:=Tryz.isAgg9
  z9:=Tryz.sizeOf9
  v9:=Tryz.zeroValue9 }
open Go.RowKit in
/-- strings.IndexByte: "IndexByte returns the index of the first instance of c in s, or -1 if c is not present in s.": IT RETURNS 'Lib.indexByte s c'; the world is as it was. (LAID: no walk: one application.) -/
theorem Tryz.strings_IndexByte (s : ByteArray) (c : Int) (w : World) :
    Calls Tryz.prog 185 #[.string s,.int .u8 c] w fun e w' => e = .returned (.int .i64 (Lib.indexByte s.data.toList c.toNat.toUInt8))∧w' = w:=Any.strings_IndexByte Tryz.lays137 s c w
def Tryz.laysM171_ren : Go.Shelf.Ren:=⟨fun | 171 => 31 | 243 => 73 | 246 => 177 | 283 => 281 | 284 => 282 | 285 => 283 | 286 => 284 | 129 => 358 | 317 => 357 | 318 => 359 | 319 => 360 | 320 => 361 | 337 => 404 | 338 => 405 | n => n,fun | 3 => 3 | 9 => 9 | 2 => 2 | 4 => 4 | 171 => 363 | 0 => 0 | 53 => 364 | 37 => 264 | 5 => 5 | 173 => 367 | 212 => 430 | 51 => 431 | 20 => 20 | 213 => 432 | 46 => 369 | 232 => 483 | 233 => 484 | n => n,fun | 17 => 0 | 18 => 2 | 19 => 3 | n => n⟩
theorem Tryz.laysM171 : Go.Proofs.LaysM.n171 Tryz.prog Tryz.laysM171_ren:={
  mixed:=by kernel_rfl
  f129:=Tryz.func358.trans (congrArg some (by kernel_rfl))
  f171:=Tryz.func31.trans (congrArg some (by kernel_rfl))
  f243:=Tryz.func73.trans (congrArg some (by kernel_rfl))
  f246:=Tryz.func177.trans (congrArg some (by kernel_rfl))
  f283:=Tryz.func281.trans (congrArg some (by kernel_rfl))
  f284:=Tryz.func282.trans (congrArg some (by kernel_rfl))
  f285:=Tryz.func283.trans (congrArg some (by kernel_rfl))
  f286:=Tryz.func284.trans (congrArg some (by kernel_rfl))
  f317:=Tryz.func357.trans (congrArg some (by kernel_rfl))
  f318:=Tryz.func359.trans (congrArg some (by kernel_rfl))
  f319:=Tryz.func360.trans (congrArg some (by kernel_rfl))
  f320:=Tryz.func361.trans (congrArg some (by kernel_rfl))
  f337:=Tryz.func404.trans (congrArg some (by kernel_rfl))
  f338:=Tryz.func405.trans (congrArg some (by kernel_rfl))
  t0:=Tryz.underlying0
  a0:=Tryz.isAgg0
  z0:=Tryz.sizeOf0
  v0:=Tryz.zeroValue0
  t2:=Tryz.underlying2
  a2:=Tryz.isAgg2
  z2:=Tryz.sizeOf2
  v2:=Tryz.zeroValue2
  t3:=Tryz.underlying3
  a3:=Tryz.isAgg3
  z3:=Tryz.sizeOf3
  v3:=Tryz.zeroValue3
  t4:=Tryz.underlying4
  a4:=Tryz.isAgg4
  z4:=Tryz.sizeOf4
  v4:=Tryz.zeroValue4
  t5:=Tryz.underlying5
  a5:=Tryz.isAgg5
  z5:=Tryz.sizeOf5
  v5:=Tryz.zeroValue5
  t9:=Tryz.underlying9
  a9:=Tryz.isAgg9
  z9:=Tryz.sizeOf9
  v9:=Tryz.zeroValue9
  t20:=Tryz.underlying20
  a20:=Tryz.isAgg20
  z20:=Tryz.sizeOf20
  v20:=Tryz.zeroValue20
  t37:=Tryz.underlying264
  a37:=Tryz.isAgg264
  z37:=Tryz.sizeOf264
  v37:=Tryz.zeroValue264
  t46:=Tryz.underlying369
  a46:=Tryz.isAgg369
  z46:=Tryz.sizeOf369
  v46:=Tryz.zeroValue369
  t51:=Tryz.underlying431
  a51:=Tryz.isAgg431
  z51:=Tryz.sizeOf431
  v51:=Tryz.zeroValue431
  t53:=Tryz.underlying364
  a53:=Tryz.isAgg364
  z53:=Tryz.sizeOf364
  v53:=Tryz.zeroValue364
  t171:=Tryz.underlying363
  a171:=Tryz.isAgg363
  z171:=Tryz.sizeOf363
  v171:=Tryz.zeroValue363
  t173:=Tryz.underlying367
  a173:=Tryz.isAgg367
  z173:=Tryz.sizeOf367
  v173:=Tryz.zeroValue367
  t212:=Tryz.underlying430
  a212:=Tryz.isAgg430
  z212:=Tryz.sizeOf430
  v212:=Tryz.zeroValue430
  t213:=Tryz.underlying432
  a213:=Tryz.isAgg432
  z213:=Tryz.sizeOf432
  t232:=Tryz.underlying483
  a232:=Tryz.isAgg483
  z232:=Tryz.sizeOf483
  v232:=Tryz.zeroValue483
  t233:=Tryz.underlying484
  a233:=Tryz.isAgg484
  z233:=Tryz.sizeOf484
  v233:=Tryz.zeroValue484
  g17:=by kernel_rfl
  g18:=by kernel_rfl
  g19:=by kernel_rfl
  i0:=by kernel_rfl
  i2:=by kernel_rfl
  i3:=by kernel_rfl
  i4:=by kernel_rfl
  i5:=by kernel_rfl
  i9:=by kernel_rfl
  i20:=by kernel_rfl
  i37:=by kernel_rfl
  i46:=by kernel_rfl
  i51:=by kernel_rfl
  i53:=by kernel_rfl
  i171:=by kernel_rfl
  i173:=by kernel_rfl
  i212:=by kernel_rfl
  i232:=by kernel_rfl
  i233:=by kernel_rfl
  m17:=by kernel_rfl
  m18:=by kernel_rfl
  m19:=by kernel_rfl }
open Go.RowKit Go.Sort Go.Lib in
/-- strconv.Itoa: "Itoa is equivalent to FormatInt(int64(i), 10).": i's DECIMAL NUMERAL ('Lib.itoa': a '-' where i is negative, then the digits), FOR EVERY int. The world behind the call: the world before it, new blocks behind the heap (the library's 'var a [24]byte'), draws. (LAID: no walk: one application.) -/
theorem Tryz.strconv_Itoa (n : Int) (h0 : -9223372036854775808 ≤ n) (h1 : n ≤ 9223372036854775807) (w : World) (htab : Lib.TabIs Tryz.prog w "internal/strconv.uint64pow10" .u64 Lib.pow10Tab) :
    Calls Tryz.prog 31 #[.int .i64 n] w fun e w' => e = .returned (.string ⟨(Lib.itoa n).toArray⟩)∧∃ k os,w' = grow (w.drewN k) os:=Any.strconv_Itoa Tryz.laysM171 n h0 h1 w htab
end Go.Proofs
namespace Go.Proofs.Ins
open Go.RowKit
theorem bld_info : ∃ j,Tryz.prog.info? 266 = some j∧j.size = 2:=Option.map_eq_some_iff.1 (show (Tryz.prog.info? 266).map (·.size) = some 2 by kernel_rfl)
theorem bld_lies : liesAt Tryz.prog Tryz.prog.depth 266 (2 / Tryz.prog.cellsOf 266) 0 266 1 = true:=by kernel_rfl
theorem cc_used (b : Nat) (w : World) (h0 : w.cell? ⟨b,0,none⟩ = some (.pointer (some ⟨b,0,none⟩))) :
    Calls Tryz.prog 289 #[.pointer (some ⟨b,0,none⟩)] w fun e w' => e = .returned (.tuple #[])∧w' = w:=by
  obtain ⟨j,hj,_⟩:=bld_info
  go_enter Tryz.func289,Tryz.ntmps289
  go_wp2
  rw [Lib.run_neq_ptr_same w _ Tryz.underlying263 hj]
  go_wp2
  go_end0
  exact ⟨rfl,rfl⟩
theorem cc_fresh (b : Nat) (w : World) (h0 : w.cell? ⟨b,0,none⟩ = some (.pointer none)) (hsh : w.shape? b = some (266,2)) (hfz : w.frozen? ⟨b,0,none⟩ = false) :
    Calls Tryz.prog 289 #[.pointer (some ⟨b,0,none⟩)] w fun e w' => e = .returned (.tuple #[])∧w' = w.setCell ⟨b,0,none⟩ (.pointer (some ⟨b,0,none⟩)):=by
  obtain ⟨j,hj,hjs⟩:=bld_info
  go_enter Tryz.func289,Tryz.ntmps289
  go_wp2
  rw [Lib.run_to_unsafe w ⟨b,0,none⟩ Tryz.underlying263 Tryz.underlying437 hj (by rw [hjs]; decide) hsh (Nat.zero_lt_succ 1)]
  simp only [Result.andThen]
  rw [Oper.upon_value]
  go_wp2
  rw [run_callFunc_extern Tryz.func365 (by kernel_rfl) (by kernel_rfl) (by kernel_rfl) (e:=Extern.AbiNoEscape.same) (by kernel_rfl)]
  rw [Lib.run_noEscape]
  simp only [Result.andThen]
  rw [Oper.upon_value]
  go_wp2
  rw [Lib.run_from_unsafe w ⟨b,0,none⟩ Tryz.underlying437 Tryz.underlying263 hj hsh bld_lies]
  simp only [Result.andThen]
  rw [Oper.upon_value]
  go_wp2
  go_end0
  exact ⟨rfl,rfl⟩
end Go.Proofs.Ins
namespace Go.Proofs.Ins
open Go.RowKit
theorem str_one : Tryz.prog.cellsOf 5 = 1:=by kernel_rfl
theorem bstr_row (b g cap cells : Nat) (l : List UInt8) (w : World) (c1 : w.cell? ⟨b,1,none⟩ = some (.slice (some ⟨g,0,none⟩) l.length cap)) (hcap : cap ≠ 0) (hsh : w.shape? g = some (5,cells)) (h0 : l ≠ []) (hn : l.length ≤ cells) (h63 : l.length ≤ 9223372036854775807)
    (hcell : ∀ j x,l[j]? = some x→w.cell? ((⟨g,0,none⟩ : Addr).add j) = some (.int .u8 x.toNat)) :
    Calls Tryz.prog 188 #[.pointer (some ⟨b,0,none⟩)] w fun e w' => e = .returned (.string ⟨l.toArray⟩)∧w' = w.drew.freeze ⟨g,0,none⟩ l.length:=by
  have c1 : w.drew.cell? ⟨b,1,none⟩ = some (.slice (some ⟨g,0,none⟩) l.length cap):=c1
  have hSD : (Builtin.unsafeSliceData_ #[264] 375 #[.slice (some ⟨g,0,none⟩) l.length cap]).run Tryz.prog w.drew = .ok (.pointer (some ⟨g,0,none⟩)) w.drew :=
    Lib.run_unsafeSliceData_row _ _ _ _ _ _ hcap
  have hUS : (Builtin.unsafeString_ #[375,3] 9 #[.pointer (some ⟨g,0,none⟩),.int .i64 l.length]).run Tryz.prog w.drew = .ok (.string ⟨l.toArray⟩) (w.drew.freeze ⟨g,0,none⟩ l.length) :=
    Lib.run_unsafeString_row w.drew 375 3 9 5 Tryz.underlying375 str_one g cells hsh l h0 hn h63 hcell
  have mixed : Tryz.prog.follows Departure.mixedOrders = true:=by kernel_rfl
  go_enter Tryz.func188,Tryz.ntmps188
  go_wp2
  go_region_o
  all_goals (go_wp2; go_ret; exact ⟨rfl,rfl⟩)
theorem bstr_nil (b : Nat) (w : World) (c1 : w.cell? ⟨b,1,none⟩ = some (.slice none 0 0)) :
    Calls Tryz.prog 188 #[.pointer (some ⟨b,0,none⟩)] w fun e w' => e = .returned (.string .empty)∧w' = w.drew:=by
  have c1 : w.drew.cell? ⟨b,1,none⟩ = some (.slice none 0 0):=c1
  have hSD : (Builtin.unsafeSliceData_ #[264] 375 #[.slice none 0 0]).run Tryz.prog w.drew = .ok (.pointer none) w.drew:=rfl
  have hUS : (Builtin.unsafeString_ #[375,3] 9 #[.pointer none,.int .i64 0]).run Tryz.prog w.drew = .ok (.string .empty) w.drew :=
    Lib.run_unsafeString_none w.drew 375 3 9 none
  have mixed : Tryz.prog.follows Departure.mixedOrders = true:=by kernel_rfl
  go_enter Tryz.func188,Tryz.ntmps188
  go_wp2
  go_region_o
  all_goals (go_wp2; go_ret; exact ⟨rfl,rfl⟩)
end Go.Proofs.Ins
namespace Go.Proofs.Ins
open Go.RowKit Go.Lib
theorem ins165_skip (a : Option Addr) (a2 : Option Addr) (len cap i cp : Nat) (w : World) (hi : i ≤ len) (hl : len ≤ cap) (hn : a = none→cap = 0) :
    Calls Tryz.prog 165 #[.slice a len cap,.int .i64 i,.slice a2 0 cp] w fun e w' => e = .returned (.slice a len cap)∧w' = w:=by
  have hz3 : (0 : Int) ≤ (i : Int):=by omega
  have hz4 : (i : Int) ≤ (cap : Int):=by omega
  have hz5 : (i : Int) ≤ (len : Int):=by omega
  cases a with
  | none =>
    have:=hn rfl
    subst this
    obtain rfl : len = 0:=by omega
    obtain rfl : i = 0:=by omega
    go_enter Tryz.func165,Tryz.ntmps165
    go_wp2
    all_goals (go_ret; exact ⟨rfl,rfl⟩)
  | some a =>
    go_enter Tryz.func165,Tryz.ntmps165
    go_wp2
    all_goals (go_ret; exact ⟨rfl,rfl⟩)
theorem ins165_nil (m cp : Nat) (a : Option Addr) (w w1 : World) (v : Value) (hm : 0 < m)
    (hrun : ∀ ty,(Builtin.append_ #[26,26] ty #[.slice none 0 0,.slice a m cp]).run Tryz.prog w = .ok v w1) :
    Calls Tryz.prog 165 #[.slice none 0 0,.int .i64 0,.slice a m cp] w fun e w' => e = .returned v∧w' = w1:=by
  have hz1 : ¬ ((m : Int) = 0):=by omega
  go_enter Tryz.func165,Tryz.ntmps165
  go_wp2_with (first
    | (at_builtin; refine Lib.wpList_append_run _ rfl _ _ _ _ rfl _ _ rfl rfl _ _ (hrun _) ?_))
  all_goals (go_ret; exact ⟨rfl,rfl⟩)
theorem ins165_end (c len cap m cp : Nat) (a : Option Addr) (w w1 : World) (v : Value) (hm : 0 < m) (hl : len ≤ cap)
    (hrun : ∀ ty,(Builtin.append_ #[26,26] ty #[.slice (some ⟨c,0,none⟩) len cap,.slice a m cp]).run Tryz.prog w = .ok v w1) :
    Calls Tryz.prog 165 #[.slice (some ⟨c,0,none⟩) len cap,.int .i64 len,.slice a m cp] w fun e w' => e = .returned v∧w' = w1:=by
  have hz1 : ¬ ((m : Int) = 0):=by omega
  have hz3 : (0 : Int) ≤ (len : Int):=by omega
  have hz4 : (len : Int) ≤ (cap : Int):=by omega
  go_enter Tryz.func165,Tryz.ntmps165
  go_wp2_with (first
    | (at_builtin; refine Lib.wpList_append_run _ rfl _ _ _ _ rfl _ _ rfl rfl _ _ (hrun _) ?_))
  all_goals (go_ret; exact ⟨rfl,rfl⟩)
set_option maxHeartbeats 4000000 in
set_option maxRecDepth 100000 in
theorem ins165_grow (c len cap i m cp K N : Nat) (a : Addr) (w w1 w2 w3 : World) (hi : i < len) (hm : 0 < m) (hl : len ≤ cap) (hroom : cap < len + m) (hbig : len + m < 2 ^ 40) (hK : len + m ≤ K)
    (hrz : ∀ ty,(Builtin.append_ #[26,3] ty #[.slice (some ⟨c,0,none⟩) i cap,.int .i64 ((len : Int) + (m : Int) - (i : Int))]).run Tryz.prog w = .ok (.slice (some ⟨N,0,none⟩) (len + m) K) w1)
    (hcA : ∀ ty,(Builtin.copy_ #[26,26] ty #[.slice (some ⟨N,i * 2,none⟩) (len + m - i) (K - i),.slice (some a) m cp]).run Tryz.prog w1 = .ok (goInt m) w2)
    (hcB : ∀ ty,(Builtin.copy_ #[26,26] ty #[.slice (some ⟨N,(i + m) * 2,none⟩) (len + m - (i + m)) (K - (i + m)),.slice (some ⟨c,i * 2,none⟩) (len - i) (cap - i)]).run Tryz.prog w2.drew = .ok (goInt (len - i : Nat)) w3) :
    Calls Tryz.prog 165 #[.slice (some ⟨c,0,none⟩) len cap,.int .i64 i,.slice (some a) m cp] w fun e w' => e = .returned (.slice (some ⟨N,0,none⟩) (len + m) K)∧w' = w3:=by
  have hz1 : ¬ ((m : Int) = 0):=by omega
  have hz2 : ¬ ((i : Int) = (len : Int)):=by omega
  have hz3 : (cap : Int) < (len : Int) + (m : Int):=by omega
  have hw1 : IntKind.i64.wrap ((i : Int) + (m : Int)) = (i : Int) + (m : Int):=by rw [IntKind.wrap_i64]; omega
  have hw2 : IntKind.i64.wrap ((len : Int) + (m : Int)) = (len : Int) + (m : Int):=by rw [IntKind.wrap_i64]; omega
  have hw3 : IntKind.i64.wrap ((len : Int) + (m : Int) - (i : Int)) = (len : Int) + (m : Int) - (i : Int):=by rw [IntKind.wrap_i64]; omega
  have hz5 : (0 : Int) ≤ (i : Int):=by omega
  have hz6 : (i : Int) ≤ (cap : Int):=by omega
  have hz7 : (i : Int) ≤ (len : Int):=by omega
  have hz8 : (0 : Int) ≤ (i : Int) + (m : Int):=by omega
  have hz9 : (i : Int) + (m : Int) ≤ (len : Int) + (m : Int):=by omega
  have htn : ((i : Int) + (m : Int)).toNat = i + m:=by omega
  have hGi : ¬ (K = i):=by omega
  have hGim : ¬ (K = i + m):=by omega
  have hci : ¬ (cap = i):=by omega
  have mixed : Tryz.prog.follows .mixedOrders = true:=by kernel_rfl
  go_enter Tryz.func165,Tryz.ntmps165
  go_wp2_with (first
    | (at_builtin; refine Lib.wpList_append_run _ rfl _ _ _ _ rfl _ _ rfl rfl _ _ (hrz _) ?_)
    | (at_builtin; refine wpList_copy_runI _ rfl _ _ 26 26 rfl _ _ rfl rfl (hcA _) ?_))
  go_region_law_o (refine step_copy_runI rfl _ _ 26 26 rfl (.slice (some ⟨N,(i + m) * 2,none⟩) (len + m - (i + m)) (K - (i + m))) (.slice (some ⟨c,i * 2,none⟩) (len - i) (cap - i)) (by simp [Act.eval,Act.put]) (by simp [Act.eval,Act.put]) (hcB _) ?_)
  go_wp2
  go_ret
  exact ⟨rfl,rfl⟩
set_option maxHeartbeats 4000000 in
set_option maxRecDepth 100000 in
theorem ins165_room (c len cap i m cp : Nat) (a : Addr) (w w1 w2 : World) (hi : i < len) (hm : 0 < m) (hl : len ≤ cap) (hroom : len + m ≤ cap) (hbig : len + m < 2 ^ 40)
    (hov : (callFunc 275 #[.slice (some a) m cp,.slice (some ⟨c,(i + m) * 2,none⟩) (len + m - (i + m)) (cap - (i + m))]).run Tryz.prog w = .ok (.value (.bool false)) w)
    (hcA : ∀ ty,(Builtin.copy_ #[26,26] ty #[.slice (some ⟨c,(i + m) * 2,none⟩) (len + m - (i + m)) (cap - (i + m)),.slice (some ⟨c,i * 2,none⟩) (len + m - i) (cap - i)]).run Tryz.prog w.drew = .ok (goInt (len - i : Nat)) w1)
    (hcB : ∀ ty,(Builtin.copy_ #[26,26] ty #[.slice (some ⟨c,i * 2,none⟩) (len + m - i) (cap - i),.slice (some a) m cp]).run Tryz.prog w1 = .ok (goInt m) w2) :
    Calls Tryz.prog 165 #[.slice (some ⟨c,0,none⟩) len cap,.int .i64 i,.slice (some a) m cp] w fun e w' => e = .returned (.slice (some ⟨c,0,none⟩) (len + m) cap)∧w' = w2:=by
  have hz1 : ¬ ((m : Int) = 0):=by omega
  have hz2 : ¬ ((i : Int) = (len : Int)):=by omega
  have hz3 : ¬ ((cap : Int) < (len : Int) + (m : Int)):=by omega
  have hw1 : IntKind.i64.wrap ((i : Int) + (m : Int)) = (i : Int) + (m : Int):=by rw [IntKind.wrap_i64]; omega
  have hw2 : IntKind.i64.wrap ((len : Int) + (m : Int)) = (len : Int) + (m : Int):=by rw [IntKind.wrap_i64]; omega
  have hz5 : (0 : Int) ≤ (i : Int):=by omega
  have hz6 : (i : Int) ≤ (cap : Int):=by omega
  have hz7 : (i : Int) ≤ (len : Int):=by omega
  have hz8 : (0 : Int) ≤ (i : Int) + (m : Int):=by omega
  have hz9 : (i : Int) + (m : Int) ≤ (len : Int) + (m : Int):=by omega
  have hza : (0 : Int) ≤ (len : Int) + (m : Int):=by omega
  have hzb : (len : Int) + (m : Int) ≤ (cap : Int):=by omega
  have hzc : (i : Int) ≤ (len : Int) + (m : Int):=by omega
  have htn : ((i : Int) + (m : Int)).toNat = i + m:=by omega
  have htn2 : ((len : Int) + (m : Int)).toNat = len + m:=by omega
  have hGim : ¬ (cap = i + m):=by omega
  have hci : ¬ (cap = i):=by omega
  have mixed : Tryz.prog.follows .mixedOrders = true:=by kernel_rfl
  go_enter Tryz.func165,Tryz.ntmps165
  go_wp2_with (simp only [hov])
  go_region_law_o (refine step_copy_runI rfl _ _ 26 26 rfl (.slice (some ⟨c,(i + m) * 2,none⟩) (len + m - (i + m)) (cap - (i + m))) (.slice (some ⟨c,i * 2,none⟩) (len + m - i) (cap - i)) (by simp [Act.eval,Act.put]) (by simp [Act.eval,Act.put]) (hcA _) ?_)
  go_wp2_with (at_builtin; refine wpList_copy_runI _ rfl _ _ 26 26 rfl _ _ rfl rfl (hcB _) ?_)
  go_ret
  exact ⟨rfl,rfl⟩
theorem ins165_apart (c cv o o2 la ca lb cb : Nat) (w : World) (cells cellsv : Array Value) (e ev : TypeId) (hne : cv ≠ c) (h1 : w.heap[cv]? = some (.cells cellsv ev (0,0))) (h2 : w.heap[c]? = some (.cells cells e (0,0))) (h3 : cells.size ≠ 0) :
    (callFunc 275 #[.slice (some ⟨cv,o,none⟩) la ca,.slice (some ⟨c,o2,none⟩) lb cb]).run Tryz.prog w = .ok (.value (.bool false)) w:=by
  rw [run_callFunc_extern Tryz.func275 (by kernel_rfl) (by kernel_rfl) (by kernel_rfl) (e:=Extern.SlicesOverlaps.overlaps #[26,26] #[4]) (by kernel_rfl)]
  rw [Lib.run_overlaps_apart w 26 4 35 Tryz.underlying26 2 Tryz.sizeOf35 ⟨cv,o,none⟩ ⟨c,o2,none⟩ la ca lb cb hne ev e cellsv.size cells.size (by simp [World.shape?,h1]) (by simp [World.shape?,h2]) h3 (by simp [World.frozen?,h1]) (by simp [World.frozen?,h1])]
  rfl
end Go.Proofs.Ins
namespace Go.Proofs.Ins
open Go.RowKit Go.Lib
set_option maxHeartbeats 4000000 in
set_option maxRecDepth 100000 in
theorem grow444 (n N K : Nat) (w w1 : World) (hn : 0 < n) (hb : n < 2 ^ 40)
    (hrz : ∀ ty,(Builtin.append_ #[71,3] ty #[.slice none 0 0,.int .i64 n]).run Tryz.prog w = .ok (.slice (some ⟨N,0,none⟩) n K) w1) (hK : n ≤ K) :
    Calls Tryz.prog 444 #[.slice none 0 0,.int .i64 n] w fun e w' => e = .returned (.slice (some ⟨N,0,none⟩) 0 K)∧w' = w1:=by
  have hz1 : ¬ ((n : Int) < 0):=by omega
  have hz2 : IntKind.i64.wrap ((n : Int) - 0) = (n : Int):=by rw [IntKind.wrap_i64]; omega
  have hz3 : (0 : Int) < (n : Int):=by omega
  have hz4 : wrap64 ((n : Int) - 0) = (n : Int):=by unfold wrap64; omega
  have hz5 : (0 : Int) ≤ (K : Int):=by omega
  have hz6 : ¬ (K = 0):=by omega
  go_enter Tryz.func444,Tryz.ntmps444
  go_wp2_with (first
    | (at_builtin; refine Lib.wpList_append_run _ rfl _ _ _ _ rfl _ _ rfl rfl _ _ (hrz _) ?_))
  all_goals (go_ret; exact ⟨rfl,rfl⟩)
end Go.Proofs.Ins
