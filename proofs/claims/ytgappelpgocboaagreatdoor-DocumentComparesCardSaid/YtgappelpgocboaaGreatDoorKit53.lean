/- Contracts of library functions at this program. -/
import Derived.Shelf.Strings.Builder1
import Derived.Shelf.Strings.Builder2
import Derived.Shelf.Strings.OnBuilder
import Derived.Shelf.Small.Bits
import Derived.Shelf.Small.Strs
import Derived.Shelf.Strconv.Itoa0
import Derived.Shelf.Strconv.Itoa1
import Derived.Shelf.LaysM
import Derived.Shelf.Strconv.Itoa2
import Derived.Shelf.Strconv.Itoa3
import Derived.Shelf.Strings.Search1
import Derived.Shelf.Bits.Mul64
import Derived.Test.YtgappelpgocboaaGreatDoorProg
import Derived.WalkKit
import Derived.Below
import Derived.Lib.Builder
import Derived.Lib.UnsafeStr
import Derived.Deep.RegionWith
import Derived.Shelf.RegionOpenPlain
set_option linter.unusedVariables false
set_option linter.unusedSimpArgs false
set_option maxHeartbeats 1000000
set_option maxRecDepth 100000
set_option maxHeartbeats 2000000
namespace Go.Proofs
open Go.Shelf
def Tryz.lays156_ren : Go.Shelf.Ren:=⟨fun | 156 => 190 | 165 => 296 | 166 => 294 | 169 => 50 | 240 => 374 | 241 => 376 | 276 => 427 | 277 => 429 | n => n,fun | 31 => 82 | 9 => 9 | 3 => 3 | 4 => 4 | 0 => 0 | 20 => 20 | 72 => 141 | 76 => 395 | 70 => 139 | 37 => 93 | 75 => 392 | 127 => 208 | 164 => 526 | 5 => 5 | 80 => 136 | n => n,fun | n => n⟩
theorem Tryz.lays156 : Go.Proofs.Lays.n156 Tryz.prog Tryz.lays156_ren:={
  mixed:=by kernel_rfl
  f156:=Tryz.func190.trans (congrArg some (by kernel_rfl))
  f165:=Tryz.func296.trans (congrArg some (by kernel_rfl))
  f166:=Tryz.func294.trans (congrArg some (by kernel_rfl))
  f169:=Tryz.func50.trans (congrArg some (by kernel_rfl))
  f240:=Tryz.func374.trans (congrArg some (by kernel_rfl))
  f241:=Tryz.func376.trans (congrArg some (by kernel_rfl))
  f276:=Tryz.func427.trans (congrArg some (by kernel_rfl))
  f277:=Tryz.func429.trans (congrArg some (by kernel_rfl))
  t0:=Tryz.underlying0
  a0:=Tryz.isAgg0
  z0:=Tryz.sizeOf0
  v0:=Tryz.zeroValue0
  t3:=Tryz.underlying3
  a3:=Tryz.isAgg3
  z3:=Tryz.sizeOf3
  v3:=Tryz.zeroValue3
  t4:=Tryz.underlying4
  a4:=Tryz.isAgg4
  z4:=Tryz.sizeOf4
  v4:=Tryz.zeroValue4
  t9:=Tryz.underlying9
  a9:=Tryz.isAgg9
  z9:=Tryz.sizeOf9
  v9:=Tryz.zeroValue9
  t20:=Tryz.underlying20
  a20:=Tryz.isAgg20
  z20:=Tryz.sizeOf20
  v20:=Tryz.zeroValue20
  t31:=Tryz.underlying82
  a31:=Tryz.isAgg82
  z31:=Tryz.sizeOf82
  v31:=Tryz.zeroValue82
  t37:=Tryz.underlying93
  a37:=Tryz.isAgg93
  z37:=Tryz.sizeOf93
  v37:=Tryz.zeroValue93
  t70:=Tryz.underlying139
  a70:=Tryz.isAgg139
  z70:=Tryz.sizeOf139
  v70:=Tryz.zeroValue139
  t72:=Tryz.underlying141
  a72:=Tryz.isAgg141
  z72:=Tryz.sizeOf141
  v72:=Tryz.zeroValue141
  t75:=Tryz.underlying392
  a75:=Tryz.isAgg392
  z75:=Tryz.sizeOf392
  v75:=Tryz.zeroValue392
  t76:=Tryz.underlying395
  a76:=Tryz.isAgg395
  z76:=Tryz.sizeOf395
  v76:=Tryz.zeroValue395
  t127:=Tryz.underlying208
  a127:=Tryz.isAgg208
  z127:=Tryz.sizeOf208
  v127:=Tryz.zeroValue208
  t164:=Tryz.underlying526
  a164:=Tryz.isAgg526
  z164:=Tryz.sizeOf526
  v164:=Tryz.zeroValue526 }
theorem Tryz.Builder_Extra_156 : Builder.Extra Tryz.prog Tryz.lays156_ren:={
  sizeBuilder:=by kernel_rfl
  liesBuilder:=by kernel_rfl
  t5:=Tryz.underlying5
  a5:=Tryz.isAgg5
  z5:=Tryz.sizeOf5
  v5:=Tryz.zeroValue5
  infoByte:=by kernel_rfl
  cellsByte:=by kernel_rfl
  sizeByte:=by kernel_rfl
  neB5:=by decide }
open Go.RowKit in
/-- No element: the empty string; the world is as it was. (Whatever the slice's address and capacity: a nil slice too.) (LAID: no walk: one application.) -/
theorem Tryz.strings_Join_none (a : Option Addr) (c : Nat) (sep : ByteArray) (w : World) :
    Calls Tryz.prog 190 #[.slice a 0 c,.string sep] w fun e w' => e = .returned (.string ⟨#[]⟩)∧w' = w:=Any.strings_Join_none Tryz.lays156 Tryz.Builder_Extra_156 a c sep w
open Go.RowKit in
/-- strings.Join: "Join concatenates the elements of its first argument to create a single string. The separator string sep is placed between elements in the resulting string.": HOWEVER MANY ELEMENTS. Below the heap's end the world is as it was. (LAID: no walk: one application.) -/
theorem Tryz.strings_Join (bk o c : Nat) (xs : List ByteArray) (sep : ByteArray) (w : World) (hcells : ∀ (j : Nat) x,xs[j]? = some x→w.cell? ⟨bk,o + j,none⟩ = some (.string x)) (hbk : bk < w.heap.size) (hN : xs.length ≤ 140737488355328) (hcap : xs.length ≤ c) (hlen : (Lib.join (xs.map (·.data.toList)) sep.data.toList).length ≤ 140737488355328) :
    Calls Tryz.prog 190 #[.slice (some ⟨bk,o,none⟩) xs.length c,.string sep] w fun e w' => e = .returned (.string ⟨(Lib.join (xs.map (·.data.toList)) sep.data.toList).toArray⟩)∧Below w.heap.size w w':=Any.strings_Join Tryz.lays156 Tryz.Builder_Extra_156 bk o c xs sep w hcells hbk hN hcap hlen
def Tryz.lays137_ren : Go.Shelf.Ren:=⟨fun | 137 => 293 | 217 => 375 | 266 => 428 | n => n,fun | 9 => 9 | 5 => 5 | 3 => 3 | n => n,fun | n => n⟩
theorem Tryz.lays137 : Go.Proofs.Lays.n137 Tryz.prog Tryz.lays137_ren:={
  mixed:=by kernel_rfl
  f137:=Tryz.func293.trans (congrArg some (by kernel_rfl))
  f217:=Tryz.func375.trans (congrArg some (by kernel_rfl))
  f266:=Tryz.func428.trans (congrArg some (by kernel_rfl))
  t3:=Tryz.underlying3
  a3:=Tryz.isAgg3
  z3:=Tryz.sizeOf3
  v3:=Tryz.zeroValue3
  t5:=Tryz.underlying5
  a5:=Tryz.isAgg5
  z5:=Tryz.sizeOf5
  v5:=Tryz.zeroValue5
  t9:=Tryz.underlying9
  a9:=Tryz.isAgg9
  z9:=Tryz.sizeOf9
  v9:=Tryz.zeroValue9 }
open Go.RowKit in
/-- strings.IndexByte: "IndexByte returns the index of the first instance of c in s, or -1 if c is not present in s.": IT RETURNS 'Lib.indexByte s c'; the world is as it was. (LAID: no walk: one application.) -/
theorem Tryz.strings_IndexByte (s : ByteArray) (c : Int) (w : World) :
    Calls Tryz.prog 293 #[.string s,.int .u8 c] w fun e w' => e = .returned (.int .i64 (Lib.indexByte s.data.toList c.toNat.toUInt8))∧w' = w:=Any.strings_IndexByte Tryz.lays137 s c w
def Tryz.laysM171_ren : Go.Shelf.Ren:=⟨fun | 171 => 26 | 243 => 51 | 246 => 104 | 283 => 178 | 284 => 179 | 285 => 180 | 286 => 181 | 129 => 285 | 317 => 284 | 318 => 286 | 319 => 287 | 320 => 288 | 337 => 369 | 338 => 370 | n => n,fun | 3 => 3 | 9 => 9 | 2 => 2 | 4 => 4 | 171 => 306 | 0 => 0 | 53 => 307 | 37 => 93 | 5 => 5 | 173 => 310 | 212 => 384 | 51 => 211 | 20 => 20 | 213 => 385 | 46 => 238 | 232 => 520 | 233 => 521 | n => n,fun | 17 => 0 | 18 => 1 | 19 => 2 | n => n⟩
theorem Tryz.laysM171 : Go.Proofs.LaysM.n171 Tryz.prog Tryz.laysM171_ren:={
  mixed:=by kernel_rfl
  f129:=Tryz.func285.trans (congrArg some (by kernel_rfl))
  f171:=Tryz.func26.trans (congrArg some (by kernel_rfl))
  f243:=Tryz.func51.trans (congrArg some (by kernel_rfl))
  f246:=Tryz.func104.trans (congrArg some (by kernel_rfl))
  f283:=Tryz.func178.trans (congrArg some (by kernel_rfl))
  f284:=Tryz.func179.trans (congrArg some (by kernel_rfl))
  f285:=Tryz.func180.trans (congrArg some (by kernel_rfl))
  f286:=Tryz.func181.trans (congrArg some (by kernel_rfl))
  f317:=Tryz.func284.trans (congrArg some (by kernel_rfl))
  f318:=Tryz.func286.trans (congrArg some (by kernel_rfl))
  f319:=Tryz.func287.trans (congrArg some (by kernel_rfl))
  f320:=Tryz.func288.trans (congrArg some (by kernel_rfl))
  f337:=Tryz.func369.trans (congrArg some (by kernel_rfl))
  f338:=Tryz.func370.trans (congrArg some (by kernel_rfl))
  t0:=Tryz.underlying0
  a0:=Tryz.isAgg0
  z0:=Tryz.sizeOf0
  v0:=Tryz.zeroValue0
  t2:=Tryz.underlying2
  a2:=Tryz.isAgg2
  z2:=Tryz.sizeOf2
  v2:=Tryz.zeroValue2
  t3:=Tryz.underlying3
  a3:=Tryz.isAgg3
  z3:=Tryz.sizeOf3
  v3:=Tryz.zeroValue3
  t4:=Tryz.underlying4
  a4:=Tryz.isAgg4
  z4:=Tryz.sizeOf4
  v4:=Tryz.zeroValue4
  t5:=Tryz.underlying5
  a5:=Tryz.isAgg5
  z5:=Tryz.sizeOf5
  v5:=Tryz.zeroValue5
  t9:=Tryz.underlying9
  a9:=Tryz.isAgg9
  z9:=Tryz.sizeOf9
  v9:=Tryz.zeroValue9
  t20:=Tryz.underlying20
  a20:=Tryz.isAgg20
  z20:=Tryz.sizeOf20
  v20:=Tryz.zeroValue20
  t37:=Tryz.underlying93
  a37:=Tryz.isAgg93
  z37:=Tryz.sizeOf93
  v37:=Tryz.zeroValue93
  t46:=Tryz.underlying238
  a46:=Tryz.isAgg238
  z46:=Tryz.sizeOf238
  v46:=Tryz.zeroValue238
  t51:=Tryz.underlying211
  a51:=Tryz.isAgg211
  z51:=Tryz.sizeOf211
  v51:=Tryz.zeroValue211
  t53:=Tryz.underlying307
  a53:=Tryz.isAgg307
  z53:=Tryz.sizeOf307
  v53:=Tryz.zeroValue307
  t171:=Tryz.underlying306
  a171:=Tryz.isAgg306
  z171:=Tryz.sizeOf306
  v171:=Tryz.zeroValue306
  t173:=Tryz.underlying310
  a173:=Tryz.isAgg310
  z173:=Tryz.sizeOf310
  v173:=Tryz.zeroValue310
  t212:=Tryz.underlying384
  a212:=Tryz.isAgg384
  z212:=Tryz.sizeOf384
  v212:=Tryz.zeroValue384
  t213:=Tryz.underlying385
  a213:=Tryz.isAgg385
  z213:=Tryz.sizeOf385
  t232:=Tryz.underlying520
  a232:=Tryz.isAgg520
  z232:=Tryz.sizeOf520
  v232:=Tryz.zeroValue520
  t233:=Tryz.underlying521
  a233:=Tryz.isAgg521
  z233:=Tryz.sizeOf521
  v233:=Tryz.zeroValue521
  g17:=by kernel_rfl
  g18:=by kernel_rfl
  g19:=by kernel_rfl
  i0:=by kernel_rfl
  i2:=by kernel_rfl
  i3:=by kernel_rfl
  i4:=by kernel_rfl
  i5:=by kernel_rfl
  i9:=by kernel_rfl
  i20:=by kernel_rfl
  i37:=by kernel_rfl
  i46:=by kernel_rfl
  i51:=by kernel_rfl
  i53:=by kernel_rfl
  i171:=by kernel_rfl
  i173:=by kernel_rfl
  i212:=by kernel_rfl
  i232:=by kernel_rfl
  i233:=by kernel_rfl
  m17:=by kernel_rfl
  m18:=by kernel_rfl
  m19:=by kernel_rfl }
open Go.RowKit Go.Sort Go.Lib in
/-- strconv.Itoa: "Itoa is equivalent to FormatInt(int64(i), 10).": i's DECIMAL NUMERAL ('Lib.itoa': a '-' where i is negative, then the digits), FOR EVERY int. The world behind the call: the world before it, new blocks behind the heap (the library's 'var a [24]byte'), draws. (LAID: no walk: one application.) -/
theorem Tryz.strconv_Itoa (n : Int) (h0 : -9223372036854775808 ≤ n) (h1 : n ≤ 9223372036854775807) (w : World) (htab : Lib.TabIs Tryz.prog w "internal/strconv.uint64pow10" .u64 Lib.pow10Tab) :
    Calls Tryz.prog 26 #[.int .i64 n] w fun e w' => e = .returned (.string ⟨(Lib.itoa n).toArray⟩)∧∃ k os,w' = grow (w.drewN k) os:=Any.strconv_Itoa Tryz.laysM171 n h0 h1 w htab
end Go.Proofs
namespace Go.Proofs.Ins
open Go.RowKit
theorem bld_info : ∃ j,Tryz.prog.info? 141 = some j∧j.size = 2:=Option.map_eq_some_iff.1 (show (Tryz.prog.info? 141).map (·.size) = some 2 by kernel_rfl)
theorem bld_lies : liesAt Tryz.prog Tryz.prog.depth 141 (2 / Tryz.prog.cellsOf 141) 0 141 1 = true:=by kernel_rfl
theorem cc_used (b : Nat) (w : World) (h0 : w.cell? ⟨b,0,none⟩ = some (.pointer (some ⟨b,0,none⟩))) :
    Calls Tryz.prog 374 #[.pointer (some ⟨b,0,none⟩)] w fun e w' => e = .returned (.tuple #[])∧w' = w:=by
  obtain ⟨j,hj,_⟩:=bld_info
  go_enter Tryz.func374,Tryz.ntmps374
  go_wp2
  rw [Lib.run_neq_ptr_same w _ Tryz.underlying139 hj]
  go_wp2
  go_end0
  exact ⟨rfl,rfl⟩
theorem cc_fresh (b : Nat) (w : World) (h0 : w.cell? ⟨b,0,none⟩ = some (.pointer none)) (hsh : w.shape? b = some (141,2)) (hfz : w.frozen? ⟨b,0,none⟩ = false) :
    Calls Tryz.prog 374 #[.pointer (some ⟨b,0,none⟩)] w fun e w' => e = .returned (.tuple #[])∧w' = w.setCell ⟨b,0,none⟩ (.pointer (some ⟨b,0,none⟩)):=by
  obtain ⟨j,hj,hjs⟩:=bld_info
  go_enter Tryz.func374,Tryz.ntmps374
  go_wp2
  rw [Lib.run_to_unsafe w ⟨b,0,none⟩ Tryz.underlying139 Tryz.underlying526 hj (by rw [hjs]; decide) hsh (Nat.zero_lt_succ 1)]
  simp only [Result.andThen]
  rw [Oper.upon_value]
  go_wp2
  rw [run_callFunc_extern Tryz.func427 (by kernel_rfl) (by kernel_rfl) (by kernel_rfl) (e:=Extern.AbiNoEscape.same) (by kernel_rfl)]
  rw [Lib.run_noEscape]
  simp only [Result.andThen]
  rw [Oper.upon_value]
  go_wp2
  rw [Lib.run_from_unsafe w ⟨b,0,none⟩ Tryz.underlying526 Tryz.underlying139 hj hsh bld_lies]
  simp only [Result.andThen]
  rw [Oper.upon_value]
  go_wp2
  go_end0
  exact ⟨rfl,rfl⟩
theorem wri_lies : liesAt Tryz.prog Tryz.prog.depth 143 (2 / Tryz.prog.cellsOf 143) 0 141 1 = true:=by kernel_rfl
theorem cc_freshW (b : Nat) (w : World) (h0 : w.cell? ⟨b,0,none⟩ = some (.pointer none)) (hsh : w.shape? b = some (143,2)) (hfz : w.frozen? ⟨b,0,none⟩ = false) :
    Calls Tryz.prog 374 #[.pointer (some ⟨b,0,none⟩)] w fun e w' => e = .returned (.tuple #[])∧w' = w.setCell ⟨b,0,none⟩ (.pointer (some ⟨b,0,none⟩)):=by
  obtain ⟨j,hj,hjs⟩:=bld_info
  go_enter Tryz.func374,Tryz.ntmps374
  go_wp2
  rw [Lib.run_to_unsafe w ⟨b,0,none⟩ Tryz.underlying139 Tryz.underlying526 hj (by rw [hjs]; decide) hsh (Nat.zero_lt_succ 1)]
  simp only [Result.andThen]
  rw [Oper.upon_value]
  go_wp2
  rw [run_callFunc_extern Tryz.func427 (by kernel_rfl) (by kernel_rfl) (by kernel_rfl) (e:=Extern.AbiNoEscape.same) (by kernel_rfl)]
  rw [Lib.run_noEscape]
  simp only [Result.andThen]
  rw [Oper.upon_value]
  go_wp2
  rw [Lib.run_from_unsafe w ⟨b,0,none⟩ Tryz.underlying526 Tryz.underlying139 hj hsh wri_lies]
  simp only [Result.andThen]
  rw [Oper.upon_value]
  go_wp2
  go_end0
  exact ⟨rfl,rfl⟩
end Go.Proofs.Ins
namespace Go.Proofs.Ins
open Go.RowKit
theorem str_one : Tryz.prog.cellsOf 5 = 1:=by kernel_rfl
theorem bstr_row (b g cap cells : Nat) (l : List UInt8) (w : World) (c1 : w.cell? ⟨b,1,none⟩ = some (.slice (some ⟨g,0,none⟩) l.length cap)) (hcap : cap ≠ 0) (hsh : w.shape? g = some (5,cells)) (h0 : l ≠ []) (hn : l.length ≤ cells) (h63 : l.length ≤ 9223372036854775807)
    (hcell : ∀ j x,l[j]? = some x→w.cell? ((⟨g,0,none⟩ : Addr).add j) = some (.int .u8 x.toNat)) :
    Calls Tryz.prog 50 #[.pointer (some ⟨b,0,none⟩)] w fun e w' => e = .returned (.string ⟨l.toArray⟩)∧w' = w.drew.freeze ⟨g,0,none⟩ l.length:=by
  have c1 : w.drew.cell? ⟨b,1,none⟩ = some (.slice (some ⟨g,0,none⟩) l.length cap):=c1
  have hSD : (Builtin.unsafeSliceData_ #[93] 208 #[.slice (some ⟨g,0,none⟩) l.length cap]).run Tryz.prog w.drew = .ok (.pointer (some ⟨g,0,none⟩)) w.drew :=
    Lib.run_unsafeSliceData_row _ _ _ _ _ _ hcap
  have hUS : (Builtin.unsafeString_ #[208,3] 9 #[.pointer (some ⟨g,0,none⟩),.int .i64 l.length]).run Tryz.prog w.drew = .ok (.string ⟨l.toArray⟩) (w.drew.freeze ⟨g,0,none⟩ l.length) :=
    Lib.run_unsafeString_row w.drew 208 3 9 5 Tryz.underlying208 str_one g cells hsh l h0 hn h63 hcell
  have mixed : Tryz.prog.follows Departure.mixedOrders = true:=by kernel_rfl
  go_enter Tryz.func50,Tryz.ntmps50
  go_wp2
  go_region_o
  all_goals (go_wp2; go_ret; exact ⟨rfl,rfl⟩)
theorem bstr_nil (b : Nat) (w : World) (c1 : w.cell? ⟨b,1,none⟩ = some (.slice none 0 0)) :
    Calls Tryz.prog 50 #[.pointer (some ⟨b,0,none⟩)] w fun e w' => e = .returned (.string .empty)∧w' = w.drew:=by
  have c1 : w.drew.cell? ⟨b,1,none⟩ = some (.slice none 0 0):=c1
  have hSD : (Builtin.unsafeSliceData_ #[93] 208 #[.slice none 0 0]).run Tryz.prog w.drew = .ok (.pointer none) w.drew:=rfl
  have hUS : (Builtin.unsafeString_ #[208,3] 9 #[.pointer none,.int .i64 0]).run Tryz.prog w.drew = .ok (.string .empty) w.drew :=
    Lib.run_unsafeString_none w.drew 208 3 9 none
  have mixed : Tryz.prog.follows Departure.mixedOrders = true:=by kernel_rfl
  go_enter Tryz.func50,Tryz.ntmps50
  go_wp2
  go_region_o
  all_goals (go_wp2; go_ret; exact ⟨rfl,rfl⟩)
end Go.Proofs.Ins
