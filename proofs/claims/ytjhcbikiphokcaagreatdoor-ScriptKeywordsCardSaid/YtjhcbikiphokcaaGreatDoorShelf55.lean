/-
  DERIVED: THE SHELF's CONTRACTS AT THIS DUMP,IN PLAIN WORDS (tools/lay-plain.mjs out of 'TryzSh2.lean',which tools/lay-shelf.mjs wrote): THE SAME DECLARATIONS UNDER THE SAME NAMES: 'import','namespace','open','def','theorem' AND NOTHING ELSE: no command of the shelf's: FOR A HAND-IN. Each laying: the table of numbers ('.._ren') and one theorem,a field a fact of the dump's own or the kernel's comparison; each contract: ONE APPLICATION.
-/
import Derived.Shelf.Small.Strs
import Derived.Shelf.Strconv.Atoi
import Derived.Shelf.Strconv.Itoa0
import Derived.Shelf.Strconv.Itoa1
import Derived.Shelf.LaysM
import Derived.Shelf.Strconv.Itoa2
import Derived.Shelf.Strconv.Itoa3
import Derived.Shelf.Strconv.Itoa4
import Derived.Shelf.Strings.Search1
import Derived.Test.YtjhcbikiphokcaaGreatDoorProg
namespace Go.Proofs
open Go.Shelf
def Tryz.lays137_ren : Go.Shelf.Ren:=⟨fun | 137 => 136 | 217 => 217 | 266 => 311 | n => n,fun | 9 => 9 | 5 => 5 | 3 => 3 | n => n,fun | n => n⟩
theorem Tryz.lays137 : Go.Proofs.Lays.n137 Tryz.prog Tryz.lays137_ren:={
  mixed:=by kernel_rfl
  f137:=Tryz.func136.trans (congrArg some (by kernel_rfl))
  f217:=Tryz.func217.trans (congrArg some (by kernel_rfl))
  f266:=Tryz.func311.trans (congrArg some (by kernel_rfl))
  t3:=Tryz.underlying3
  a3:=Tryz.isAgg3
  z3:=Tryz.sizeOf3
  v3:=Tryz.zeroValue3
  t5:=Tryz.underlying5
  a5:=Tryz.isAgg5
  z5:=Tryz.sizeOf5
  v5:=Tryz.zeroValue5
  t9:=Tryz.underlying9
  a9:=Tryz.isAgg9
  z9:=Tryz.sizeOf9
  v9:=Tryz.zeroValue9 }
open Go.RowKit in
/-- strings.IndexByte: "IndexByte returns the index of the first instance of c in s, or -1 if c is not present in s.": IT RETURNS 'Lib.indexByte s c'; the world is as it was. (LAID: no walk: one application.) -/
theorem Tryz.strings_IndexByte (s : ByteArray) (c : Int) (w : World) :
    Calls Tryz.prog 136 #[.string s,.int .u8 c] w fun e w' => e = .returned (.int .i64 (Lib.indexByte s.data.toList c.toNat.toUInt8))∧w' = w:=Any.strings_IndexByte Tryz.lays137 s c w
def Tryz.lays172_ren : Go.Shelf.Ren:=⟨fun | 172 => 130 | 244 => 213 | 245 => 214 | 247 => 305 | 279 => 306 | 280 => 307 | 281 => 308 | 282 => 309 | 287 => 397 | 316 => 398 | 171 => 253 | 205 => 399 | 321 => 455 | 322 => 456 | 243 => 366 | 246 => 443 | 283 => 498 | 284 => 499 | 285 => 500 | 286 => 501 | 129 => 58 | 317 => 543 | 318 => 544 | 319 => 545 | 320 => 546 | 337 => 574 | 338 => 575 | n => n,fun | 9 => 9 | 3 => 3 | 75 => 234 | 76 => 235 | 4 => 4 | 5 => 5 | 167 => 387 | 37 => 65 | 0 => 0 | 85 => 388 | 2 => 2 | 168 => 390 | 53 => 160 | 175 => 479 | 46 => 68 | 210 => 483 | 127 => 327 | 145 => 525 | 143 => 523 | 21 => 21 | 171 => 558 | 173 => 560 | 212 => 582 | 51 => 158 | 20 => 20 | 213 => 583 | 232 => 628 | 233 => 629 | 80 => 142 | n => n,fun | 15 => 0 | 16 => 1 | 17 => 3 | 18 => 6 | 19 => 7 | n => n⟩
theorem Tryz.lays172 : Go.Proofs.Lays.n172 Tryz.prog Tryz.lays172_ren:={
  mixed:=by kernel_rfl
  f129:=Tryz.func58.trans (congrArg some (by kernel_rfl))
  f171:=Tryz.func253.trans (congrArg some (by kernel_rfl))
  f172:=Tryz.func130.trans (congrArg some (by kernel_rfl))
  f205:=Tryz.func399.trans (congrArg some (by kernel_rfl))
  f243:=Tryz.func366.trans (congrArg some (by kernel_rfl))
  f244:=Tryz.func213.trans (congrArg some (by kernel_rfl))
  f245:=Tryz.func214.trans (congrArg some (by kernel_rfl))
  f246:=Tryz.func443.trans (congrArg some (by kernel_rfl))
  f247:=Tryz.func305.trans (congrArg some (by kernel_rfl))
  f279:=Tryz.func306.trans (congrArg some (by kernel_rfl))
  f280:=Tryz.func307.trans (congrArg some (by kernel_rfl))
  f281:=Tryz.func308.trans (congrArg some (by kernel_rfl))
  f282:=Tryz.func309.trans (congrArg some (by kernel_rfl))
  f283:=Tryz.func498.trans (congrArg some (by kernel_rfl))
  f284:=Tryz.func499.trans (congrArg some (by kernel_rfl))
  f285:=Tryz.func500.trans (congrArg some (by kernel_rfl))
  f286:=Tryz.func501.trans (congrArg some (by kernel_rfl))
  f287:=Tryz.func397.trans (congrArg some (by kernel_rfl))
  f316:=Tryz.func398.trans (congrArg some (by kernel_rfl))
  f317:=Tryz.func543.trans (congrArg some (by kernel_rfl))
  f318:=Tryz.func544.trans (congrArg some (by kernel_rfl))
  f319:=Tryz.func545.trans (congrArg some (by kernel_rfl))
  f320:=Tryz.func546.trans (congrArg some (by kernel_rfl))
  f321:=Tryz.func455.trans (congrArg some (by kernel_rfl))
  f322:=Tryz.func456.trans (congrArg some (by kernel_rfl))
  f337:=Tryz.func574.trans (congrArg some (by kernel_rfl))
  f338:=Tryz.func575.trans (congrArg some (by kernel_rfl))
  t0:=Tryz.underlying0
  a0:=Tryz.isAgg0
  z0:=Tryz.sizeOf0
  v0:=Tryz.zeroValue0
  t2:=Tryz.underlying2
  a2:=Tryz.isAgg2
  z2:=Tryz.sizeOf2
  v2:=Tryz.zeroValue2
  t3:=Tryz.underlying3
  a3:=Tryz.isAgg3
  z3:=Tryz.sizeOf3
  v3:=Tryz.zeroValue3
  t4:=Tryz.underlying4
  a4:=Tryz.isAgg4
  z4:=Tryz.sizeOf4
  v4:=Tryz.zeroValue4
  t5:=Tryz.underlying5
  a5:=Tryz.isAgg5
  z5:=Tryz.sizeOf5
  v5:=Tryz.zeroValue5
  t9:=Tryz.underlying9
  a9:=Tryz.isAgg9
  z9:=Tryz.sizeOf9
  v9:=Tryz.zeroValue9
  t20:=Tryz.underlying20
  a20:=Tryz.isAgg20
  z20:=Tryz.sizeOf20
  v20:=Tryz.zeroValue20
  t21:=Tryz.underlying21
  a21:=Tryz.isAgg21
  z21:=Tryz.sizeOf21
  v21:=Tryz.zeroValue21
  t37:=Tryz.underlying65
  a37:=Tryz.isAgg65
  z37:=Tryz.sizeOf65
  v37:=Tryz.zeroValue65
  t46:=Tryz.underlying68
  a46:=Tryz.isAgg68
  z46:=Tryz.sizeOf68
  v46:=Tryz.zeroValue68
  t51:=Tryz.underlying158
  a51:=Tryz.isAgg158
  z51:=Tryz.sizeOf158
  v51:=Tryz.zeroValue158
  t53:=Tryz.underlying160
  a53:=Tryz.isAgg160
  z53:=Tryz.sizeOf160
  v53:=Tryz.zeroValue160
  t75:=Tryz.underlying234
  a75:=Tryz.isAgg234
  z75:=Tryz.sizeOf234
  v75:=Tryz.zeroValue234
  t76:=Tryz.underlying235
  a76:=Tryz.isAgg235
  z76:=Tryz.sizeOf235
  v76:=Tryz.zeroValue235
  t85:=Tryz.underlying388
  a85:=Tryz.isAgg388
  z85:=Tryz.sizeOf388
  v85:=Tryz.zeroValue388
  t127:=Tryz.underlying327
  a127:=Tryz.isAgg327
  z127:=Tryz.sizeOf327
  v127:=Tryz.zeroValue327
  t143:=Tryz.underlying523
  a143:=Tryz.isAgg523
  z143:=Tryz.sizeOf523
  v143:=Tryz.zeroValue523
  t145:=Tryz.underlying525
  a145:=Tryz.isAgg525
  z145:=Tryz.sizeOf525
  v145:=Tryz.zeroValue525
  t167:=Tryz.underlying387
  a167:=Tryz.isAgg387
  z167:=Tryz.sizeOf387
  v167:=Tryz.zeroValue387
  t168:=Tryz.underlying390
  a168:=Tryz.isAgg390
  z168:=Tryz.sizeOf390
  v168:=Tryz.zeroValue390
  t171:=Tryz.underlying558
  a171:=Tryz.isAgg558
  z171:=Tryz.sizeOf558
  v171:=Tryz.zeroValue558
  t173:=Tryz.underlying560
  a173:=Tryz.isAgg560
  z173:=Tryz.sizeOf560
  v173:=Tryz.zeroValue560
  t175:=Tryz.underlying479
  a175:=Tryz.isAgg479
  z175:=Tryz.sizeOf479
  v175:=Tryz.zeroValue479
  t210:=Tryz.underlying483
  a210:=Tryz.isAgg483
  z210:=Tryz.sizeOf483
  v210:=Tryz.zeroValue483
  t212:=Tryz.underlying582
  a212:=Tryz.isAgg582
  z212:=Tryz.sizeOf582
  v212:=Tryz.zeroValue582
  t213:=Tryz.underlying583
  a213:=Tryz.isAgg583
  z213:=Tryz.sizeOf583
  t232:=Tryz.underlying628
  a232:=Tryz.isAgg628
  z232:=Tryz.sizeOf628
  v232:=Tryz.zeroValue628
  t233:=Tryz.underlying629
  a233:=Tryz.isAgg629
  z233:=Tryz.sizeOf629
  v233:=Tryz.zeroValue629
  g15:=by kernel_rfl
  g16:=by kernel_rfl
  g17:=by kernel_rfl
  g18:=by kernel_rfl
  g19:=by kernel_rfl }
open Go.RowKit in
/-- strconv.Atoi: "Atoi is equivalent to ParseInt(s, 10, 0), converted to type int.": AT A DECIMAL NUMERAL OF AT MOST 18 BYTES: its value, and a nil error. The world behind the call: the one new row that the library's '[]byte(s)' lays. (LAID: no walk: one application.) -/
theorem Tryz.strconv_Atoi (s : ByteArray) (n : Int) (hl : s.size ≤ 18) (h : Lib.atoi s.data.toList = some n) (w : World) :
    Calls Tryz.prog 130 #[.string s] w fun e w' => e = .returned (.tuple #[.int .i64 n,.nilIface])∧∃ t,w' = Lib.bytesWorld w 5 t:=Any.strconv_Atoi Tryz.lays172 s n hl h w
def Tryz.laysM171_ren : Go.Shelf.Ren:=⟨fun | 171 => 253 | 243 => 366 | 246 => 443 | 283 => 498 | 284 => 499 | 285 => 500 | 286 => 501 | 129 => 58 | 317 => 543 | 318 => 544 | 319 => 545 | 320 => 546 | 337 => 574 | 338 => 575 | n => n,fun | 3 => 3 | 9 => 9 | 2 => 2 | 4 => 4 | 171 => 558 | 0 => 0 | 53 => 160 | 37 => 65 | 5 => 5 | 173 => 560 | 212 => 582 | 51 => 158 | 20 => 20 | 213 => 583 | 46 => 68 | 232 => 628 | 233 => 629 | n => n,fun | 17 => 3 | 18 => 6 | 19 => 7 | n => n⟩
theorem Tryz.laysM171 : Go.Proofs.LaysM.n171 Tryz.prog Tryz.laysM171_ren:={
  mixed:=by kernel_rfl
  f129:=Tryz.func58.trans (congrArg some (by kernel_rfl))
  f171:=Tryz.func253.trans (congrArg some (by kernel_rfl))
  f243:=Tryz.func366.trans (congrArg some (by kernel_rfl))
  f246:=Tryz.func443.trans (congrArg some (by kernel_rfl))
  f283:=Tryz.func498.trans (congrArg some (by kernel_rfl))
  f284:=Tryz.func499.trans (congrArg some (by kernel_rfl))
  f285:=Tryz.func500.trans (congrArg some (by kernel_rfl))
  f286:=Tryz.func501.trans (congrArg some (by kernel_rfl))
  f317:=Tryz.func543.trans (congrArg some (by kernel_rfl))
  f318:=Tryz.func544.trans (congrArg some (by kernel_rfl))
  f319:=Tryz.func545.trans (congrArg some (by kernel_rfl))
  f320:=Tryz.func546.trans (congrArg some (by kernel_rfl))
  f337:=Tryz.func574.trans (congrArg some (by kernel_rfl))
  f338:=Tryz.func575.trans (congrArg some (by kernel_rfl))
  t0:=Tryz.underlying0
  a0:=Tryz.isAgg0
  z0:=Tryz.sizeOf0
  v0:=Tryz.zeroValue0
  t2:=Tryz.underlying2
  a2:=Tryz.isAgg2
  z2:=Tryz.sizeOf2
  v2:=Tryz.zeroValue2
  t3:=Tryz.underlying3
  a3:=Tryz.isAgg3
  z3:=Tryz.sizeOf3
  v3:=Tryz.zeroValue3
  t4:=Tryz.underlying4
  a4:=Tryz.isAgg4
  z4:=Tryz.sizeOf4
  v4:=Tryz.zeroValue4
  t5:=Tryz.underlying5
  a5:=Tryz.isAgg5
  z5:=Tryz.sizeOf5
  v5:=Tryz.zeroValue5
  t9:=Tryz.underlying9
  a9:=Tryz.isAgg9
  z9:=Tryz.sizeOf9
  v9:=Tryz.zeroValue9
  t20:=Tryz.underlying20
  a20:=Tryz.isAgg20
  z20:=Tryz.sizeOf20
  v20:=Tryz.zeroValue20
  t37:=Tryz.underlying65
  a37:=Tryz.isAgg65
  z37:=Tryz.sizeOf65
  v37:=Tryz.zeroValue65
  t46:=Tryz.underlying68
  a46:=Tryz.isAgg68
  z46:=Tryz.sizeOf68
  v46:=Tryz.zeroValue68
  t51:=Tryz.underlying158
  a51:=Tryz.isAgg158
  z51:=Tryz.sizeOf158
  v51:=Tryz.zeroValue158
  t53:=Tryz.underlying160
  a53:=Tryz.isAgg160
  z53:=Tryz.sizeOf160
  v53:=Tryz.zeroValue160
  t171:=Tryz.underlying558
  a171:=Tryz.isAgg558
  z171:=Tryz.sizeOf558
  v171:=Tryz.zeroValue558
  t173:=Tryz.underlying560
  a173:=Tryz.isAgg560
  z173:=Tryz.sizeOf560
  v173:=Tryz.zeroValue560
  t212:=Tryz.underlying582
  a212:=Tryz.isAgg582
  z212:=Tryz.sizeOf582
  v212:=Tryz.zeroValue582
  t213:=Tryz.underlying583
  a213:=Tryz.isAgg583
  z213:=Tryz.sizeOf583
  t232:=Tryz.underlying628
  a232:=Tryz.isAgg628
  z232:=Tryz.sizeOf628
  v232:=Tryz.zeroValue628
  t233:=Tryz.underlying629
  a233:=Tryz.isAgg629
  z233:=Tryz.sizeOf629
  v233:=Tryz.zeroValue629
  g17:=by kernel_rfl
  g18:=by kernel_rfl
  g19:=by kernel_rfl
  i0:=by kernel_rfl
  i2:=by kernel_rfl
  i3:=by kernel_rfl
  i4:=by kernel_rfl
  i5:=by kernel_rfl
  i9:=by kernel_rfl
  i20:=by kernel_rfl
  i37:=by kernel_rfl
  i46:=by kernel_rfl
  i51:=by kernel_rfl
  i53:=by kernel_rfl
  i171:=by kernel_rfl
  i173:=by kernel_rfl
  i212:=by kernel_rfl
  i232:=by kernel_rfl
  i233:=by kernel_rfl
  m17:=by kernel_rfl
  m18:=by kernel_rfl
  m19:=by kernel_rfl }
open Go.RowKit Go.Sort Go.Lib in
/-- strconv.Itoa: "Itoa is equivalent to FormatInt(int64(i), 10).": i's DECIMAL NUMERAL ('Lib.itoa': a '-' where i is negative, then the digits), FOR EVERY int. The world behind the call: the world before it, new blocks behind the heap (the library's 'var a [24]byte'), draws. (LAID: no walk: one application.) -/
theorem Tryz.strconv_Itoa (n : Int) (h0 : -9223372036854775808 ≤ n) (h1 : n ≤ 9223372036854775807) (w : World) (htab : Lib.TabIs Tryz.prog w "internal/strconv.uint64pow10" .u64 Lib.pow10Tab) :
    Calls Tryz.prog 253 #[.int .i64 n] w fun e w' => e = .returned (.string ⟨(Lib.itoa n).toArray⟩)∧∃ k os,w' = grow (w.drewN k) os:=Any.strconv_Itoa Tryz.laysM171 n h0 h1 w htab
end Go.Proofs
