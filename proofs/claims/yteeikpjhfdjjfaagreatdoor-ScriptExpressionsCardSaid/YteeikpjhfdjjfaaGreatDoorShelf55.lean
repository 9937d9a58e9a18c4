/-
  DERIVED: THE SHELF's CONTRACTS AT THIS DUMP,IN PLAIN WORDS (tools/lay-plain.mjs out of 'TryzSh2.lean',which tools/lay-shelf.mjs wrote): THE SAME DECLARATIONS UNDER THE SAME NAMES: 'import','namespace','open','def','theorem' AND NOTHING ELSE: no command of the shelf's: FOR A HAND-IN. Each laying: the table of numbers ('.._ren') and one theorem,a field a fact of the dump's own or the kernel's comparison; each contract: ONE APPLICATION.
-/
import Derived.Shelf.Small.Strs
import Derived.Shelf.Strconv.Atoi
import Derived.Shelf.Strconv.Itoa0
import Derived.Shelf.Strconv.Itoa1
import Derived.Shelf.LaysM
import Derived.Shelf.Strconv.Itoa2
import Derived.Shelf.Strconv.Itoa3
import Derived.Shelf.Strconv.Itoa4
import Derived.Shelf.Strings.Search1
import Derived.Test.YteeikpjhfdjjfaaGreatDoorProg
namespace Go.Proofs
open Go.Shelf
def Tryz.lays137_ren : Go.Shelf.Ren:=⟨fun | 137 => 115 | 217 => 206 | 266 => 309 | n => n,fun | 9 => 9 | 5 => 5 | 3 => 3 | n => n,fun | n => n⟩
theorem Tryz.lays137 : Go.Proofs.Lays.n137 Tryz.prog Tryz.lays137_ren:={
  mixed:=by kernel_rfl
  f137:=Tryz.func115.trans (congrArg some (by kernel_rfl))
  f217:=Tryz.func206.trans (congrArg some (by kernel_rfl))
  f266:=Tryz.func309.trans (congrArg some (by kernel_rfl))
  t3:=Tryz.underlying3
  a3:=Tryz.isAgg3
  z3:=Tryz.sizeOf3
  v3:=Tryz.zeroValue3
  t5:=Tryz.underlying5
  a5:=Tryz.isAgg5
  z5:=Tryz.sizeOf5
  v5:=Tryz.zeroValue5
  t9:=Tryz.underlying9
  a9:=Tryz.isAgg9
  z9:=Tryz.sizeOf9
  v9:=Tryz.zeroValue9 }
open Go.RowKit in
/-- strings.IndexByte: "IndexByte returns the index of the first instance of c in s, or -1 if c is not present in s.": IT RETURNS 'Lib.indexByte s c'; the world is as it was. (LAID: no walk: one application.) -/
theorem Tryz.strings_IndexByte (s : ByteArray) (c : Int) (w : World) :
    Calls Tryz.prog 115 #[.string s,.int .u8 c] w fun e w' => e = .returned (.int .i64 (Lib.indexByte s.data.toList c.toNat.toUInt8))∧w' = w:=Any.strings_IndexByte Tryz.lays137 s c w
def Tryz.lays172_ren : Go.Shelf.Ren:=⟨fun | 172 => 109 | 244 => 202 | 245 => 203 | 247 => 303 | 279 => 304 | 280 => 305 | 281 => 306 | 282 => 307 | 287 => 398 | 316 => 399 | 171 => 248 | 205 => 400 | 321 => 456 | 322 => 457 | 243 => 365 | 246 => 444 | 283 => 499 | 284 => 500 | 285 => 501 | 286 => 502 | 129 => 131 | 317 => 544 | 318 => 545 | 319 => 546 | 320 => 547 | 337 => 575 | 338 => 576 | n => n,fun | 9 => 9 | 3 => 3 | 75 => 213 | 76 => 214 | 4 => 4 | 5 => 5 | 167 => 384 | 37 => 68 | 0 => 0 | 85 => 385 | 2 => 2 | 168 => 387 | 53 => 236 | 175 => 481 | 46 => 165 | 210 => 485 | 127 => 318 | 145 => 527 | 143 => 525 | 21 => 21 | 171 => 560 | 173 => 562 | 212 => 584 | 51 => 234 | 20 => 20 | 213 => 585 | 232 => 630 | 233 => 631 | 80 => 132 | n => n,fun | 15 => 0 | 16 => 1 | 17 => 3 | 18 => 6 | 19 => 7 | n => n⟩
theorem Tryz.lays172 : Go.Proofs.Lays.n172 Tryz.prog Tryz.lays172_ren:={
  mixed:=by kernel_rfl
  f129:=Tryz.func131.trans (congrArg some (by kernel_rfl))
  f171:=Tryz.func248.trans (congrArg some (by kernel_rfl))
  f172:=Tryz.func109.trans (congrArg some (by kernel_rfl))
  f205:=Tryz.func400.trans (congrArg some (by kernel_rfl))
  f243:=Tryz.func365.trans (congrArg some (by kernel_rfl))
  f244:=Tryz.func202.trans (congrArg some (by kernel_rfl))
  f245:=Tryz.func203.trans (congrArg some (by kernel_rfl))
  f246:=Tryz.func444.trans (congrArg some (by kernel_rfl))
  f247:=Tryz.func303.trans (congrArg some (by kernel_rfl))
  f279:=Tryz.func304.trans (congrArg some (by kernel_rfl))
  f280:=Tryz.func305.trans (congrArg some (by kernel_rfl))
  f281:=Tryz.func306.trans (congrArg some (by kernel_rfl))
  f282:=Tryz.func307.trans (congrArg some (by kernel_rfl))
  f283:=Tryz.func499.trans (congrArg some (by kernel_rfl))
  f284:=Tryz.func500.trans (congrArg some (by kernel_rfl))
  f285:=Tryz.func501.trans (congrArg some (by kernel_rfl))
  f286:=Tryz.func502.trans (congrArg some (by kernel_rfl))
  f287:=Tryz.func398.trans (congrArg some (by kernel_rfl))
  f316:=Tryz.func399.trans (congrArg some (by kernel_rfl))
  f317:=Tryz.func544.trans (congrArg some (by kernel_rfl))
  f318:=Tryz.func545.trans (congrArg some (by kernel_rfl))
  f319:=Tryz.func546.trans (congrArg some (by kernel_rfl))
  f320:=Tryz.func547.trans (congrArg some (by kernel_rfl))
  f321:=Tryz.func456.trans (congrArg some (by kernel_rfl))
  f322:=Tryz.func457.trans (congrArg some (by kernel_rfl))
  f337:=Tryz.func575.trans (congrArg some (by kernel_rfl))
  f338:=Tryz.func576.trans (congrArg some (by kernel_rfl))
  t0:=Tryz.underlying0
  a0:=Tryz.isAgg0
  z0:=Tryz.sizeOf0
  v0:=Tryz.zeroValue0
  t2:=Tryz.underlying2
  a2:=Tryz.isAgg2
  z2:=Tryz.sizeOf2
  v2:=Tryz.zeroValue2
  t3:=Tryz.underlying3
  a3:=Tryz.isAgg3
  z3:=Tryz.sizeOf3
  v3:=Tryz.zeroValue3
  t4:=Tryz.underlying4
  a4:=Tryz.isAgg4
  z4:=Tryz.sizeOf4
  v4:=Tryz.zeroValue4
  t5:=Tryz.underlying5
  a5:=Tryz.isAgg5
  z5:=Tryz.sizeOf5
  v5:=Tryz.zeroValue5
  t9:=Tryz.underlying9
  a9:=Tryz.isAgg9
  z9:=Tryz.sizeOf9
  v9:=Tryz.zeroValue9
  t20:=Tryz.underlying20
  a20:=Tryz.isAgg20
  z20:=Tryz.sizeOf20
  v20:=Tryz.zeroValue20
  t21:=Tryz.underlying21
  a21:=Tryz.isAgg21
  z21:=Tryz.sizeOf21
  v21:=Tryz.zeroValue21
  t37:=Tryz.underlying68
  a37:=Tryz.isAgg68
  z37:=Tryz.sizeOf68
  v37:=Tryz.zeroValue68
  t46:=Tryz.underlying165
  a46:=Tryz.isAgg165
  z46:=Tryz.sizeOf165
  v46:=Tryz.zeroValue165
  t51:=Tryz.underlying234
  a51:=Tryz.isAgg234
  z51:=Tryz.sizeOf234
  v51:=Tryz.zeroValue234
  t53:=Tryz.underlying236
  a53:=Tryz.isAgg236
  z53:=Tryz.sizeOf236
  v53:=Tryz.zeroValue236
  t75:=Tryz.underlying213
  a75:=Tryz.isAgg213
  z75:=Tryz.sizeOf213
  v75:=Tryz.zeroValue213
  t76:=Tryz.underlying214
  a76:=Tryz.isAgg214
  z76:=Tryz.sizeOf214
  v76:=Tryz.zeroValue214
  t85:=Tryz.underlying385
  a85:=Tryz.isAgg385
  z85:=Tryz.sizeOf385
  v85:=Tryz.zeroValue385
  t127:=Tryz.underlying318
  a127:=Tryz.isAgg318
  z127:=Tryz.sizeOf318
  v127:=Tryz.zeroValue318
  t143:=Tryz.underlying525
  a143:=Tryz.isAgg525
  z143:=Tryz.sizeOf525
  v143:=Tryz.zeroValue525
  t145:=Tryz.underlying527
  a145:=Tryz.isAgg527
  z145:=Tryz.sizeOf527
  v145:=Tryz.zeroValue527
  t167:=Tryz.underlying384
  a167:=Tryz.isAgg384
  z167:=Tryz.sizeOf384
  v167:=Tryz.zeroValue384
  t168:=Tryz.underlying387
  a168:=Tryz.isAgg387
  z168:=Tryz.sizeOf387
  v168:=Tryz.zeroValue387
  t171:=Tryz.underlying560
  a171:=Tryz.isAgg560
  z171:=Tryz.sizeOf560
  v171:=Tryz.zeroValue560
  t173:=Tryz.underlying562
  a173:=Tryz.isAgg562
  z173:=Tryz.sizeOf562
  v173:=Tryz.zeroValue562
  t175:=Tryz.underlying481
  a175:=Tryz.isAgg481
  z175:=Tryz.sizeOf481
  v175:=Tryz.zeroValue481
  t210:=Tryz.underlying485
  a210:=Tryz.isAgg485
  z210:=Tryz.sizeOf485
  v210:=Tryz.zeroValue485
  t212:=Tryz.underlying584
  a212:=Tryz.isAgg584
  z212:=Tryz.sizeOf584
  v212:=Tryz.zeroValue584
  t213:=Tryz.underlying585
  a213:=Tryz.isAgg585
  z213:=Tryz.sizeOf585
  t232:=Tryz.underlying630
  a232:=Tryz.isAgg630
  z232:=Tryz.sizeOf630
  v232:=Tryz.zeroValue630
  t233:=Tryz.underlying631
  a233:=Tryz.isAgg631
  z233:=Tryz.sizeOf631
  v233:=Tryz.zeroValue631
  g15:=by kernel_rfl
  g16:=by kernel_rfl
  g17:=by kernel_rfl
  g18:=by kernel_rfl
  g19:=by kernel_rfl }
open Go.RowKit in
/-- strconv.Atoi: "Atoi is equivalent to ParseInt(s, 10, 0), converted to type int.": AT A DECIMAL NUMERAL OF AT MOST 18 BYTES: its value, and a nil error. The world behind the call: the one new row that the library's '[]byte(s)' lays. (LAID: no walk: one application.) -/
theorem Tryz.strconv_Atoi (s : ByteArray) (n : Int) (hl : s.size ≤ 18) (h : Lib.atoi s.data.toList = some n) (w : World) :
    Calls Tryz.prog 109 #[.string s] w fun e w' => e = .returned (.tuple #[.int .i64 n,.nilIface])∧∃ t,w' = Lib.bytesWorld w 5 t:=Any.strconv_Atoi Tryz.lays172 s n hl h w
def Tryz.laysM171_ren : Go.Shelf.Ren:=⟨fun | 171 => 248 | 243 => 365 | 246 => 444 | 283 => 499 | 284 => 500 | 285 => 501 | 286 => 502 | 129 => 131 | 317 => 544 | 318 => 545 | 319 => 546 | 320 => 547 | 337 => 575 | 338 => 576 | n => n,fun | 3 => 3 | 9 => 9 | 2 => 2 | 4 => 4 | 171 => 560 | 0 => 0 | 53 => 236 | 37 => 68 | 5 => 5 | 173 => 562 | 212 => 584 | 51 => 234 | 20 => 20 | 213 => 585 | 46 => 165 | 232 => 630 | 233 => 631 | n => n,fun | 17 => 3 | 18 => 6 | 19 => 7 | n => n⟩
theorem Tryz.laysM171 : Go.Proofs.LaysM.n171 Tryz.prog Tryz.laysM171_ren:={
  mixed:=by kernel_rfl
  f129:=Tryz.func131.trans (congrArg some (by kernel_rfl))
  f171:=Tryz.func248.trans (congrArg some (by kernel_rfl))
  f243:=Tryz.func365.trans (congrArg some (by kernel_rfl))
  f246:=Tryz.func444.trans (congrArg some (by kernel_rfl))
  f283:=Tryz.func499.trans (congrArg some (by kernel_rfl))
  f284:=Tryz.func500.trans (congrArg some (by kernel_rfl))
  f285:=Tryz.func501.trans (congrArg some (by kernel_rfl))
  f286:=Tryz.func502.trans (congrArg some (by kernel_rfl))
  f317:=Tryz.func544.trans (congrArg some (by kernel_rfl))
  f318:=Tryz.func545.trans (congrArg some (by kernel_rfl))
  f319:=Tryz.func546.trans (congrArg some (by kernel_rfl))
  f320:=Tryz.func547.trans (congrArg some (by kernel_rfl))
  f337:=Tryz.func575.trans (congrArg some (by kernel_rfl))
  f338:=Tryz.func576.trans (congrArg some (by kernel_rfl))
  t0:=Tryz.underlying0
  a0:=Tryz.isAgg0
  z0:=Tryz.sizeOf0
  v0:=Tryz.zeroValue0
  t2:=Tryz.underlying2
  a2:=Tryz.isAgg2
  z2:=Tryz.sizeOf2
  v2:=Tryz.zeroValue2
  t3:=Tryz.underlying3
  a3:=Tryz.isAgg3
  z3:=Tryz.sizeOf3
  v3:=Tryz.zeroValue3
  t4:=Tryz.underlying4
  a4:=Tryz.isAgg4
  z4:=Tryz.sizeOf4
  v4:=Tryz.zeroValue4
  t5:=Tryz.underlying5
  a5:=Tryz.isAgg5
  z5:=Tryz.sizeOf5
  v5:=Tryz.zeroValue5
  t9:=Tryz.underlying9
  a9:=Tryz.isAgg9
  z9:=Tryz.sizeOf9
  v9:=Tryz.zeroValue9
  t20:=Tryz.underlying20
  a20:=Tryz.isAgg20
  z20:=Tryz.sizeOf20
  v20:=Tryz.zeroValue20
  t37:=Tryz.underlying68
  a37:=Tryz.isAgg68
  z37:=Tryz.sizeOf68
  v37:=Tryz.zeroValue68
  t46:=Tryz.underlying165
  a46:=Tryz.isAgg165
  z46:=Tryz.sizeOf165
  v46:=Tryz.zeroValue165
  t51:=Tryz.underlying234
  a51:=Tryz.isAgg234
  z51:=Tryz.sizeOf234
  v51:=Tryz.zeroValue234
  t53:=Tryz.underlying236
  a53:=Tryz.isAgg236
  z53:=Tryz.sizeOf236
  v53:=Tryz.zeroValue236
  t171:=Tryz.underlying560
  a171:=Tryz.isAgg560
  z171:=Tryz.sizeOf560
  v171:=Tryz.zeroValue560
  t173:=Tryz.underlying562
  a173:=Tryz.isAgg562
  z173:=Tryz.sizeOf562
  v173:=Tryz.zeroValue562
  t212:=Tryz.underlying584
  a212:=Tryz.isAgg584
  z212:=Tryz.sizeOf584
  v212:=Tryz.zeroValue584
  t213:=Tryz.underlying585
  a213:=Tryz.isAgg585
  z213:=Tryz.sizeOf585
  t232:=Tryz.underlying630
  a232:=Tryz.isAgg630
  z232:=Tryz.sizeOf630
  v232:=Tryz.zeroValue630
  t233:=Tryz.underlying631
  a233:=Tryz.isAgg631
  z233:=Tryz.sizeOf631
  v233:=Tryz.zeroValue631
  g17:=by kernel_rfl
  g18:=by kernel_rfl
  g19:=by kernel_rfl
  i0:=by kernel_rfl
  i2:=by kernel_rfl
  i3:=by kernel_rfl
  i4:=by kernel_rfl
  i5:=by kernel_rfl
  i9:=by kernel_rfl
  i20:=by kernel_rfl
  i37:=by kernel_rfl
  i46:=by kernel_rfl
  i51:=by kernel_rfl
  i53:=by kernel_rfl
  i171:=by kernel_rfl
  i173:=by kernel_rfl
  i212:=by kernel_rfl
  i232:=by kernel_rfl
  i233:=by kernel_rfl
  m17:=by kernel_rfl
  m18:=by kernel_rfl
  m19:=by kernel_rfl }
open Go.RowKit Go.Sort Go.Lib in
/-- strconv.Itoa: "Itoa is equivalent to FormatInt(int64(i), 10).": i's DECIMAL NUMERAL ('Lib.itoa': a '-' where i is negative, then the digits), FOR EVERY int. The world behind the call: the world before it, new blocks behind the heap (the library's 'var a [24]byte'), draws. (LAID: no walk: one application.) -/
theorem Tryz.strconv_Itoa (n : Int) (h0 : -9223372036854775808 ≤ n) (h1 : n ≤ 9223372036854775807) (w : World) (htab : Lib.TabIs Tryz.prog w "internal/strconv.uint64pow10" .u64 Lib.pow10Tab) :
    Calls Tryz.prog 248 #[.int .i64 n] w fun e w' => e = .returned (.string ⟨(Lib.itoa n).toArray⟩)∧∃ k os,w' = grow (w.drewN k) os:=Any.strconv_Itoa Tryz.laysM171 n h0 h1 w htab
end Go.Proofs
