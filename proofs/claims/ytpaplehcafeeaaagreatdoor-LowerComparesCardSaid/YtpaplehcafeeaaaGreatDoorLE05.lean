/- Shelf Sh2. -/
import Derived.Shelf.Small.Utf8
import Derived.Shelf.Small.Bits
import Derived.Shelf.Small.Strs
import Derived.Shelf.Small.Wraps
import Derived.Shelf.Strconv.Itoa0
import Derived.Shelf.Strconv.Itoa1
import Derived.Shelf.LaysM
import Derived.Shelf.Strconv.Itoa2
import Derived.Shelf.Strconv.Itoa3
import Derived.Ground.MpProg
import Derived.Shelf.Pu.ParseUintPublic10
import Derived.Shelf.Strings.Search1
import Derived.Shelf.Strings.Prefix
import Derived.Shelf.Strings.Runes
import Derived.Shelf.Strings.IndexAny
import Derived.Shelf.Strings.AsciiSet
import Derived.Shelf.Strings.IndexAnyAll
import Derived.Shelf.Bits.Mul64
import Derived.Shelf.Slices.Turned
import Derived.Test.YtpaplehcafeeaaaGreatDoorProg
set_option maxRecDepth 100000
set_option maxHeartbeats 40000000
set_option linter.unusedVariables false
set_option linter.unusedSimpArgs false
namespace Go.Proofs
open Go.Shelf
def Tryz.lays125_ren:Go.Shelf.Ren:=⟨fun | 125=>201 | 128=>230 | 129=>231 | n=>n,fun | 46=>195 | 3=>3 | 51=>42 | 53=>116 | 4=>4 | 5=>5 | 9=>9 | n=>n,fun | n=>n⟩
theorem Tryz.lays125:Go.Proofs.Lays.n125 Tryz.prog Tryz.lays125_ren:={
 mixed:=by kernel_rfl
 f125:=Tryz.func201.trans (congrArg some (by kernel_rfl))
 f128:=Tryz.func230.trans (congrArg some (by kernel_rfl))
 f129:=Tryz.func231.trans (congrArg some (by kernel_rfl))
 t3:=Tryz.underlying3
 a3:=Tryz.isAgg3
 z3:=Tryz.sizeOf3
 v3:=Tryz.zeroValue3
 t4:=Tryz.underlying4
 a4:=Tryz.isAgg4
 z4:=Tryz.sizeOf4
 v4:=Tryz.zeroValue4
 t5:=Tryz.underlying5
 a5:=Tryz.isAgg5
 z5:=Tryz.sizeOf5
 v5:=Tryz.zeroValue5
 t9:=Tryz.underlying9
 a9:=Tryz.isAgg9
 z9:=Tryz.sizeOf9
 v9:=Tryz.zeroValue9
 t46:=Tryz.underlying195
 a46:=Tryz.isAgg195
 z46:=Tryz.sizeOf195
 v46:=Tryz.zeroValue195
 t51:=Tryz.underlying42
 a51:=Tryz.isAgg42
 z51:=Tryz.sizeOf42
 v51:=Tryz.zeroValue42
 t53:=Tryz.underlying116
 a53:=Tryz.isAgg116
 z53:=Tryz.sizeOf116
 v53:=Tryz.zeroValue116 }
theorem Tryz.bits_Len(x:Int)(w:World)(h0:0≤x)(h1:x≤18446744073709551615) :
  Calls Tryz.prog 201 #[.int .u64 x] w fun e w'=>e=.returned (.int .i64 (Lib.bitLen x.toNat))∧w'=w:=Any.bits_Len Tryz.lays125 x w h0 h1
def Tryz.lays103_ren:Go.Shelf.Ren:=⟨fun | 103=>221 | 210=>253 | 206=>256 | n=>n,fun | 9=>9 | 4=>4 | 24=>307 | 3=>3 | n=>n,fun | n=>n⟩
theorem Tryz.lays103:Go.Proofs.Lays.n103 Tryz.prog Tryz.lays103_ren:={
 mixed:=by kernel_rfl
 f103:=Tryz.func221.trans (congrArg some (by kernel_rfl))
 f206:=Tryz.func256.trans (congrArg some (by kernel_rfl))
 f210:=Tryz.func253.trans (congrArg some (by kernel_rfl))
 t3:=Tryz.underlying3
 a3:=Tryz.isAgg3
 z3:=Tryz.sizeOf3
 v3:=Tryz.zeroValue3
 t4:=Tryz.underlying4
 a4:=Tryz.isAgg4
 z4:=Tryz.sizeOf4
 v4:=Tryz.zeroValue4
 t9:=Tryz.underlying9
 a9:=Tryz.isAgg9
 z9:=Tryz.sizeOf9
 v9:=Tryz.zeroValue9
 t24:=Tryz.underlying307
 a24:=Tryz.isAgg307
 z24:=Tryz.sizeOf307
 v24:=Tryz.zeroValue307 }
open Go.RowKit in
theorem Tryz.strings_CutPrefix(s p:ByteArray)(w:World) :
  Calls Tryz.prog 221 #[.string s,.string p] w fun e w'=>e=.returned (.tuple #[.string ⟨(Lib.trimPrefix s.data.toList p.data.toList).toArray⟩,.bool (Lib.hasPrefix s.data.toList p.data.toList)])∧w'=w:=Any.strings_CutPrefix Tryz.lays103 s p w
def Tryz.laysPu14_ren:Go.Shelf.Ren:=⟨fun | 14=>223 | 16=>254 | 17=>255 | 19=>257 | 20=>258 | 21=>259 | 22=>260 | 23=>261 | 24=>262 | 25=>263 | 27=>265 | 26=>264 | 28=>266 | 29=>267 | 30=>268 | 31=>269 | 32=>270 | 33=>271 | 35=>231 | 34=>272 | 36=>273 | 37=>274 | 38=>275 | 39=>276 | 40=>277 | n=>n,fun | 9=>9 | 3=>3 | 22=>116 | 24=>311 | 25=>312 | 4=>4 | 34=>318 | 5=>5 | 36=>195 | 37=>131 | 0=>0 | 39=>321 | 21=>21 | 44=>326 | 47=>329 | 50=>332 | 48=>330 | 2=>2 | 52=>334 | 55=>336 | 59=>339 | 60=>42 | 20=>20 | 61=>340 | 65=>341 | 66=>342 | 67=>343 | n=>n,fun | 0=>1 | 1=>2 | 2=>3 | 3=>4 | 4=>5 | n=>n⟩
theorem Tryz.laysPu14:Go.Proofs.LaysPu.n14 Tryz.prog Tryz.laysPu14_ren:={
 mixed:=by kernel_rfl
 f14:=Tryz.func223.trans (congrArg some (by kernel_rfl))
 f16:=Tryz.func254.trans (congrArg some (by kernel_rfl))
 f17:=Tryz.func255.trans (congrArg some (by kernel_rfl))
 f19:=Tryz.func257.trans (congrArg some (by kernel_rfl))
 f20:=Tryz.func258.trans (congrArg some (by kernel_rfl))
 f21:=Tryz.func259.trans (congrArg some (by kernel_rfl))
 f22:=Tryz.func260.trans (congrArg some (by kernel_rfl))
 f23:=Tryz.func261.trans (congrArg some (by kernel_rfl))
 f24:=Tryz.func262.trans (congrArg some (by kernel_rfl))
 f25:=Tryz.func263.trans (congrArg some (by kernel_rfl))
 f26:=Tryz.func264.trans (congrArg some (by kernel_rfl))
 f27:=Tryz.func265.trans (congrArg some (by kernel_rfl))
 f28:=Tryz.func266.trans (congrArg some (by kernel_rfl))
 f29:=Tryz.func267.trans (congrArg some (by kernel_rfl))
 f30:=Tryz.func268.trans (congrArg some (by kernel_rfl))
 f31:=Tryz.func269.trans (congrArg some (by kernel_rfl))
 f32:=Tryz.func270.trans (congrArg some (by kernel_rfl))
 f33:=Tryz.func271.trans (congrArg some (by kernel_rfl))
 f34:=Tryz.func272.trans (congrArg some (by kernel_rfl))
 f35:=Tryz.func231.trans (congrArg some (by kernel_rfl))
 f36:=Tryz.func273.trans (congrArg some (by kernel_rfl))
 f37:=Tryz.func274.trans (congrArg some (by kernel_rfl))
 f38:=Tryz.func275.trans (congrArg some (by kernel_rfl))
 f39:=Tryz.func276.trans (congrArg some (by kernel_rfl))
 f40:=Tryz.func277.trans (congrArg some (by kernel_rfl))
 t0:=Tryz.underlying0
 a0:=Tryz.isAgg0
 z0:=Tryz.sizeOf0
 v0:=Tryz.zeroValue0
 i0:=by kernel_rfl
 t2:=Tryz.underlying2
 a2:=Tryz.isAgg2
 z2:=Tryz.sizeOf2
 v2:=Tryz.zeroValue2
 i2:=by kernel_rfl
 t3:=Tryz.underlying3
 a3:=Tryz.isAgg3
 z3:=Tryz.sizeOf3
 v3:=Tryz.zeroValue3
 i3:=by kernel_rfl
 t4:=Tryz.underlying4
 a4:=Tryz.isAgg4
 z4:=Tryz.sizeOf4
 v4:=Tryz.zeroValue4
 i4:=by kernel_rfl
 t5:=Tryz.underlying5
 a5:=Tryz.isAgg5
 z5:=Tryz.sizeOf5
 v5:=Tryz.zeroValue5
 i5:=by kernel_rfl
 t9:=Tryz.underlying9
 a9:=Tryz.isAgg9
 z9:=Tryz.sizeOf9
 v9:=Tryz.zeroValue9
 i9:=by kernel_rfl
 t20:=Tryz.underlying20
 a20:=Tryz.isAgg20
 z20:=Tryz.sizeOf20
 v20:=Tryz.zeroValue20
 i20:=by kernel_rfl
 t21:=Tryz.underlying21
 a21:=Tryz.isAgg21
 z21:=Tryz.sizeOf21
 v21:=Tryz.zeroValue21
 i21:=by kernel_rfl
 t22:=Tryz.underlying116
 a22:=Tryz.isAgg116
 z22:=Tryz.sizeOf116
 v22:=Tryz.zeroValue116
 i22:=by kernel_rfl
 t24:=Tryz.underlying311
 a24:=Tryz.isAgg311
 z24:=Tryz.sizeOf311
 v24:=Tryz.zeroValue311
 i24:=by kernel_rfl
 t25:=Tryz.underlying312
 a25:=Tryz.isAgg312
 z25:=Tryz.sizeOf312
 v25:=Tryz.zeroValue312
 i25:=by kernel_rfl
 t34:=Tryz.underlying318
 a34:=Tryz.isAgg318
 z34:=Tryz.sizeOf318
 v34:=Tryz.zeroValue318
 i34:=by kernel_rfl
 c34:=by kernel_rfl
 t36:=Tryz.underlying195
 a36:=Tryz.isAgg195
 z36:=Tryz.sizeOf195
 v36:=Tryz.zeroValue195
 i36:=by kernel_rfl
 t37:=Tryz.underlying131
 a37:=Tryz.isAgg131
 z37:=Tryz.sizeOf131
 v37:=Tryz.zeroValue131
 i37:=by kernel_rfl
 t39:=Tryz.underlying321
 a39:=Tryz.isAgg321
 z39:=Tryz.sizeOf321
 v39:=Tryz.zeroValue321
 i39:=by kernel_rfl
 t44:=Tryz.underlying326
 a44:=Tryz.isAgg326
 z44:=Tryz.sizeOf326
 v44:=Tryz.zeroValue326
 i44:=by kernel_rfl
 t47:=Tryz.underlying329
 a47:=Tryz.isAgg329
 z47:=Tryz.sizeOf329
 v47:=Tryz.zeroValue329
 i47:=by kernel_rfl
 t48:=Tryz.underlying330
 a48:=Tryz.isAgg330
 z48:=Tryz.sizeOf330
 v48:=Tryz.zeroValue330
 i48:=by kernel_rfl
 t50:=Tryz.underlying332
 a50:=Tryz.isAgg332
 z50:=Tryz.sizeOf332
 v50:=Tryz.zeroValue332
 i50:=by kernel_rfl
 t52:=Tryz.underlying334
 a52:=Tryz.isAgg334
 z52:=Tryz.sizeOf334
 v52:=Tryz.zeroValue334
 i52:=by kernel_rfl
 t55:=Tryz.underlying336
 a55:=Tryz.isAgg336
 z55:=Tryz.sizeOf336
 v55:=Tryz.zeroValue336
 i55:=by kernel_rfl
 t59:=Tryz.underlying339
 a59:=Tryz.isAgg339
 z59:=Tryz.sizeOf339
 v59:=Tryz.zeroValue339
 i59:=by kernel_rfl
 t60:=Tryz.underlying42
 a60:=Tryz.isAgg42
 z60:=Tryz.sizeOf42
 v60:=Tryz.zeroValue42
 i60:=by kernel_rfl
 t61:=Tryz.underlying340
 a61:=Tryz.isAgg340
 z61:=Tryz.sizeOf340
 t65:=Tryz.underlying341
 a65:=Tryz.isAgg341
 z65:=Tryz.sizeOf341
 v65:=Tryz.zeroValue341
 i65:=by kernel_rfl
 t66:=Tryz.underlying342
 a66:=Tryz.isAgg342
 z66:=Tryz.sizeOf342
 v66:=Tryz.zeroValue342
 i66:=by kernel_rfl
 t67:=Tryz.underlying343
 a67:=Tryz.isAgg343
 z67:=Tryz.sizeOf343
 v67:=Tryz.zeroValue343
 i67:=by kernel_rfl
 g0:=by kernel_rfl
 m0:=by kernel_rfl
 g1:=by kernel_rfl
 m1:=by kernel_rfl
 g2:=by kernel_rfl
 m2:=by kernel_rfl
 g3:=by kernel_rfl
 m3:=by kernel_rfl
 g4:=by kernel_rfl
 m4:=by kernel_rfl }
open Go.RowKit in
theorem Tryz.strconv_ParseUint_10_at32_ok(s:ByteArray)(hmax:s.size≤9223372036854775806)(u:Nat)(h:Lib.parseUintB 32 s.data.toList=.ok u)(w:World) :
  Calls Tryz.prog 223 #[.string s,.int .i64 10,.int .i64 32] w fun e w'=>e=.returned (.tuple #[.int .u64 u,.nilIface])∧(w'=w∨w'=Lib.bytesWorld w 5 s):=Any.strconv_ParseUint_10_at32_ok Tryz.laysPu14 s hmax u h w
open Go.RowKit in
theorem Tryz.strconv_ParseUint_10_at32_range(s:ByteArray)(hlim:s.size≤281474976710656)(h:Lib.parseUintB 32 s.data.toList=.range)(ev:Value)(w:World)(hv:w.cell? ⟨2,0,none⟩=some ev)(hev:ev=.nilIface∨∃ te pe,ev=.iface te pe) :
  Calls Tryz.prog 223 #[.string s,.int .i64 10,.int .i64 32] w fun e w'=>∃ N,e=.returned (.tuple #[.int .u64 4294967295,.iface 321 (.pointer (some ⟨N,0,none⟩))])∧w.heap.size≤N∧w'.heap[N]?=some (.cells #[.string ⟨#[80,97,114,115,101,85,105,110,116]⟩,.string s,ev] 326 (0,0))∧Below w.heap.size w w':=Any.strconv_ParseUint_10_at32_range Tryz.laysPu14 s hlim h ev w hv hev
def Tryz.lays217_ren:Go.Shelf.Ren:=⟨fun | 217=>185 | 266=>216 | n=>n,fun | 9=>9 | 5=>5 | 3=>3 | n=>n,fun | n=>n⟩
theorem Tryz.lays217:Go.Proofs.Lays.n217 Tryz.prog Tryz.lays217_ren:={
 mixed:=by kernel_rfl
 f217:=Tryz.func185.trans (congrArg some (by kernel_rfl))
 f266:=Tryz.func216.trans (congrArg some (by kernel_rfl))
 t3:=Tryz.underlying3
 a3:=Tryz.isAgg3
 z3:=Tryz.sizeOf3
 v3:=Tryz.zeroValue3
 t5:=Tryz.underlying5
 a5:=Tryz.isAgg5
 z5:=Tryz.sizeOf5
 v5:=Tryz.zeroValue5
 t9:=Tryz.underlying9
 a9:=Tryz.isAgg9
 z9:=Tryz.sizeOf9
 v9:=Tryz.zeroValue9 }
open Go.RowKit Go.Lib in
theorem Tryz.stringslite_IndexByte(s:ByteArray)(c:Int)(w:World) :
  Calls Tryz.prog 185 #[.string s,.int .u8 c] w fun e w'=>e=.returned (.int .i64 (Lib.indexByte s.data.toList c.toNat.toUInt8))∧w'=w:=Any.stringslite_IndexByte Tryz.lays217 s c w
def Tryz.lays152_ren:Go.Shelf.Ren:=⟨fun | 152=>186 | 137=>151 | 119=>217 | 224=>218 | 225=>219 | 217=>185 | 266=>216 | n=>n,fun | 9=>9 | 21=>21 | 3=>3 | 4=>4 | 5=>5 | 0=>0 | 46=>195 | n=>n,fun | n=>n⟩
theorem Tryz.lays152:Go.Proofs.Lays.n152 Tryz.prog Tryz.lays152_ren:={
 mixed:=by kernel_rfl
 f119:=Tryz.func217.trans (congrArg some (by kernel_rfl))
 f137:=Tryz.func151.trans (congrArg some (by kernel_rfl))
 f152:=Tryz.func186.trans (congrArg some (by kernel_rfl))
 f217:=Tryz.func185.trans (congrArg some (by kernel_rfl))
 f224:=Tryz.func218.trans (congrArg some (by kernel_rfl))
 f225:=Tryz.func219.trans (congrArg some (by kernel_rfl))
 f266:=Tryz.func216.trans (congrArg some (by kernel_rfl))
 t0:=Tryz.underlying0
 a0:=Tryz.isAgg0
 z0:=Tryz.sizeOf0
 v0:=Tryz.zeroValue0
 t3:=Tryz.underlying3
 a3:=Tryz.isAgg3
 z3:=Tryz.sizeOf3
 v3:=Tryz.zeroValue3
 t4:=Tryz.underlying4
 a4:=Tryz.isAgg4
 z4:=Tryz.sizeOf4
 v4:=Tryz.zeroValue4
 t5:=Tryz.underlying5
 a5:=Tryz.isAgg5
 z5:=Tryz.sizeOf5
 v5:=Tryz.zeroValue5
 t9:=Tryz.underlying9
 a9:=Tryz.isAgg9
 z9:=Tryz.sizeOf9
 v9:=Tryz.zeroValue9
 t21:=Tryz.underlying21
 a21:=Tryz.isAgg21
 z21:=Tryz.sizeOf21
 v21:=Tryz.zeroValue21
 t46:=Tryz.underlying195
 a46:=Tryz.isAgg195
 z46:=Tryz.sizeOf195
 v46:=Tryz.zeroValue195 }
open Go.RowKit Go.Lib in
theorem Tryz.strings_IndexRune_ascii(s:ByteArray)(r:Int)(w:World)(h0:0≤r)(h1:r < 128) :
  Calls Tryz.prog 186 #[.string s,.int .i32 r] w fun e w'=>e=.returned (.int .i64 (Lib.indexByte s.data.toList r.toNat.toUInt8))∧w'=w:=Any.strings_IndexRune_ascii Tryz.lays152 s r w h0 h1
def Tryz.lays153_ren:Go.Shelf.Ren:=⟨fun | 153=>152 | 152=>186 | 226=>187 | 227=>188 | 228=>189 | 137=>151 | 119=>217 | 224=>218 | 225=>219 | 217=>185 | 266=>216 | n=>n,fun | 9=>9 | 3=>3 | 4=>4 | 5=>5 | 21=>21 | 117=>290 | 116=>289 | 0=>0 | 46=>195 | 124=>305 | n=>n,fun | n=>n⟩
theorem Tryz.lays153:Go.Proofs.Lays.n153 Tryz.prog Tryz.lays153_ren:={
 mixed:=by kernel_rfl
 f119:=Tryz.func217.trans (congrArg some (by kernel_rfl))
 f137:=Tryz.func151.trans (congrArg some (by kernel_rfl))
 f152:=Tryz.func186.trans (congrArg some (by kernel_rfl))
 f153:=Tryz.func152.trans (congrArg some (by kernel_rfl))
 f217:=Tryz.func185.trans (congrArg some (by kernel_rfl))
 f224:=Tryz.func218.trans (congrArg some (by kernel_rfl))
 f225:=Tryz.func219.trans (congrArg some (by kernel_rfl))
 f226:=Tryz.func187.trans (congrArg some (by kernel_rfl))
 f227:=Tryz.func188.trans (congrArg some (by kernel_rfl))
 f228:=Tryz.func189.trans (congrArg some (by kernel_rfl))
 f266:=Tryz.func216.trans (congrArg some (by kernel_rfl))
 t0:=Tryz.underlying0
 a0:=Tryz.isAgg0
 z0:=Tryz.sizeOf0
 v0:=Tryz.zeroValue0
 t3:=Tryz.underlying3
 a3:=Tryz.isAgg3
 z3:=Tryz.sizeOf3
 v3:=Tryz.zeroValue3
 t4:=Tryz.underlying4
 a4:=Tryz.isAgg4
 z4:=Tryz.sizeOf4
 v4:=Tryz.zeroValue4
 t5:=Tryz.underlying5
 a5:=Tryz.isAgg5
 z5:=Tryz.sizeOf5
 v5:=Tryz.zeroValue5
 t9:=Tryz.underlying9
 a9:=Tryz.isAgg9
 z9:=Tryz.sizeOf9
 v9:=Tryz.zeroValue9
 t21:=Tryz.underlying21
 a21:=Tryz.isAgg21
 z21:=Tryz.sizeOf21
 v21:=Tryz.zeroValue21
 t46:=Tryz.underlying195
 a46:=Tryz.isAgg195
 z46:=Tryz.sizeOf195
 v46:=Tryz.zeroValue195
 t116:=Tryz.underlying289
 a116:=Tryz.isAgg289
 z116:=Tryz.sizeOf289
 t117:=Tryz.underlying290
 a117:=Tryz.isAgg290
 z117:=Tryz.sizeOf290
 v117:=Tryz.zeroValue290
 t124:=Tryz.underlying305
 a124:=Tryz.isAgg305
 z124:=Tryz.sizeOf305
 v124:=Tryz.zeroValue305 }
open Go.RowKit Go.Lib in
theorem Tryz.strings_IndexAny_long(hv116:∀ w,(zeroValue 289).run Tryz.prog w=.ok (.agg (Array.replicate 256 (.bool false))) w)(s chars:ByteArray)(w:World)(h2:2≤chars.size)(h8:8 < s.size)(hs:s.size < 4294967281)(hcs:chars.size < 4294967281)(hascii:∀ (j:Nat) b,chars.data.toList[j]?=some b→b.toNat < 128) :
  Calls Tryz.prog 152 #[.string s,.string chars] w fun e w'=>e=.returned (.int .i64 (Lib.indexAny s.data.toList chars.data.toList))∧w'=((w.alloc (.cells (Lib.setCells chars.data.toList) 289)).alloc (.cells (Lib.setCells chars.data.toList) 289)):=Any.strings_IndexAny_long Tryz.lays153 hv116 (by kernel_rfl) s chars w h2 h8 hs hcs hascii
def Tryz.lays109_ren:Go.Shelf.Ren:=⟨fun | 109=>193 | n=>n,fun | 31=>171 | 9=>9 | 3=>3 | 0=>0 | 4=>4 | n=>n,fun | n=>n⟩
theorem Tryz.lays109:Go.Proofs.Lays.n109 Tryz.prog Tryz.lays109_ren:={
 mixed:=by kernel_rfl
 f109:=Tryz.func193.trans (congrArg some (by kernel_rfl))
 t0:=Tryz.underlying0
 a0:=Tryz.isAgg0
 z0:=Tryz.sizeOf0
 v0:=Tryz.zeroValue0
 t3:=Tryz.underlying3
 a3:=Tryz.isAgg3
 z3:=Tryz.sizeOf3
 v3:=Tryz.zeroValue3
 t4:=Tryz.underlying4
 a4:=Tryz.isAgg4
 z4:=Tryz.sizeOf4
 v4:=Tryz.zeroValue4
 t9:=Tryz.underlying9
 a9:=Tryz.isAgg9
 z9:=Tryz.sizeOf9
 v9:=Tryz.zeroValue9
 t31:=Tryz.underlying171
 a31:=Tryz.isAgg171
 z31:=Tryz.sizeOf171
 v31:=Tryz.zeroValue171 }
open Go.Lib in
theorem Tryz.slices_Index_string(b off n c:Nat)(zs:List ByteArray)(x:ByteArray)(w:World)(hz:n≤zs.length)(hbig:n≤9223372036854775807)(hc:∀ j,j < zs.length→w.cell? ⟨b,off+j,none⟩=some (.string (zs.getD j ByteArray.empty))) :
  Calls Tryz.prog 193 #[.slice (some ⟨b,off,none⟩) n c,.string x] w fun e w'=>e=.returned (.int .i64 (Lib.idxOfS (zs.take n) x))∧w'=w:=Any.slices_Index_string Tryz.lays109 b off n c zs x w hz hbig hc
open Go.Lib in
theorem Tryz.slices_Index_string_empty(a:Option Addr)(c:Nat)(x:ByteArray)(w:World) :
  Calls Tryz.prog 193 #[.slice a 0 c,.string x] w fun e w'=>e=.returned (.int .i64 (Lib.idxOfS [] x))∧w'=w:=Any.slices_Index_string_empty Tryz.lays109 a c x w
def Tryz.lays110_ren:Go.Shelf.Ren:=⟨fun | 110=>220 | 109=>193 | n=>n,fun | 31=>171 | 9=>9 | 4=>4 | 3=>3 | 0=>0 | n=>n,fun | n=>n⟩
theorem Tryz.lays110:Go.Proofs.Lays.n110 Tryz.prog Tryz.lays110_ren:={
 mixed:=by kernel_rfl
 f109:=Tryz.func193.trans (congrArg some (by kernel_rfl))
 f110:=Tryz.func220.trans (congrArg some (by kernel_rfl))
 t0:=Tryz.underlying0
 a0:=Tryz.isAgg0
 z0:=Tryz.sizeOf0
 v0:=Tryz.zeroValue0
 t3:=Tryz.underlying3
 a3:=Tryz.isAgg3
 z3:=Tryz.sizeOf3
 v3:=Tryz.zeroValue3
 t4:=Tryz.underlying4
 a4:=Tryz.isAgg4
 z4:=Tryz.sizeOf4
 v4:=Tryz.zeroValue4
 t9:=Tryz.underlying9
 a9:=Tryz.isAgg9
 z9:=Tryz.sizeOf9
 v9:=Tryz.zeroValue9
 t31:=Tryz.underlying171
 a31:=Tryz.isAgg171
 z31:=Tryz.sizeOf171
 v31:=Tryz.zeroValue171 }
open Go.Lib in
theorem Tryz.slices_Contains_string(b off n c:Nat)(zs:List ByteArray)(x:ByteArray)(w:World)(hz:n≤zs.length)(hbig:n≤9223372036854775807)(hc:∀ j,j < zs.length→w.cell? ⟨b,off+j,none⟩=some (.string (zs.getD j ByteArray.empty))) :
  Calls Tryz.prog 220 #[.slice (some ⟨b,off,none⟩) n c,.string x] w fun e w'=>e=.returned (.bool (Lib.containsS (zs.take n) x))∧w'=w:=Any.slices_Contains_string Tryz.lays110 b off n c zs x w hz hbig hc
open Go.Lib in
theorem Tryz.slices_Contains_string_empty(a:Option Addr)(c:Nat)(x:ByteArray)(w:World) :
  Calls Tryz.prog 220 #[.slice a 0 c,.string x] w fun e w'=>e=.returned (.bool false)∧w'=w:=Any.slices_Contains_string_empty Tryz.lays110 a c x w
def Tryz.lays212_ren:Go.Shelf.Ren:=⟨fun | 212=>108 | 263=>140 | 264=>141 | n=>n,fun | 46=>195 | 51=>42 | 146=>236 | 53=>116 | 148=>238 | n=>n,fun | n=>n⟩
theorem Tryz.lays212:Go.Proofs.Lays.n212 Tryz.prog Tryz.lays212_ren:={
 mixed:=by kernel_rfl
 f212:=Tryz.func108.trans (congrArg some (by kernel_rfl))
 f263:=Tryz.func140.trans (congrArg some (by kernel_rfl))
 f264:=Tryz.func141.trans (congrArg some (by kernel_rfl))
 t46:=Tryz.underlying195
 a46:=Tryz.isAgg195
 z46:=Tryz.sizeOf195
 v46:=Tryz.zeroValue195
 t51:=Tryz.underlying42
 a51:=Tryz.isAgg42
 z51:=Tryz.sizeOf42
 v51:=Tryz.zeroValue42
 t53:=Tryz.underlying116
 a53:=Tryz.isAgg116
 z53:=Tryz.sizeOf116
 v53:=Tryz.zeroValue116
 t146:=Tryz.underlying236
 a146:=Tryz.isAgg236
 z146:=Tryz.sizeOf236
 v146:=Tryz.zeroValue236
 t148:=Tryz.underlying238
 a148:=Tryz.isAgg238
 z148:=Tryz.sizeOf238
 v148:=Tryz.zeroValue238 }
open Go.RowKit Go.Lib in
theorem Tryz.bits_Mul(x y:Nat)(hx:x < 18446744073709551616)(hy:y < 18446744073709551616)(w:World) :
  Calls Tryz.prog 108 #[.int .u64 x,.int .u64 y] w fun e w'=>e=.returned (.tuple #[.int .u64 ((x * y / 18446744073709551616:Nat):Int),.int .u64 ((x * y % 18446744073709551616:Nat):Int)])∧w'=w:=Any.bits_Mul Tryz.lays212 x y hx hy w
end Go.Proofs
