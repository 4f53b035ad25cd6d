/- Shelf Sh2. -/
import Derived.Shelf.Small.Utf8
import Derived.Shelf.Small.Bits
import Derived.Shelf.Small.Strs
import Derived.Shelf.Small.Wraps
import Derived.Shelf.Strconv.Itoa0
import Derived.Shelf.Strconv.Itoa1
import Derived.Shelf.LaysM
import Derived.Shelf.Strconv.Itoa2
import Derived.Shelf.Strconv.Itoa3
import Derived.Ground.MpProg
import Derived.Shelf.Pu.ParseUintPublic10
import Derived.Shelf.Strings.Search1
import Derived.Shelf.Strings.Prefix
import Derived.Shelf.Strings.Runes
import Derived.Shelf.Strings.IndexAny
import Derived.Shelf.Strings.AsciiSet
import Derived.Shelf.Strings.IndexAnyAll
import Derived.Shelf.Bits.Mul64
import Derived.Shelf.Slices.Turned
import Derived.Test.YtepoclhdklgnhaaGreatDoorProg
set_option maxRecDepth 100000
set_option maxHeartbeats 40000000
set_option linter.unusedVariables false
set_option linter.unusedSimpArgs false
namespace Go.Proofs
open Go.Shelf
def Tryz.lays125_ren:Go.Shelf.Ren:=⟨fun | 125=>164 | 128=>182 | 129=>183 | n=>n,fun | 46=>183 | 3=>3 | 51=>51 | 53=>117 | 4=>4 | 5=>5 | 9=>9 | n=>n,fun | n=>n⟩
theorem Tryz.lays125:Go.Proofs.Lays.n125 Tryz.prog Tryz.lays125_ren:={
 mixed:=by kernel_rfl
 f125:=Tryz.func164.trans (congrArg some (by kernel_rfl))
 f128:=Tryz.func182.trans (congrArg some (by kernel_rfl))
 f129:=Tryz.func183.trans (congrArg some (by kernel_rfl))
 t3:=Tryz.underlying3
 a3:=Tryz.isAgg3
 z3:=Tryz.sizeOf3
 v3:=Tryz.zeroValue3
 t4:=Tryz.underlying4
 a4:=Tryz.isAgg4
 z4:=Tryz.sizeOf4
 v4:=Tryz.zeroValue4
 t5:=Tryz.underlying5
 a5:=Tryz.isAgg5
 z5:=Tryz.sizeOf5
 v5:=Tryz.zeroValue5
 t9:=Tryz.underlying9
 a9:=Tryz.isAgg9
 z9:=Tryz.sizeOf9
 v9:=Tryz.zeroValue9
 t46:=Tryz.underlying183
 a46:=Tryz.isAgg183
 z46:=Tryz.sizeOf183
 v46:=Tryz.zeroValue183
 t51:=Tryz.underlying51
 a51:=Tryz.isAgg51
 z51:=Tryz.sizeOf51
 v51:=Tryz.zeroValue51
 t53:=Tryz.underlying117
 a53:=Tryz.isAgg117
 z53:=Tryz.sizeOf117
 v53:=Tryz.zeroValue117 }
theorem Tryz.bits_Len(x:Int)(w:World)(h0:0≤x)(h1:x≤18446744073709551615) :
  Calls Tryz.prog 164 #[.int .u64 x] w fun e w'=>e=.returned (.int .i64 (Lib.bitLen x.toNat))∧w'=w:=Any.bits_Len Tryz.lays125 x w h0 h1
def Tryz.lays103_ren:Go.Shelf.Ren:=⟨fun | 103=>179 | 210=>204 | 206=>228 | n=>n,fun | 9=>9 | 4=>4 | 24=>268 | 3=>3 | n=>n,fun | n=>n⟩
theorem Tryz.lays103:Go.Proofs.Lays.n103 Tryz.prog Tryz.lays103_ren:={
 mixed:=by kernel_rfl
 f103:=Tryz.func179.trans (congrArg some (by kernel_rfl))
 f206:=Tryz.func228.trans (congrArg some (by kernel_rfl))
 f210:=Tryz.func204.trans (congrArg some (by kernel_rfl))
 t3:=Tryz.underlying3
 a3:=Tryz.isAgg3
 z3:=Tryz.sizeOf3
 v3:=Tryz.zeroValue3
 t4:=Tryz.underlying4
 a4:=Tryz.isAgg4
 z4:=Tryz.sizeOf4
 v4:=Tryz.zeroValue4
 t9:=Tryz.underlying9
 a9:=Tryz.isAgg9
 z9:=Tryz.sizeOf9
 v9:=Tryz.zeroValue9
 t24:=Tryz.underlying268
 a24:=Tryz.isAgg268
 z24:=Tryz.sizeOf268
 v24:=Tryz.zeroValue268 }
open Go.RowKit in
theorem Tryz.strings_CutPrefix(s p:ByteArray)(w:World) :
  Calls Tryz.prog 179 #[.string s,.string p] w fun e w'=>e=.returned (.tuple #[.string ⟨(Lib.trimPrefix s.data.toList p.data.toList).toArray⟩,.bool (Lib.hasPrefix s.data.toList p.data.toList)])∧w'=w:=Any.strings_CutPrefix Tryz.lays103 s p w
def Tryz.laysPu14_ren:Go.Shelf.Ren:=⟨fun | 14=>181 | 16=>205 | 17=>206 | 19=>229 | 20=>230 | 21=>231 | 22=>232 | 23=>233 | 24=>234 | 25=>235 | 27=>237 | 26=>236 | 28=>238 | 29=>239 | 30=>240 | 31=>241 | 32=>242 | 33=>243 | 35=>183 | 34=>244 | 36=>245 | 37=>246 | 38=>247 | 39=>248 | 40=>249 | n=>n,fun | 9=>9 | 3=>3 | 22=>117 | 24=>272 | 25=>273 | 4=>4 | 34=>283 | 5=>5 | 36=>183 | 37=>72 | 0=>0 | 39=>286 | 21=>21 | 44=>291 | 47=>294 | 50=>297 | 48=>295 | 2=>2 | 52=>299 | 55=>301 | 59=>304 | 60=>51 | 20=>20 | 61=>305 | 65=>306 | 66=>307 | 67=>308 | n=>n,fun | 0=>1 | 1=>2 | 2=>3 | 3=>4 | 4=>5 | n=>n⟩
theorem Tryz.laysPu14:Go.Proofs.LaysPu.n14 Tryz.prog Tryz.laysPu14_ren:={
 mixed:=by kernel_rfl
 f14:=Tryz.func181.trans (congrArg some (by kernel_rfl))
 f16:=Tryz.func205.trans (congrArg some (by kernel_rfl))
 f17:=Tryz.func206.trans (congrArg some (by kernel_rfl))
 f19:=Tryz.func229.trans (congrArg some (by kernel_rfl))
 f20:=Tryz.func230.trans (congrArg some (by kernel_rfl))
 f21:=Tryz.func231.trans (congrArg some (by kernel_rfl))
 f22:=Tryz.func232.trans (congrArg some (by kernel_rfl))
 f23:=Tryz.func233.trans (congrArg some (by kernel_rfl))
 f24:=Tryz.func234.trans (congrArg some (by kernel_rfl))
 f25:=Tryz.func235.trans (congrArg some (by kernel_rfl))
 f26:=Tryz.func236.trans (congrArg some (by kernel_rfl))
 f27:=Tryz.func237.trans (congrArg some (by kernel_rfl))
 f28:=Tryz.func238.trans (congrArg some (by kernel_rfl))
 f29:=Tryz.func239.trans (congrArg some (by kernel_rfl))
 f30:=Tryz.func240.trans (congrArg some (by kernel_rfl))
 f31:=Tryz.func241.trans (congrArg some (by kernel_rfl))
 f32:=Tryz.func242.trans (congrArg some (by kernel_rfl))
 f33:=Tryz.func243.trans (congrArg some (by kernel_rfl))
 f34:=Tryz.func244.trans (congrArg some (by kernel_rfl))
 f35:=Tryz.func183.trans (congrArg some (by kernel_rfl))
 f36:=Tryz.func245.trans (congrArg some (by kernel_rfl))
 f37:=Tryz.func246.trans (congrArg some (by kernel_rfl))
 f38:=Tryz.func247.trans (congrArg some (by kernel_rfl))
 f39:=Tryz.func248.trans (congrArg some (by kernel_rfl))
 f40:=Tryz.func249.trans (congrArg some (by kernel_rfl))
 t0:=Tryz.underlying0
 a0:=Tryz.isAgg0
 z0:=Tryz.sizeOf0
 v0:=Tryz.zeroValue0
 i0:=by kernel_rfl
 t2:=Tryz.underlying2
 a2:=Tryz.isAgg2
 z2:=Tryz.sizeOf2
 v2:=Tryz.zeroValue2
 i2:=by kernel_rfl
 t3:=Tryz.underlying3
 a3:=Tryz.isAgg3
 z3:=Tryz.sizeOf3
 v3:=Tryz.zeroValue3
 i3:=by kernel_rfl
 t4:=Tryz.underlying4
 a4:=Tryz.isAgg4
 z4:=Tryz.sizeOf4
 v4:=Tryz.zeroValue4
 i4:=by kernel_rfl
 t5:=Tryz.underlying5
 a5:=Tryz.isAgg5
 z5:=Tryz.sizeOf5
 v5:=Tryz.zeroValue5
 i5:=by kernel_rfl
 t9:=Tryz.underlying9
 a9:=Tryz.isAgg9
 z9:=Tryz.sizeOf9
 v9:=Tryz.zeroValue9
 i9:=by kernel_rfl
 t20:=Tryz.underlying20
 a20:=Tryz.isAgg20
 z20:=Tryz.sizeOf20
 v20:=Tryz.zeroValue20
 i20:=by kernel_rfl
 t21:=Tryz.underlying21
 a21:=Tryz.isAgg21
 z21:=Tryz.sizeOf21
 v21:=Tryz.zeroValue21
 i21:=by kernel_rfl
 t22:=Tryz.underlying117
 a22:=Tryz.isAgg117
 z22:=Tryz.sizeOf117
 v22:=Tryz.zeroValue117
 i22:=by kernel_rfl
 t24:=Tryz.underlying272
 a24:=Tryz.isAgg272
 z24:=Tryz.sizeOf272
 v24:=Tryz.zeroValue272
 i24:=by kernel_rfl
 t25:=Tryz.underlying273
 a25:=Tryz.isAgg273
 z25:=Tryz.sizeOf273
 v25:=Tryz.zeroValue273
 i25:=by kernel_rfl
 t34:=Tryz.underlying283
 a34:=Tryz.isAgg283
 z34:=Tryz.sizeOf283
 v34:=Tryz.zeroValue283
 i34:=by kernel_rfl
 c34:=by kernel_rfl
 t36:=Tryz.underlying183
 a36:=Tryz.isAgg183
 z36:=Tryz.sizeOf183
 v36:=Tryz.zeroValue183
 i36:=by kernel_rfl
 t37:=Tryz.underlying72
 a37:=Tryz.isAgg72
 z37:=Tryz.sizeOf72
 v37:=Tryz.zeroValue72
 i37:=by kernel_rfl
 t39:=Tryz.underlying286
 a39:=Tryz.isAgg286
 z39:=Tryz.sizeOf286
 v39:=Tryz.zeroValue286
 i39:=by kernel_rfl
 t44:=Tryz.underlying291
 a44:=Tryz.isAgg291
 z44:=Tryz.sizeOf291
 v44:=Tryz.zeroValue291
 i44:=by kernel_rfl
 t47:=Tryz.underlying294
 a47:=Tryz.isAgg294
 z47:=Tryz.sizeOf294
 v47:=Tryz.zeroValue294
 i47:=by kernel_rfl
 t48:=Tryz.underlying295
 a48:=Tryz.isAgg295
 z48:=Tryz.sizeOf295
 v48:=Tryz.zeroValue295
 i48:=by kernel_rfl
 t50:=Tryz.underlying297
 a50:=Tryz.isAgg297
 z50:=Tryz.sizeOf297
 v50:=Tryz.zeroValue297
 i50:=by kernel_rfl
 t52:=Tryz.underlying299
 a52:=Tryz.isAgg299
 z52:=Tryz.sizeOf299
 v52:=Tryz.zeroValue299
 i52:=by kernel_rfl
 t55:=Tryz.underlying301
 a55:=Tryz.isAgg301
 z55:=Tryz.sizeOf301
 v55:=Tryz.zeroValue301
 i55:=by kernel_rfl
 t59:=Tryz.underlying304
 a59:=Tryz.isAgg304
 z59:=Tryz.sizeOf304
 v59:=Tryz.zeroValue304
 i59:=by kernel_rfl
 t60:=Tryz.underlying51
 a60:=Tryz.isAgg51
 z60:=Tryz.sizeOf51
 v60:=Tryz.zeroValue51
 i60:=by kernel_rfl
 t61:=Tryz.underlying305
 a61:=Tryz.isAgg305
 z61:=Tryz.sizeOf305
 t65:=Tryz.underlying306
 a65:=Tryz.isAgg306
 z65:=Tryz.sizeOf306
 v65:=Tryz.zeroValue306
 i65:=by kernel_rfl
 t66:=Tryz.underlying307
 a66:=Tryz.isAgg307
 z66:=Tryz.sizeOf307
 v66:=Tryz.zeroValue307
 i66:=by kernel_rfl
 t67:=Tryz.underlying308
 a67:=Tryz.isAgg308
 z67:=Tryz.sizeOf308
 v67:=Tryz.zeroValue308
 i67:=by kernel_rfl
 g0:=by kernel_rfl
 m0:=by kernel_rfl
 g1:=by kernel_rfl
 m1:=by kernel_rfl
 g2:=by kernel_rfl
 m2:=by kernel_rfl
 g3:=by kernel_rfl
 m3:=by kernel_rfl
 g4:=by kernel_rfl
 m4:=by kernel_rfl }
open Go.RowKit in
theorem Tryz.strconv_ParseUint_10_at32_ok(s:ByteArray)(hmax:s.size≤9223372036854775806)(u:Nat)(h:Lib.parseUintB 32 s.data.toList=.ok u)(w:World) :
  Calls Tryz.prog 181 #[.string s,.int .i64 10,.int .i64 32] w fun e w'=>e=.returned (.tuple #[.int .u64 u,.nilIface])∧(w'=w∨w'=Lib.bytesWorld w 5 s):=Any.strconv_ParseUint_10_at32_ok Tryz.laysPu14 s hmax u h w
open Go.RowKit in
theorem Tryz.strconv_ParseUint_10_at32_range(s:ByteArray)(hlim:s.size≤281474976710656)(h:Lib.parseUintB 32 s.data.toList=.range)(ev:Value)(w:World)(hv:w.cell? ⟨2,0,none⟩=some ev)(hev:ev=.nilIface∨∃ te pe,ev=.iface te pe) :
  Calls Tryz.prog 181 #[.string s,.int .i64 10,.int .i64 32] w fun e w'=>∃ N,e=.returned (.tuple #[.int .u64 4294967295,.iface 286 (.pointer (some ⟨N,0,none⟩))])∧w.heap.size≤N∧w'.heap[N]?=some (.cells #[.string ⟨#[80,97,114,115,101,85,105,110,116]⟩,.string s,ev] 291 (0,0))∧Below w.heap.size w w':=Any.strconv_ParseUint_10_at32_range Tryz.laysPu14 s hlim h ev w hv hev
def Tryz.lays217_ren:Go.Shelf.Ren:=⟨fun | 217=>155 | 266=>174 | n=>n,fun | 9=>9 | 5=>5 | 3=>3 | n=>n,fun | n=>n⟩
theorem Tryz.lays217:Go.Proofs.Lays.n217 Tryz.prog Tryz.lays217_ren:={
 mixed:=by kernel_rfl
 f217:=Tryz.func155.trans (congrArg some (by kernel_rfl))
 f266:=Tryz.func174.trans (congrArg some (by kernel_rfl))
 t3:=Tryz.underlying3
 a3:=Tryz.isAgg3
 z3:=Tryz.sizeOf3
 v3:=Tryz.zeroValue3
 t5:=Tryz.underlying5
 a5:=Tryz.isAgg5
 z5:=Tryz.sizeOf5
 v5:=Tryz.zeroValue5
 t9:=Tryz.underlying9
 a9:=Tryz.isAgg9
 z9:=Tryz.sizeOf9
 v9:=Tryz.zeroValue9 }
open Go.RowKit Go.Lib in
theorem Tryz.stringslite_IndexByte(s:ByteArray)(c:Int)(w:World) :
  Calls Tryz.prog 155 #[.string s,.int .u8 c] w fun e w'=>e=.returned (.int .i64 (Lib.indexByte s.data.toList c.toNat.toUInt8))∧w'=w:=Any.stringslite_IndexByte Tryz.lays217 s c w
def Tryz.lays152_ren:Go.Shelf.Ren:=⟨fun | 152=>156 | 137=>117 | 119=>175 | 224=>176 | 225=>177 | 217=>155 | 266=>174 | n=>n,fun | 9=>9 | 21=>21 | 3=>3 | 4=>4 | 5=>5 | 0=>0 | 46=>183 | n=>n,fun | n=>n⟩
theorem Tryz.lays152:Go.Proofs.Lays.n152 Tryz.prog Tryz.lays152_ren:={
 mixed:=by kernel_rfl
 f119:=Tryz.func175.trans (congrArg some (by kernel_rfl))
 f137:=Tryz.func117.trans (congrArg some (by kernel_rfl))
 f152:=Tryz.func156.trans (congrArg some (by kernel_rfl))
 f217:=Tryz.func155.trans (congrArg some (by kernel_rfl))
 f224:=Tryz.func176.trans (congrArg some (by kernel_rfl))
 f225:=Tryz.func177.trans (congrArg some (by kernel_rfl))
 f266:=Tryz.func174.trans (congrArg some (by kernel_rfl))
 t0:=Tryz.underlying0
 a0:=Tryz.isAgg0
 z0:=Tryz.sizeOf0
 v0:=Tryz.zeroValue0
 t3:=Tryz.underlying3
 a3:=Tryz.isAgg3
 z3:=Tryz.sizeOf3
 v3:=Tryz.zeroValue3
 t4:=Tryz.underlying4
 a4:=Tryz.isAgg4
 z4:=Tryz.sizeOf4
 v4:=Tryz.zeroValue4
 t5:=Tryz.underlying5
 a5:=Tryz.isAgg5
 z5:=Tryz.sizeOf5
 v5:=Tryz.zeroValue5
 t9:=Tryz.underlying9
 a9:=Tryz.isAgg9
 z9:=Tryz.sizeOf9
 v9:=Tryz.zeroValue9
 t21:=Tryz.underlying21
 a21:=Tryz.isAgg21
 z21:=Tryz.sizeOf21
 v21:=Tryz.zeroValue21
 t46:=Tryz.underlying183
 a46:=Tryz.isAgg183
 z46:=Tryz.sizeOf183
 v46:=Tryz.zeroValue183 }
open Go.RowKit Go.Lib in
theorem Tryz.strings_IndexRune_ascii(s:ByteArray)(r:Int)(w:World)(h0:0≤r)(h1:r < 128) :
  Calls Tryz.prog 156 #[.string s,.int .i32 r] w fun e w'=>e=.returned (.int .i64 (Lib.indexByte s.data.toList r.toNat.toUInt8))∧w'=w:=Any.strings_IndexRune_ascii Tryz.lays152 s r w h0 h1
def Tryz.lays153_ren:Go.Shelf.Ren:=⟨fun | 153=>118 | 152=>156 | 226=>157 | 227=>158 | 228=>159 | 137=>117 | 119=>175 | 224=>176 | 225=>177 | 217=>155 | 266=>174 | n=>n,fun | 9=>9 | 3=>3 | 4=>4 | 5=>5 | 21=>21 | 117=>248 | 116=>247 | 0=>0 | 46=>183 | 124=>266 | n=>n,fun | n=>n⟩
theorem Tryz.lays153:Go.Proofs.Lays.n153 Tryz.prog Tryz.lays153_ren:={
 mixed:=by kernel_rfl
 f119:=Tryz.func175.trans (congrArg some (by kernel_rfl))
 f137:=Tryz.func117.trans (congrArg some (by kernel_rfl))
 f152:=Tryz.func156.trans (congrArg some (by kernel_rfl))
 f153:=Tryz.func118.trans (congrArg some (by kernel_rfl))
 f217:=Tryz.func155.trans (congrArg some (by kernel_rfl))
 f224:=Tryz.func176.trans (congrArg some (by kernel_rfl))
 f225:=Tryz.func177.trans (congrArg some (by kernel_rfl))
 f226:=Tryz.func157.trans (congrArg some (by kernel_rfl))
 f227:=Tryz.func158.trans (congrArg some (by kernel_rfl))
 f228:=Tryz.func159.trans (congrArg some (by kernel_rfl))
 f266:=Tryz.func174.trans (congrArg some (by kernel_rfl))
 t0:=Tryz.underlying0
 a0:=Tryz.isAgg0
 z0:=Tryz.sizeOf0
 v0:=Tryz.zeroValue0
 t3:=Tryz.underlying3
 a3:=Tryz.isAgg3
 z3:=Tryz.sizeOf3
 v3:=Tryz.zeroValue3
 t4:=Tryz.underlying4
 a4:=Tryz.isAgg4
 z4:=Tryz.sizeOf4
 v4:=Tryz.zeroValue4
 t5:=Tryz.underlying5
 a5:=Tryz.isAgg5
 z5:=Tryz.sizeOf5
 v5:=Tryz.zeroValue5
 t9:=Tryz.underlying9
 a9:=Tryz.isAgg9
 z9:=Tryz.sizeOf9
 v9:=Tryz.zeroValue9
 t21:=Tryz.underlying21
 a21:=Tryz.isAgg21
 z21:=Tryz.sizeOf21
 v21:=Tryz.zeroValue21
 t46:=Tryz.underlying183
 a46:=Tryz.isAgg183
 z46:=Tryz.sizeOf183
 v46:=Tryz.zeroValue183
 t116:=Tryz.underlying247
 a116:=Tryz.isAgg247
 z116:=Tryz.sizeOf247
 t117:=Tryz.underlying248
 a117:=Tryz.isAgg248
 z117:=Tryz.sizeOf248
 v117:=Tryz.zeroValue248
 t124:=Tryz.underlying266
 a124:=Tryz.isAgg266
 z124:=Tryz.sizeOf266
 v124:=Tryz.zeroValue266 }
open Go.RowKit Go.Lib in
theorem Tryz.strings_IndexAny_long(hv116:∀ w,(zeroValue 247).run Tryz.prog w=.ok (.agg (Array.replicate 256 (.bool false))) w)(s chars:ByteArray)(w:World)(h2:2≤chars.size)(h8:8 < s.size)(hs:s.size < 4294967281)(hcs:chars.size < 4294967281)(hascii:∀ (j:Nat) b,chars.data.toList[j]?=some b→b.toNat < 128) :
  Calls Tryz.prog 118 #[.string s,.string chars] w fun e w'=>e=.returned (.int .i64 (Lib.indexAny s.data.toList chars.data.toList))∧w'=((w.alloc (.cells (Lib.setCells chars.data.toList) 247)).alloc (.cells (Lib.setCells chars.data.toList) 247)):=Any.strings_IndexAny_long Tryz.lays153 hv116 (by kernel_rfl) s chars w h2 h8 hs hcs hascii
def Tryz.lays109_ren:Go.Shelf.Ren:=⟨fun | 109=>163 | n=>n,fun | 31=>110 | 9=>9 | 3=>3 | 0=>0 | 4=>4 | n=>n,fun | n=>n⟩
theorem Tryz.lays109:Go.Proofs.Lays.n109 Tryz.prog Tryz.lays109_ren:={
 mixed:=by kernel_rfl
 f109:=Tryz.func163.trans (congrArg some (by kernel_rfl))
 t0:=Tryz.underlying0
 a0:=Tryz.isAgg0
 z0:=Tryz.sizeOf0
 v0:=Tryz.zeroValue0
 t3:=Tryz.underlying3
 a3:=Tryz.isAgg3
 z3:=Tryz.sizeOf3
 v3:=Tryz.zeroValue3
 t4:=Tryz.underlying4
 a4:=Tryz.isAgg4
 z4:=Tryz.sizeOf4
 v4:=Tryz.zeroValue4
 t9:=Tryz.underlying9
 a9:=Tryz.isAgg9
 z9:=Tryz.sizeOf9
 v9:=Tryz.zeroValue9
 t31:=Tryz.underlying110
 a31:=Tryz.isAgg110
 z31:=Tryz.sizeOf110
 v31:=Tryz.zeroValue110 }
open Go.Lib in
theorem Tryz.slices_Index_string(b off n c:Nat)(zs:List ByteArray)(x:ByteArray)(w:World)(hz:n≤zs.length)(hbig:n≤9223372036854775807)(hc:∀ j,j < zs.length→w.cell? ⟨b,off+j,none⟩=some (.string (zs.getD j ByteArray.empty))) :
  Calls Tryz.prog 163 #[.slice (some ⟨b,off,none⟩) n c,.string x] w fun e w'=>e=.returned (.int .i64 (Lib.idxOfS (zs.take n) x))∧w'=w:=Any.slices_Index_string Tryz.lays109 b off n c zs x w hz hbig hc
open Go.Lib in
theorem Tryz.slices_Index_string_empty(a:Option Addr)(c:Nat)(x:ByteArray)(w:World) :
  Calls Tryz.prog 163 #[.slice a 0 c,.string x] w fun e w'=>e=.returned (.int .i64 (Lib.idxOfS [] x))∧w'=w:=Any.slices_Index_string_empty Tryz.lays109 a c x w
def Tryz.lays110_ren:Go.Shelf.Ren:=⟨fun | 110=>178 | 109=>163 | n=>n,fun | 31=>110 | 9=>9 | 4=>4 | 3=>3 | 0=>0 | n=>n,fun | n=>n⟩
theorem Tryz.lays110:Go.Proofs.Lays.n110 Tryz.prog Tryz.lays110_ren:={
 mixed:=by kernel_rfl
 f109:=Tryz.func163.trans (congrArg some (by kernel_rfl))
 f110:=Tryz.func178.trans (congrArg some (by kernel_rfl))
 t0:=Tryz.underlying0
 a0:=Tryz.isAgg0
 z0:=Tryz.sizeOf0
 v0:=Tryz.zeroValue0
 t3:=Tryz.underlying3
 a3:=Tryz.isAgg3
 z3:=Tryz.sizeOf3
 v3:=Tryz.zeroValue3
 t4:=Tryz.underlying4
 a4:=Tryz.isAgg4
 z4:=Tryz.sizeOf4
 v4:=Tryz.zeroValue4
 t9:=Tryz.underlying9
 a9:=Tryz.isAgg9
 z9:=Tryz.sizeOf9
 v9:=Tryz.zeroValue9
 t31:=Tryz.underlying110
 a31:=Tryz.isAgg110
 z31:=Tryz.sizeOf110
 v31:=Tryz.zeroValue110 }
open Go.Lib in
theorem Tryz.slices_Contains_string(b off n c:Nat)(zs:List ByteArray)(x:ByteArray)(w:World)(hz:n≤zs.length)(hbig:n≤9223372036854775807)(hc:∀ j,j < zs.length→w.cell? ⟨b,off+j,none⟩=some (.string (zs.getD j ByteArray.empty))) :
  Calls Tryz.prog 178 #[.slice (some ⟨b,off,none⟩) n c,.string x] w fun e w'=>e=.returned (.bool (Lib.containsS (zs.take n) x))∧w'=w:=Any.slices_Contains_string Tryz.lays110 b off n c zs x w hz hbig hc
open Go.Lib in
theorem Tryz.slices_Contains_string_empty(a:Option Addr)(c:Nat)(x:ByteArray)(w:World) :
  Calls Tryz.prog 178 #[.slice a 0 c,.string x] w fun e w'=>e=.returned (.bool false)∧w'=w:=Any.slices_Contains_string_empty Tryz.lays110 a c x w
def Tryz.lays212_ren:Go.Shelf.Ren:=⟨fun | 212=>97 | 263=>132 | 264=>133 | n=>n,fun | 46=>183 | 51=>51 | 146=>217 | 53=>117 | 148=>219 | n=>n,fun | n=>n⟩
theorem Tryz.lays212:Go.Proofs.Lays.n212 Tryz.prog Tryz.lays212_ren:={
 mixed:=by kernel_rfl
 f212:=Tryz.func97.trans (congrArg some (by kernel_rfl))
 f263:=Tryz.func132.trans (congrArg some (by kernel_rfl))
 f264:=Tryz.func133.trans (congrArg some (by kernel_rfl))
 t46:=Tryz.underlying183
 a46:=Tryz.isAgg183
 z46:=Tryz.sizeOf183
 v46:=Tryz.zeroValue183
 t51:=Tryz.underlying51
 a51:=Tryz.isAgg51
 z51:=Tryz.sizeOf51
 v51:=Tryz.zeroValue51
 t53:=Tryz.underlying117
 a53:=Tryz.isAgg117
 z53:=Tryz.sizeOf117
 v53:=Tryz.zeroValue117
 t146:=Tryz.underlying217
 a146:=Tryz.isAgg217
 z146:=Tryz.sizeOf217
 v146:=Tryz.zeroValue217
 t148:=Tryz.underlying219
 a148:=Tryz.isAgg219
 z148:=Tryz.sizeOf219
 v148:=Tryz.zeroValue219 }
open Go.RowKit Go.Lib in
theorem Tryz.bits_Mul(x y:Nat)(hx:x < 18446744073709551616)(hy:y < 18446744073709551616)(w:World) :
  Calls Tryz.prog 97 #[.int .u64 x,.int .u64 y] w fun e w'=>e=.returned (.tuple #[.int .u64 ((x * y / 18446744073709551616:Nat):Int),.int .u64 ((x * y % 18446744073709551616:Nat):Int)])∧w'=w:=Any.bits_Mul Tryz.lays212 x y hx hy w
end Go.Proofs
