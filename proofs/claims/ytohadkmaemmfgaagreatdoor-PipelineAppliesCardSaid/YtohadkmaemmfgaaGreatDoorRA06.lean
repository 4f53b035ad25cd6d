/- Shelf. -/
import Derived.Shelf.Small.Bits
import Derived.Shelf.Small.Wraps
import Derived.Shelf.Strconv.Atoi
import Derived.Shelf.Strconv.Itoa0
import Derived.Shelf.Strconv.Itoa1
import Derived.Shelf.LaysM
import Derived.Shelf.Strconv.Itoa2
import Derived.Shelf.Strconv.Itoa3
import Derived.Shelf.Strconv.AtoiErrFast
import Derived.Shelf.Strconv.ParseIntEmpty
import Derived.Shelf.Strconv.AtoiFail
import Derived.Shelf.Strconv.Clone
import Derived.Shelf.Strconv.SyntaxError
import Derived.Shelf.LaysC
import Derived.Shelf.Strconv.ToError
import Derived.Shelf.Strconv.Lower
import Derived.Shelf.Strconv.ParseUint10
import Derived.Shelf.Strconv.ParseUint10Empty
import Derived.Shelf.Strconv.ParseUint10Any
import Derived.Shelf.Strconv.ParseInt10
import Derived.Shelf.Strconv.AtoiLong
import Derived.Shelf.Strconv.AtoiInnerAll
import Derived.Shelf.Strconv.RangeError
import Derived.Shelf.Strconv.ToErrorRange
import Derived.Shelf.Strconv.AtoiAll
import Derived.Shelf.Strings.Search1
import Derived.Shelf.Strings.Search2
import Derived.Shelf.Strings.Search3
import Derived.Shelf.Strings.Count
import Derived.Shelf.Strings.Shaped
import Derived.Shelf.Strings.Split
import Derived.Shelf.Unicode.DecodeSlow
import Derived.Shelf.Unicode.DecodeAny
import Derived.Shelf.Slices.Turned
import Derived.Ground.Names2Prog
import Derived.Shelf.Slices.SearchI
import Derived.Ground.SlgfProg
import Derived.Shelf.SlicesE.IndexFunc
import Derived.Shelf.SlicesE.DeleteFunc
import Derived.Ground.SlsfProg
import Derived.Shelf.SlSortCmp.Insertion
import Derived.Shelf.SlSortCmp.SiftDown1
import Derived.Shelf.SlSortCmp.HeapSort1
import Derived.Shelf.SlSortCmp.Insertion1
import Derived.Shelf.SlSortCmp.Median1
import Derived.Shelf.SlSortCmp.Pivot1
import Derived.Shelf.SlSortCmp.ReverseRange1
import Derived.Shelf.SlSortCmp.PartialInsertion1
import Derived.Shelf.SlSortCmp.PartitionEqual1
import Derived.Shelf.SlSortCmp.Partition1
import Derived.Shelf.SlSortCmp.Pdq1
import Derived.Shelf.SlSortCmp.Whole1
import Derived.Test.YtohadkmaemmfgaaGreatDoorProg
set_option maxRecDepth 100000
set_option maxHeartbeats 4000000
namespace Go.Proofs
open Go.Shelf
def Tryz.lays125_ren : Go.Shelf.Ren := ⟨fun | 125 => 209 | 128 => 261 | 129 => 262 | n => n, fun | 46 => 122 | 3 => 3 | 51 => 243 | 53 => 263 | 4 => 4 | 5 => 5 | 9 => 9 | n => n, fun | n => n⟩
theorem Tryz.lays125 : Go.Proofs.Lays.n125 Tryz.prog Tryz.lays125_ren := {
  mixed := by kernel_rfl
  f125 := Tryz.func209.trans (congrArg some (by kernel_rfl))
  f128 := Tryz.func261.trans (congrArg some (by kernel_rfl))
  f129 := Tryz.func262.trans (congrArg some (by kernel_rfl))
  t3 := Tryz.underlying3
  a3 := Tryz.isAgg3
  z3 := Tryz.sizeOf3
  v3 := Tryz.zeroValue3
  t4 := Tryz.underlying4
  a4 := Tryz.isAgg4
  z4 := Tryz.sizeOf4
  v4 := Tryz.zeroValue4
  t5 := Tryz.underlying5
  a5 := Tryz.isAgg5
  z5 := Tryz.sizeOf5
  v5 := Tryz.zeroValue5
  t9 := Tryz.underlying9
  a9 := Tryz.isAgg9
  z9 := Tryz.sizeOf9
  v9 := Tryz.zeroValue9
  t46 := Tryz.underlying122
  a46 := Tryz.isAgg122
  z46 := Tryz.sizeOf122
  v46 := Tryz.zeroValue122
  t51 := Tryz.underlying243
  a51 := Tryz.isAgg243
  z51 := Tryz.sizeOf243
  v51 := Tryz.zeroValue243
  t53 := Tryz.underlying263
  a53 := Tryz.isAgg263
  z53 := Tryz.sizeOf263
  v53 := Tryz.zeroValue263 }
theorem Tryz.bits_Len (x : Int) (w : World) (h0 : 0 ≤ x) (h1 : x ≤ 18446744073709551615) :
    Calls Tryz.prog 209 #[.int .u64 x] w fun e w' => e = .returned (.int .i64 (Lib.bitLen x.toNat)) ∧ w' = w := Any.bits_Len Tryz.lays125 x w h0 h1
def Tryz.laysM171_ren : Go.Shelf.Ren := ⟨fun | 171 => 66 | 243 => 125 | 246 => 200 | 283 => 249 | 284 => 250 | 285 => 251 | 286 => 252 | 129 => 262 | 317 => 285 | 318 => 286 | 319 => 287 | 320 => 288 | 337 => 310 | 338 => 311 | n => n, fun | 3 => 3 | 9 => 9 | 2 => 2 | 4 => 4 | 171 => 270 | 0 => 0 | 53 => 263 | 37 => 23 | 5 => 5 | 173 => 273 | 212 => 308 | 51 => 243 | 20 => 20 | 213 => 309 | 46 => 122 | 232 => 337 | 233 => 338 | n => n, fun | 17 => 3 | 18 => 6 | 19 => 7 | n => n⟩
theorem Tryz.laysM171 : Go.Proofs.LaysM.n171 Tryz.prog Tryz.laysM171_ren := {
  mixed := by kernel_rfl
  f129 := Tryz.func262.trans (congrArg some (by kernel_rfl))
  f171 := Tryz.func66.trans (congrArg some (by kernel_rfl))
  f243 := Tryz.func125.trans (congrArg some (by kernel_rfl))
  f246 := Tryz.func200.trans (congrArg some (by kernel_rfl))
  f283 := Tryz.func249.trans (congrArg some (by kernel_rfl))
  f284 := Tryz.func250.trans (congrArg some (by kernel_rfl))
  f285 := Tryz.func251.trans (congrArg some (by kernel_rfl))
  f286 := Tryz.func252.trans (congrArg some (by kernel_rfl))
  f317 := Tryz.func285.trans (congrArg some (by kernel_rfl))
  f318 := Tryz.func286.trans (congrArg some (by kernel_rfl))
  f319 := Tryz.func287.trans (congrArg some (by kernel_rfl))
  f320 := Tryz.func288.trans (congrArg some (by kernel_rfl))
  f337 := Tryz.func310.trans (congrArg some (by kernel_rfl))
  f338 := Tryz.func311.trans (congrArg some (by kernel_rfl))
  t0 := Tryz.underlying0
  a0 := Tryz.isAgg0
  z0 := Tryz.sizeOf0
  v0 := Tryz.zeroValue0
  t2 := Tryz.underlying2
  a2 := Tryz.isAgg2
  z2 := Tryz.sizeOf2
  v2 := Tryz.zeroValue2
  t3 := Tryz.underlying3
  a3 := Tryz.isAgg3
  z3 := Tryz.sizeOf3
  v3 := Tryz.zeroValue3
  t4 := Tryz.underlying4
  a4 := Tryz.isAgg4
  z4 := Tryz.sizeOf4
  v4 := Tryz.zeroValue4
  t5 := Tryz.underlying5
  a5 := Tryz.isAgg5
  z5 := Tryz.sizeOf5
  v5 := Tryz.zeroValue5
  t9 := Tryz.underlying9
  a9 := Tryz.isAgg9
  z9 := Tryz.sizeOf9
  v9 := Tryz.zeroValue9
  t20 := Tryz.underlying20
  a20 := Tryz.isAgg20
  z20 := Tryz.sizeOf20
  v20 := Tryz.zeroValue20
  t37 := Tryz.underlying23
  a37 := Tryz.isAgg23
  z37 := Tryz.sizeOf23
  v37 := Tryz.zeroValue23
  t46 := Tryz.underlying122
  a46 := Tryz.isAgg122
  z46 := Tryz.sizeOf122
  v46 := Tryz.zeroValue122
  t51 := Tryz.underlying243
  a51 := Tryz.isAgg243
  z51 := Tryz.sizeOf243
  v51 := Tryz.zeroValue243
  t53 := Tryz.underlying263
  a53 := Tryz.isAgg263
  z53 := Tryz.sizeOf263
  v53 := Tryz.zeroValue263
  t171 := Tryz.underlying270
  a171 := Tryz.isAgg270
  z171 := Tryz.sizeOf270
  v171 := Tryz.zeroValue270
  t173 := Tryz.underlying273
  a173 := Tryz.isAgg273
  z173 := Tryz.sizeOf273
  v173 := Tryz.zeroValue273
  t212 := Tryz.underlying308
  a212 := Tryz.isAgg308
  z212 := Tryz.sizeOf308
  v212 := Tryz.zeroValue308
  t213 := Tryz.underlying309
  a213 := Tryz.isAgg309
  z213 := Tryz.sizeOf309
  t232 := Tryz.underlying337
  a232 := Tryz.isAgg337
  z232 := Tryz.sizeOf337
  v232 := Tryz.zeroValue337
  t233 := Tryz.underlying338
  a233 := Tryz.isAgg338
  z233 := Tryz.sizeOf338
  v233 := Tryz.zeroValue338
  g17 := by kernel_rfl
  g18 := by kernel_rfl
  g19 := by kernel_rfl
  i0 := by kernel_rfl
  i2 := by kernel_rfl
  i3 := by kernel_rfl
  i4 := by kernel_rfl
  i5 := by kernel_rfl
  i9 := by kernel_rfl
  i20 := by kernel_rfl
  i37 := by kernel_rfl
  i46 := by kernel_rfl
  i51 := by kernel_rfl
  i53 := by kernel_rfl
  i171 := by kernel_rfl
  i173 := by kernel_rfl
  i212 := by kernel_rfl
  i232 := by kernel_rfl
  i233 := by kernel_rfl
  m17 := by kernel_rfl
  m18 := by kernel_rfl
  m19 := by kernel_rfl }
open Go.RowKit Go.Sort Go.Lib in
theorem Tryz.strconv_Itoa (n : Int) (h0 : -9223372036854775808 ≤ n) (h1 : n ≤ 9223372036854775807) (w : World) (htab : Lib.TabIs Tryz.prog w "internal/strconv.uint64pow10" .u64 Lib.pow10Tab) :
    Calls Tryz.prog 66 #[.int .i64 n] w fun e w' => e = .returned (.string ⟨(Lib.itoa n).toArray⟩) ∧ ∃ k os, w' = grow (w.drewN k) os := Any.strconv_Itoa Tryz.laysM171 n h0 h1 w htab
def Tryz.laysC172_ren : Go.Shelf.Ren := ⟨fun | 172 => 65 | 244 => 123 | 245 => 124 | 247 => 195 | 279 => 196 | 280 => 197 | 281 => 198 | 282 => 199 | 287 => 246 | 316 => 247 | 171 => 66 | 205 => 248 | 321 => 283 | 322 => 284 | 243 => 125 | 246 => 200 | 283 => 249 | 284 => 250 | 285 => 251 | 286 => 252 | 129 => 262 | 317 => 285 | 318 => 286 | 319 => 287 | 320 => 288 | 337 => 310 | 338 => 311 | n => n, fun | 9 => 9 | 3 => 3 | 75 => 80 | 76 => 81 | 4 => 4 | 5 => 5 | 167 => 221 | 37 => 23 | 0 => 0 | 85 => 222 | 2 => 2 | 168 => 224 | 53 => 263 | 175 => 264 | 46 => 122 | 210 => 268 | 127 => 303 | 145 => 306 | 143 => 304 | 21 => 21 | 171 => 270 | 173 => 273 | 212 => 308 | 51 => 243 | 20 => 20 | 213 => 309 | 232 => 337 | 233 => 338 | 80 => 340 | n => n, fun | 15 => 0 | 16 => 1 | 17 => 3 | 18 => 6 | 19 => 7 | n => n⟩
theorem Tryz.laysC172 : Go.Proofs.LaysC.n172 Tryz.prog Tryz.laysC172_ren := {
  mixed := by kernel_rfl
  f129 := Tryz.func262.trans (congrArg some (by kernel_rfl))
  f171 := Tryz.func66.trans (congrArg some (by kernel_rfl))
  f172 := Tryz.func65.trans (congrArg some (by kernel_rfl))
  f205 := Tryz.func248.trans (congrArg some (by kernel_rfl))
  f243 := Tryz.func125.trans (congrArg some (by kernel_rfl))
  f244 := Tryz.func123.trans (congrArg some (by kernel_rfl))
  f245 := Tryz.func124.trans (congrArg some (by kernel_rfl))
  f246 := Tryz.func200.trans (congrArg some (by kernel_rfl))
  f247 := Tryz.func195.trans (congrArg some (by kernel_rfl))
  f279 := Tryz.func196.trans (congrArg some (by kernel_rfl))
  f280 := Tryz.func197.trans (congrArg some (by kernel_rfl))
  f281 := Tryz.func198.trans (congrArg some (by kernel_rfl))
  f282 := Tryz.func199.trans (congrArg some (by kernel_rfl))
  f283 := Tryz.func249.trans (congrArg some (by kernel_rfl))
  f284 := Tryz.func250.trans (congrArg some (by kernel_rfl))
  f285 := Tryz.func251.trans (congrArg some (by kernel_rfl))
  f286 := Tryz.func252.trans (congrArg some (by kernel_rfl))
  f287 := Tryz.func246.trans (congrArg some (by kernel_rfl))
  f316 := Tryz.func247.trans (congrArg some (by kernel_rfl))
  f317 := Tryz.func285.trans (congrArg some (by kernel_rfl))
  f318 := Tryz.func286.trans (congrArg some (by kernel_rfl))
  f319 := Tryz.func287.trans (congrArg some (by kernel_rfl))
  f320 := Tryz.func288.trans (congrArg some (by kernel_rfl))
  f321 := Tryz.func283.trans (congrArg some (by kernel_rfl))
  f322 := Tryz.func284.trans (congrArg some (by kernel_rfl))
  f337 := Tryz.func310.trans (congrArg some (by kernel_rfl))
  f338 := Tryz.func311.trans (congrArg some (by kernel_rfl))
  t0 := Tryz.underlying0
  a0 := Tryz.isAgg0
  z0 := Tryz.sizeOf0
  v0 := Tryz.zeroValue0
  t2 := Tryz.underlying2
  a2 := Tryz.isAgg2
  z2 := Tryz.sizeOf2
  v2 := Tryz.zeroValue2
  t3 := Tryz.underlying3
  a3 := Tryz.isAgg3
  z3 := Tryz.sizeOf3
  v3 := Tryz.zeroValue3
  t4 := Tryz.underlying4
  a4 := Tryz.isAgg4
  z4 := Tryz.sizeOf4
  v4 := Tryz.zeroValue4
  t5 := Tryz.underlying5
  a5 := Tryz.isAgg5
  z5 := Tryz.sizeOf5
  v5 := Tryz.zeroValue5
  t9 := Tryz.underlying9
  a9 := Tryz.isAgg9
  z9 := Tryz.sizeOf9
  v9 := Tryz.zeroValue9
  t20 := Tryz.underlying20
  a20 := Tryz.isAgg20
  z20 := Tryz.sizeOf20
  v20 := Tryz.zeroValue20
  t21 := Tryz.underlying21
  a21 := Tryz.isAgg21
  z21 := Tryz.sizeOf21
  v21 := Tryz.zeroValue21
  t37 := Tryz.underlying23
  a37 := Tryz.isAgg23
  z37 := Tryz.sizeOf23
  v37 := Tryz.zeroValue23
  t46 := Tryz.underlying122
  a46 := Tryz.isAgg122
  z46 := Tryz.sizeOf122
  v46 := Tryz.zeroValue122
  t51 := Tryz.underlying243
  a51 := Tryz.isAgg243
  z51 := Tryz.sizeOf243
  v51 := Tryz.zeroValue243
  t53 := Tryz.underlying263
  a53 := Tryz.isAgg263
  z53 := Tryz.sizeOf263
  v53 := Tryz.zeroValue263
  t75 := Tryz.underlying80
  a75 := Tryz.isAgg80
  z75 := Tryz.sizeOf80
  v75 := Tryz.zeroValue80
  t76 := Tryz.underlying81
  a76 := Tryz.isAgg81
  z76 := Tryz.sizeOf81
  v76 := Tryz.zeroValue81
  t85 := Tryz.underlying222
  a85 := Tryz.isAgg222
  z85 := Tryz.sizeOf222
  v85 := Tryz.zeroValue222
  t127 := Tryz.underlying303
  a127 := Tryz.isAgg303
  z127 := Tryz.sizeOf303
  v127 := Tryz.zeroValue303
  t143 := Tryz.underlying304
  a143 := Tryz.isAgg304
  z143 := Tryz.sizeOf304
  v143 := Tryz.zeroValue304
  t145 := Tryz.underlying306
  a145 := Tryz.isAgg306
  z145 := Tryz.sizeOf306
  v145 := Tryz.zeroValue306
  t167 := Tryz.underlying221
  a167 := Tryz.isAgg221
  z167 := Tryz.sizeOf221
  v167 := Tryz.zeroValue221
  t168 := Tryz.underlying224
  a168 := Tryz.isAgg224
  z168 := Tryz.sizeOf224
  v168 := Tryz.zeroValue224
  t171 := Tryz.underlying270
  a171 := Tryz.isAgg270
  z171 := Tryz.sizeOf270
  v171 := Tryz.zeroValue270
  t173 := Tryz.underlying273
  a173 := Tryz.isAgg273
  z173 := Tryz.sizeOf273
  v173 := Tryz.zeroValue273
  t175 := Tryz.underlying264
  a175 := Tryz.isAgg264
  z175 := Tryz.sizeOf264
  v175 := Tryz.zeroValue264
  t210 := Tryz.underlying268
  a210 := Tryz.isAgg268
  z210 := Tryz.sizeOf268
  v210 := Tryz.zeroValue268
  t212 := Tryz.underlying308
  a212 := Tryz.isAgg308
  z212 := Tryz.sizeOf308
  v212 := Tryz.zeroValue308
  t213 := Tryz.underlying309
  a213 := Tryz.isAgg309
  z213 := Tryz.sizeOf309
  t232 := Tryz.underlying337
  a232 := Tryz.isAgg337
  z232 := Tryz.sizeOf337
  v232 := Tryz.zeroValue337
  t233 := Tryz.underlying338
  a233 := Tryz.isAgg338
  z233 := Tryz.sizeOf338
  v233 := Tryz.zeroValue338
  g15 := by kernel_rfl
  g16 := by kernel_rfl
  g17 := by kernel_rfl
  g18 := by kernel_rfl
  g19 := by kernel_rfl
  t80 := Tryz.underlying340
  a80 := Tryz.isAgg340
  z80 := Tryz.sizeOf340
  v80 := Tryz.zeroValue340
  i0 := by kernel_rfl
  i2 := by kernel_rfl
  i3 := by kernel_rfl
  i4 := by kernel_rfl
  i5 := by kernel_rfl
  i9 := by kernel_rfl
  i20 := by kernel_rfl
  i21 := by kernel_rfl
  i37 := by kernel_rfl
  i46 := by kernel_rfl
  i51 := by kernel_rfl
  i53 := by kernel_rfl
  i75 := by kernel_rfl
  i76 := by kernel_rfl
  i80 := by kernel_rfl
  i85 := by kernel_rfl
  i127 := by kernel_rfl
  i143 := by kernel_rfl
  i145 := by kernel_rfl
  i167 := by kernel_rfl
  i168 := by kernel_rfl
  i171 := by kernel_rfl
  i173 := by kernel_rfl
  i175 := by kernel_rfl
  i210 := by kernel_rfl
  i212 := by kernel_rfl
  i232 := by kernel_rfl
  i233 := by kernel_rfl
  m15 := by kernel_rfl
  m16 := by kernel_rfl
  m17 := by kernel_rfl
  m18 := by kernel_rfl
  m19 := by kernel_rfl
  c0 := by kernel_rfl
  c2 := by kernel_rfl
  c3 := by kernel_rfl
  c4 := by kernel_rfl
  c5 := by kernel_rfl
  c9 := by kernel_rfl
  c20 := by kernel_rfl
  c21 := by kernel_rfl
  c37 := by kernel_rfl
  c46 := by kernel_rfl
  c51 := by kernel_rfl
  c53 := by kernel_rfl
  c75 := by kernel_rfl
  c76 := by kernel_rfl
  c80 := by kernel_rfl
  c85 := by kernel_rfl
  c127 := by kernel_rfl
  c143 := by kernel_rfl
  c145 := by kernel_rfl
  c167 := by kernel_rfl
  c168 := by kernel_rfl
  c171 := by kernel_rfl
  c173 := by kernel_rfl
  c175 := by kernel_rfl
  c210 := by kernel_rfl
  c212 := by kernel_rfl
  c213 := by kernel_rfl
  c232 := by kernel_rfl
  c233 := by kernel_rfl }
open Go.RowKit in
theorem Tryz.strconv_Atoi_ok (s : ByteArray) (hmax : s.size ≤ 9223372036854775806) (v : Int) (h : Lib.atoiAll s.data.toList = .ok v) (w : World) :
    Calls Tryz.prog 65 #[.string s] w fun e w' => e = .returned (.tuple #[.int .i64 v, .nilIface]) ∧ (w' = w ∨ ∃ t, w' = Lib.bytesWorld w 5 t) := Any.strconv_Atoi_ok Tryz.laysC172 s hmax v h w
def Tryz.lays146_ren : Go.Shelf.Ren := ⟨fun | 146 => 64 | 221 => 122 | 268 => 192 | 138 => 193 | 143 => 194 | 195 => 242 | 197 => 243 | 218 => 244 | 219 => 245 | 260 => 278 | 217 => 279 | 225 => 280 | 224 => 281 | 267 => 282 | 266 => 308 | 314 => 309 | n => n, fun | 9 => 9 | 31 => 77 | 3 => 3 | 4 => 4 | 0 => 0 | 105 => 260 | 21 => 21 | 5 => 5 | 46 => 122 | 119 => 199 | 139 => 329 | 138 => 328 | 146 => 330 | 51 => 243 | n => n, fun | 1 => 2 | 3 => 4 | 4 => 5 | n => n⟩
theorem Tryz.lays146 : Go.Proofs.Lays.n146 Tryz.prog Tryz.lays146_ren := {
  mixed := by kernel_rfl
  f138 := Tryz.func193.trans (congrArg some (by kernel_rfl))
  f143 := Tryz.func194.trans (congrArg some (by kernel_rfl))
  f146 := Tryz.func64.trans (congrArg some (by kernel_rfl))
  f195 := Tryz.func242.trans (congrArg some (by kernel_rfl))
  f197 := Tryz.func243.trans (congrArg some (by kernel_rfl))
  f217 := Tryz.func279.trans (congrArg some (by kernel_rfl))
  f218 := Tryz.func244.trans (congrArg some (by kernel_rfl))
  f219 := Tryz.func245.trans (congrArg some (by kernel_rfl))
  f221 := Tryz.func122.trans (congrArg some (by kernel_rfl))
  f224 := Tryz.func281.trans (congrArg some (by kernel_rfl))
  f225 := Tryz.func280.trans (congrArg some (by kernel_rfl))
  f260 := Tryz.func278.trans (congrArg some (by kernel_rfl))
  f266 := Tryz.func308.trans (congrArg some (by kernel_rfl))
  f267 := Tryz.func282.trans (congrArg some (by kernel_rfl))
  f268 := Tryz.func192.trans (congrArg some (by kernel_rfl))
  f314 := Tryz.func309.trans (congrArg some (by kernel_rfl))
  t0 := Tryz.underlying0
  a0 := Tryz.isAgg0
  z0 := Tryz.sizeOf0
  v0 := Tryz.zeroValue0
  t3 := Tryz.underlying3
  a3 := Tryz.isAgg3
  z3 := Tryz.sizeOf3
  v3 := Tryz.zeroValue3
  t4 := Tryz.underlying4
  a4 := Tryz.isAgg4
  z4 := Tryz.sizeOf4
  v4 := Tryz.zeroValue4
  t5 := Tryz.underlying5
  a5 := Tryz.isAgg5
  z5 := Tryz.sizeOf5
  v5 := Tryz.zeroValue5
  t9 := Tryz.underlying9
  a9 := Tryz.isAgg9
  z9 := Tryz.sizeOf9
  v9 := Tryz.zeroValue9
  t21 := Tryz.underlying21
  a21 := Tryz.isAgg21
  z21 := Tryz.sizeOf21
  v21 := Tryz.zeroValue21
  t31 := Tryz.underlying77
  a31 := Tryz.isAgg77
  z31 := Tryz.sizeOf77
  v31 := Tryz.zeroValue77
  t46 := Tryz.underlying122
  a46 := Tryz.isAgg122
  z46 := Tryz.sizeOf122
  v46 := Tryz.zeroValue122
  t51 := Tryz.underlying243
  a51 := Tryz.isAgg243
  z51 := Tryz.sizeOf243
  v51 := Tryz.zeroValue243
  t105 := Tryz.underlying260
  a105 := Tryz.isAgg260
  z105 := Tryz.sizeOf260
  v105 := Tryz.zeroValue260
  t119 := Tryz.underlying199
  a119 := Tryz.isAgg199
  z119 := Tryz.sizeOf199
  t138 := Tryz.underlying328
  a138 := Tryz.isAgg328
  z138 := Tryz.sizeOf328
  v138 := Tryz.zeroValue328
  t139 := Tryz.underlying329
  a139 := Tryz.isAgg329
  z139 := Tryz.sizeOf329
  v139 := Tryz.zeroValue329
  t146 := Tryz.underlying330
  a146 := Tryz.isAgg330
  z146 := Tryz.sizeOf330
  v146 := Tryz.zeroValue330
  g1 := by kernel_rfl
  g3 := by kernel_rfl
  g4 := by kernel_rfl }
open Go.RowKit Go.Lib in
theorem Tryz.strings_Split (s sep : ByteArray) (m : Int) (w : World) (hs : s.size < 4294967281) (hm : w.cell? ⟨2, 0, none⟩ = some (.int .i64 m)) (h1 : 1 ≤ sep.size) :
    Calls Tryz.prog 64 #[.string s, .string sep] w fun e w' =>
      e = .returned (.slice (some ⟨w.heap.size, 0, none⟩) (Lib.countB s sep + 1) (Lib.countB s sep + 1)) ∧ w' = w.alloc (.cells ((Lib.splitB sep 0 (Lib.countB s sep) s).map Value.string).toArray 9) := Any.strings_Split Tryz.lays146 (by kernel_rfl) s sep m w hs hm h1
def Tryz.lays108_ren : Go.Shelf.Ren := ⟨fun | 108 => 162 | n => n, fun | 28 => 52 | 3 => 3 | 0 => 0 | 4 => 4 | n => n, fun | n => n⟩
theorem Tryz.lays108 : Go.Proofs.Lays.n108 Tryz.prog Tryz.lays108_ren := {
  mixed := by kernel_rfl
  f108 := Tryz.func162.trans (congrArg some (by kernel_rfl))
  t0 := Tryz.underlying0
  a0 := Tryz.isAgg0
  z0 := Tryz.sizeOf0
  v0 := Tryz.zeroValue0
  t3 := Tryz.underlying3
  a3 := Tryz.isAgg3
  z3 := Tryz.sizeOf3
  v3 := Tryz.zeroValue3
  t4 := Tryz.underlying4
  a4 := Tryz.isAgg4
  z4 := Tryz.sizeOf4
  v4 := Tryz.zeroValue4
  t28 := Tryz.underlying52
  a28 := Tryz.isAgg52
  z28 := Tryz.sizeOf52
  v28 := Tryz.zeroValue52 }
open Go.Lib in
theorem Tryz.slices_Index_int (b off n c : Nat) (zs : List Int) (x : Int) (w : World) (hz : n ≤ zs.length) (hbig : n ≤ 9223372036854775807) (hc : ∀ j, j < zs.length → w.cell? ⟨b, off + j, none⟩ = some (.int .i64 (zs.getD j 0))) :
    Calls Tryz.prog 162 #[.slice (some ⟨b, off, none⟩) n c, .int .i64 x] w fun e w' => e = .returned (.int .i64 (Lib.idxOf (zs.take n) x)) ∧ w' = w := Any.slices_Index_int Tryz.lays108 b off n c zs x w hz hbig hc
def Tryz.laysSlH10_f136_ren : Go.Shelf.Ren := ⟨fun | 10 => 136 | 6 => 207 | n => n, fun | 22 => 77 | 23 => 9 | 25 => 162 | 3 => 3 | 4 => 4 | 0 => 0 | n => n, fun | n => n⟩
theorem Tryz.laysSlH10_f136 : Go.Proofs.SlLaysH.n10 Tryz.prog Tryz.laysSlH10_f136_ren := {
  mixed := by kernel_rfl
  f6 := ⟨Tryz.f207.name, by decide, Tryz.func207.trans (congrArg some (by kernel_rfl))⟩
  f10 := ⟨Tryz.f136.name, by decide, Tryz.func136.trans (congrArg some (by kernel_rfl))⟩
  t0 := Tryz.underlying0
  a0 := Tryz.isAgg0
  z0 := Tryz.sizeOf0
  v0 := Tryz.zeroValue0
  t3 := Tryz.underlying3
  a3 := Tryz.isAgg3
  z3 := Tryz.sizeOf3
  v3 := Tryz.zeroValue3
  t4 := Tryz.underlying4
  a4 := Tryz.isAgg4
  z4 := Tryz.sizeOf4
  v4 := Tryz.zeroValue4
  t22 := Tryz.underlying77
  a22 := Tryz.isAgg77
  z22 := Tryz.sizeOf77
  v22 := Tryz.zeroValue77
  a23 := Tryz.isAgg9
  z23 := Tryz.sizeOf9
  t25 := Tryz.underlying162
  a25 := Tryz.isAgg162
  z25 := Tryz.sizeOf162
  v25 := Tryz.zeroValue162 }
open Go.RowKit Go.Lib Go.Sort in
theorem Tryz.slices_DeleteFunc {α : Type} [Inhabited α] (enc : α → Value) (hO : OneCell enc) (p : α → Bool) (g : Nat) (lb : Array Value) (eg : ∀ args w, (callFunc g args).run Tryz.prog w = .ok (.enter g args) w) (zr : α) (v23 : ∀ w, (zeroValue 9).run Tryz.prog w = .ok (enc zr) w) (blk off cap : Nat) (d : Array α) (w : World) (hp : PredAt Tryz.prog g lb enc p w) (hpo : PredOver Tryz.prog g lb enc p blk off d.size w) (hH : Holds enc w blk off d) (hsz : d.size ≤ 9223372036854775807) (hcap : d.size ≤ cap) :
    Calls Tryz.prog 136 #[.slice (some ⟨blk, off, none⟩) d.size cap, .func (.func g) #[] lb] w fun e w' => e = .returned (.slice (some ⟨blk, off, none⟩) (d.toList.filter fun x => !p x).length cap) ∧ ∃ q, w' = putRow enc (Sort.ahead w q) blk off ((d.toList.filter fun x => !p x) ++ List.replicate (d.size - (d.toList.filter fun x => !p x).length) zr).toArray := AnyE.slices_DeleteFunc Tryz.laysSlH10_f136 enc hO p g lb eg zr v23 blk off cap d w hp hpo hH hsz hcap
def Tryz.laysSlF6_f140_ren : Go.Shelf.Ren := ⟨fun | 6 => 140 | 15 => 209 | 14 => 208 | 28 => 261 | 29 => 262 | 20 => 253 | 21 => 254 | 22 => 255 | 23 => 256 | 24 => 257 | 25 => 258 | 26 => 259 | 27 => 260 | 46 => 289 | 47 => 290 | 48 => 291 | 49 => 292 | 50 => 293 | 57 => 312 | n => n, fun | 22 => 77 | 24 => 9 | 25 => 166 | 3 => 3 | 39 => 122 | 0 => 0 | 53 => 243 | 55 => 263 | 4 => 4 | 46 => 277 | 45 => 276 | 50 => 65 | 5 => 5 | 9 => 9 | 66 => 310 | 70 => 314 | 76 => 332 | 77 => 123 | n => n, fun | n => n⟩
theorem Tryz.laysSlF6_f140 : Go.Proofs.SlLaysF.n6 Tryz.prog Tryz.laysSlF6_f140_ren := {
  mixed := by kernel_rfl
  f6 := ⟨Tryz.f140.name, by decide, Tryz.func140.trans (congrArg some (by kernel_rfl))⟩
  f14 := ⟨Tryz.f208.name, by decide, Tryz.func208.trans (congrArg some (by kernel_rfl))⟩
  f15 := Tryz.func209.trans (congrArg some (by kernel_rfl))
  f20 := ⟨Tryz.f253.name, by decide, Tryz.func253.trans (congrArg some (by kernel_rfl))⟩
  f21 := ⟨Tryz.f254.name, by decide, Tryz.func254.trans (congrArg some (by kernel_rfl))⟩
  f22 := ⟨Tryz.f255.name, by decide, Tryz.func255.trans (congrArg some (by kernel_rfl))⟩
  f23 := ⟨Tryz.f256.name, by decide, Tryz.func256.trans (congrArg some (by kernel_rfl))⟩
  f24 := ⟨Tryz.f257.name, by decide, Tryz.func257.trans (congrArg some (by kernel_rfl))⟩
  f25 := ⟨Tryz.f258.name, by decide, Tryz.func258.trans (congrArg some (by kernel_rfl))⟩
  f26 := ⟨Tryz.f259.name, by decide, Tryz.func259.trans (congrArg some (by kernel_rfl))⟩
  f27 := ⟨Tryz.f260.name, by decide, Tryz.func260.trans (congrArg some (by kernel_rfl))⟩
  f28 := Tryz.func261.trans (congrArg some (by kernel_rfl))
  f29 := Tryz.func262.trans (congrArg some (by kernel_rfl))
  f46 := ⟨Tryz.f289.name, by decide, Tryz.func289.trans (congrArg some (by kernel_rfl))⟩
  f47 := Tryz.func290.trans (congrArg some (by kernel_rfl))
  f48 := Tryz.func291.trans (congrArg some (by kernel_rfl))
  f49 := ⟨Tryz.f292.name, by decide, Tryz.func292.trans (congrArg some (by kernel_rfl))⟩
  f50 := ⟨Tryz.f293.name, by decide, Tryz.func293.trans (congrArg some (by kernel_rfl))⟩
  f57 := ⟨Tryz.f312.name, by decide, Tryz.func312.trans (congrArg some (by kernel_rfl))⟩
  t0 := Tryz.underlying0
  a0 := Tryz.isAgg0
  z0 := Tryz.sizeOf0
  v0 := Tryz.zeroValue0
  t3 := Tryz.underlying3
  a3 := Tryz.isAgg3
  z3 := Tryz.sizeOf3
  v3 := Tryz.zeroValue3
  t4 := Tryz.underlying4
  a4 := Tryz.isAgg4
  z4 := Tryz.sizeOf4
  v4 := Tryz.zeroValue4
  t5 := Tryz.underlying5
  a5 := Tryz.isAgg5
  z5 := Tryz.sizeOf5
  v5 := Tryz.zeroValue5
  t9 := Tryz.underlying9
  a9 := Tryz.isAgg9
  z9 := Tryz.sizeOf9
  v9 := Tryz.zeroValue9
  t22 := Tryz.underlying77
  a22 := Tryz.isAgg77
  z22 := Tryz.sizeOf77
  v22 := Tryz.zeroValue77
  a24 := Tryz.isAgg9
  z24 := Tryz.sizeOf9
  t25 := Tryz.underlying166
  a25 := Tryz.isAgg166
  z25 := Tryz.sizeOf166
  v25 := Tryz.zeroValue166
  t39 := Tryz.underlying122
  a39 := Tryz.isAgg122
  z39 := Tryz.sizeOf122
  v39 := Tryz.zeroValue122
  t45 := Tryz.underlying276
  a45 := Tryz.isAgg276
  z45 := Tryz.sizeOf276
  v45 := Tryz.zeroValue276
  t46 := Tryz.underlying277
  a46 := Tryz.isAgg277
  z46 := Tryz.sizeOf277
  v46 := Tryz.zeroValue277
  t50 := Tryz.underlying65
  a50 := Tryz.isAgg65
  z50 := Tryz.sizeOf65
  v50 := Tryz.zeroValue65
  t53 := Tryz.underlying243
  a53 := Tryz.isAgg243
  z53 := Tryz.sizeOf243
  v53 := Tryz.zeroValue243
  t55 := Tryz.underlying263
  a55 := Tryz.isAgg263
  z55 := Tryz.sizeOf263
  v55 := Tryz.zeroValue263
  t66 := Tryz.underlying310
  a66 := Tryz.isAgg310
  z66 := Tryz.sizeOf310
  v66 := Tryz.zeroValue310
  t70 := Tryz.underlying314
  a70 := Tryz.isAgg314
  z70 := Tryz.sizeOf314
  v70 := Tryz.zeroValue314
  t76 := Tryz.underlying332
  a76 := Tryz.isAgg332
  z76 := Tryz.sizeOf332
  v76 := Tryz.zeroValue332
  t77 := Tryz.underlying123
  a77 := Tryz.isAgg123
  z77 := Tryz.sizeOf123
  v77 := Tryz.zeroValue123 }
open Go.RowKit Go.Lib Go.Sort in
theorem Tryz.slices_SortFunc_f140 {α : Type} [Inhabited α] (enc : α → Value) (h1 : OneCell enc) (cf : α → α → Int) (hO : SWO (ltOf cf)) (g : Nat) (cb : Array Value) (blk off cap : Nat) (d : Array α) (w : World) (eg : ∀ args w, (callFunc g args).run Tryz.prog w = .ok (.enter g args) w) (hcmp : CmpLays1 Tryz.prog g cb enc cf blk off d.size w) (hH : Holds enc w blk off d) (hblk : blk < w.heap.size) (hsz : d.size < 4611686018427387904) :
    Calls Tryz.prog 140 #[.slice (some ⟨blk, off, none⟩) d.size cap, .func (.func g) #[] cb] w fun e w' =>
      e = .returned (.tuple #[]) ∧ ∃ d' n os, PermIn 0 d.size d d' ∧ SortedIn (ltOf cf) 0 d.size d' ∧ w' = sortWorld enc w blk off n d' os := Any.slices_SortFunc Tryz.laysSlF6_f140 enc h1 cf hO g cb blk off cap d w eg hcmp hH hblk hsz
def Tryz.laysSlF6_f227_ren : Go.Shelf.Ren := ⟨fun | 6 => 227 | 15 => 209 | 14 => 269 | 28 => 261 | 29 => 262 | 20 => 298 | 21 => 299 | 22 => 300 | 23 => 301 | 24 => 302 | 25 => 303 | 26 => 304 | 27 => 305 | 46 => 313 | 47 => 290 | 48 => 291 | 49 => 314 | 50 => 315 | 57 => 317 | n => n, fun | 22 => 52 | 24 => 3 | 25 => 94 | 3 => 3 | 39 => 122 | 0 => 0 | 53 => 243 | 55 => 263 | 4 => 4 | 46 => 277 | 45 => 276 | 50 => 65 | 5 => 5 | 9 => 9 | 66 => 310 | 70 => 314 | 76 => 332 | 77 => 123 | n => n, fun | n => n⟩
theorem Tryz.laysSlF6_f227 : Go.Proofs.SlLaysF.n6 Tryz.prog Tryz.laysSlF6_f227_ren := {
  mixed := by kernel_rfl
  f6 := ⟨Tryz.f227.name, by decide, Tryz.func227.trans (congrArg some (by kernel_rfl))⟩
  f14 := ⟨Tryz.f269.name, by decide, Tryz.func269.trans (congrArg some (by kernel_rfl))⟩
  f15 := Tryz.func209.trans (congrArg some (by kernel_rfl))
  f20 := ⟨Tryz.f298.name, by decide, Tryz.func298.trans (congrArg some (by kernel_rfl))⟩
  f21 := ⟨Tryz.f299.name, by decide, Tryz.func299.trans (congrArg some (by kernel_rfl))⟩
  f22 := ⟨Tryz.f300.name, by decide, Tryz.func300.trans (congrArg some (by kernel_rfl))⟩
  f23 := ⟨Tryz.f301.name, by decide, Tryz.func301.trans (congrArg some (by kernel_rfl))⟩
  f24 := ⟨Tryz.f302.name, by decide, Tryz.func302.trans (congrArg some (by kernel_rfl))⟩
  f25 := ⟨Tryz.f303.name, by decide, Tryz.func303.trans (congrArg some (by kernel_rfl))⟩
  f26 := ⟨Tryz.f304.name, by decide, Tryz.func304.trans (congrArg some (by kernel_rfl))⟩
  f27 := ⟨Tryz.f305.name, by decide, Tryz.func305.trans (congrArg some (by kernel_rfl))⟩
  f28 := Tryz.func261.trans (congrArg some (by kernel_rfl))
  f29 := Tryz.func262.trans (congrArg some (by kernel_rfl))
  f46 := ⟨Tryz.f313.name, by decide, Tryz.func313.trans (congrArg some (by kernel_rfl))⟩
  f47 := Tryz.func290.trans (congrArg some (by kernel_rfl))
  f48 := Tryz.func291.trans (congrArg some (by kernel_rfl))
  f49 := ⟨Tryz.f314.name, by decide, Tryz.func314.trans (congrArg some (by kernel_rfl))⟩
  f50 := ⟨Tryz.f315.name, by decide, Tryz.func315.trans (congrArg some (by kernel_rfl))⟩
  f57 := ⟨Tryz.f317.name, by decide, Tryz.func317.trans (congrArg some (by kernel_rfl))⟩
  t0 := Tryz.underlying0
  a0 := Tryz.isAgg0
  z0 := Tryz.sizeOf0
  v0 := Tryz.zeroValue0
  t3 := Tryz.underlying3
  a3 := Tryz.isAgg3
  z3 := Tryz.sizeOf3
  v3 := Tryz.zeroValue3
  t4 := Tryz.underlying4
  a4 := Tryz.isAgg4
  z4 := Tryz.sizeOf4
  v4 := Tryz.zeroValue4
  t5 := Tryz.underlying5
  a5 := Tryz.isAgg5
  z5 := Tryz.sizeOf5
  v5 := Tryz.zeroValue5
  t9 := Tryz.underlying9
  a9 := Tryz.isAgg9
  z9 := Tryz.sizeOf9
  v9 := Tryz.zeroValue9
  t22 := Tryz.underlying52
  a22 := Tryz.isAgg52
  z22 := Tryz.sizeOf52
  v22 := Tryz.zeroValue52
  a24 := Tryz.isAgg3
  z24 := Tryz.sizeOf3
  t25 := Tryz.underlying94
  a25 := Tryz.isAgg94
  z25 := Tryz.sizeOf94
  v25 := Tryz.zeroValue94
  t39 := Tryz.underlying122
  a39 := Tryz.isAgg122
  z39 := Tryz.sizeOf122
  v39 := Tryz.zeroValue122
  t45 := Tryz.underlying276
  a45 := Tryz.isAgg276
  z45 := Tryz.sizeOf276
  v45 := Tryz.zeroValue276
  t46 := Tryz.underlying277
  a46 := Tryz.isAgg277
  z46 := Tryz.sizeOf277
  v46 := Tryz.zeroValue277
  t50 := Tryz.underlying65
  a50 := Tryz.isAgg65
  z50 := Tryz.sizeOf65
  v50 := Tryz.zeroValue65
  t53 := Tryz.underlying243
  a53 := Tryz.isAgg243
  z53 := Tryz.sizeOf243
  v53 := Tryz.zeroValue243
  t55 := Tryz.underlying263
  a55 := Tryz.isAgg263
  z55 := Tryz.sizeOf263
  v55 := Tryz.zeroValue263
  t66 := Tryz.underlying310
  a66 := Tryz.isAgg310
  z66 := Tryz.sizeOf310
  v66 := Tryz.zeroValue310
  t70 := Tryz.underlying314
  a70 := Tryz.isAgg314
  z70 := Tryz.sizeOf314
  v70 := Tryz.zeroValue314
  t76 := Tryz.underlying332
  a76 := Tryz.isAgg332
  z76 := Tryz.sizeOf332
  v76 := Tryz.zeroValue332
  t77 := Tryz.underlying123
  a77 := Tryz.isAgg123
  z77 := Tryz.sizeOf123
  v77 := Tryz.zeroValue123 }
open Go.RowKit Go.Lib Go.Sort in
theorem Tryz.slices_SortFunc_f227 {α : Type} [Inhabited α] (enc : α → Value) (h1 : OneCell enc) (cf : α → α → Int) (hO : SWO (ltOf cf)) (g : Nat) (cb : Array Value) (blk off cap : Nat) (d : Array α) (w : World) (eg : ∀ args w, (callFunc g args).run Tryz.prog w = .ok (.enter g args) w) (hcmp : CmpLays1 Tryz.prog g cb enc cf blk off d.size w) (hH : Holds enc w blk off d) (hblk : blk < w.heap.size) (hsz : d.size < 4611686018427387904) :
    Calls Tryz.prog 227 #[.slice (some ⟨blk, off, none⟩) d.size cap, .func (.func g) #[] cb] w fun e w' =>
      e = .returned (.tuple #[]) ∧ ∃ d' n os, PermIn 0 d.size d d' ∧ SortedIn (ltOf cf) 0 d.size d' ∧ w' = sortWorld enc w blk off n d' os := Any.slices_SortFunc Tryz.laysSlF6_f227 enc h1 cf hO g cb blk off cap d w eg hcmp hH hblk hsz
end Go.Proofs
