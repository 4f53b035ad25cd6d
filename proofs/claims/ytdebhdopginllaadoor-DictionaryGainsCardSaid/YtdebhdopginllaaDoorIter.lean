/-
  DERIVED: THE SHELF's CONTRACTS AT THIS DUMP, IN PLAIN WORDS (tools/lay-plain.mjs out of 'YtdebhdopginllaaDoorIter.lean', which tools/lay-shelf.mjs wrote): THE SAME DECLARATIONS UNDER THE SAME NAMES: 'import', 'namespace', 'open', 'def', 'theorem' AND NOTHING ELSE: no command of the shelf's: FOR A HAND-IN. Each laying: the table of numbers ('.._ren') and one theorem, a field a fact of the dump's own or the kernel's comparison; each contract: ONE APPLICATION.
-/
import Derived.Ground.GgzProg
import Derived.Shelf.SlIter.Collect
import Derived.Test.YtdebhdopginllaaDoorProg
namespace Go.Proofs
open Go.Shelf
def Tryd.keysZ_ren : Go.Shelf.Ren := ⟨fun | 7 => 17 | 10 => 35 | n => n, fun | 23 => 40 | 26 => 9 | 3 => 3 | 28 => 45 | 0 => 0 | 27 => 44 | 33 => 48 | 4 => 4 | n => n, fun | n => n⟩
theorem Tryd.keysZ : Go.Proofs.SlLaysZ.n7 Tryd.prog Tryd.keysZ_ren := {
  mixed := by kernel_rfl
  f7 := ⟨Tryd.f17.name, by decide, Tryd.func17.trans (congrArg some (by kernel_rfl))⟩
  f10 := ⟨Tryd.f35.name, by decide, Tryd.func35.trans (congrArg some (by kernel_rfl))⟩
  t0 := Tryd.underlying0
  a0 := Tryd.isAgg0
  z0 := Tryd.sizeOf0
  v0 := Tryd.zeroValue0
  t4 := Tryd.underlying4
  a4 := Tryd.isAgg4
  z4 := Tryd.sizeOf4
  v4 := Tryd.zeroValue4
  t23 := Tryd.underlying40
  a23 := Tryd.isAgg40
  z23 := Tryd.sizeOf40
  v23 := Tryd.zeroValue40
  t26 := Tryd.underlying9
  a26 := Tryd.isAgg9
  z26 := Tryd.sizeOf9
  v26 := Tryd.zeroValue9
  t27 := Tryd.underlying44
  a27 := Tryd.isAgg44
  z27 := Tryd.sizeOf44
  v27 := Tryd.zeroValue44
  t28 := Tryd.underlying45
  a28 := Tryd.isAgg45
  z28 := Tryd.sizeOf45
  v28 := Tryd.zeroValue45
  t33 := Tryd.underlying48
  a33 := Tryd.isAgg48
  z33 := Tryd.sizeOf48
  v33 := Tryd.zeroValue48 }
def Tryd.collectZ_ren : Go.Shelf.Ren := ⟨fun | 8 => 16 | 11 => 34 | n => n, fun | 26 => 9 | 28 => 45 | 24 => 24 | 0 => 0 | 33 => 48 | 4 => 4 | n => n, fun | n => n⟩
theorem Tryd.collectZ : Go.Proofs.SlLaysZ.n8 Tryd.prog Tryd.collectZ_ren := {
  mixed := by kernel_rfl
  f8 := ⟨Tryd.f16.name, by decide, Tryd.func16.trans (congrArg some (by kernel_rfl))⟩
  f11 := ⟨Tryd.f34.name, by decide, Tryd.func34.trans (congrArg some (by kernel_rfl))⟩
  t0 := Tryd.underlying0
  a0 := Tryd.isAgg0
  z0 := Tryd.sizeOf0
  v0 := Tryd.zeroValue0
  t24 := Tryd.underlying24
  a24 := Tryd.isAgg24
  z24 := Tryd.sizeOf24
  v24 := Tryd.zeroValue24
  t26 := Tryd.underlying9
  a26 := Tryd.isAgg9
  z26 := Tryd.sizeOf9
  v26 := Tryd.zeroValue9
  t28 := Tryd.underlying45
  a28 := Tryd.isAgg45
  z28 := Tryd.sizeOf45
  v28 := Tryd.zeroValue45
  i26 := by kernel_rfl }
end Go.Proofs
