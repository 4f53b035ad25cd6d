/-
  DERIVED: THE SHELF's CONTRACTS AT THIS DUMP, IN PLAIN WORDS (tools/lay-plain.mjs out of 'YtdebhdopginllaaIter.lean', which tools/lay-shelf.mjs wrote): THE SAME DECLARATIONS UNDER THE SAME NAMES: 'import', 'namespace', 'open', 'def', 'theorem' AND NOTHING ELSE: no command of the shelf's: FOR A HAND-IN. Each laying: the table of numbers ('.._ren') and one theorem, a field a fact of the dump's own or the kernel's comparison; each contract: ONE APPLICATION.
-/
import Derived.Ground.GgzProg
import Derived.Shelf.SlIter.Collect
import Derived.Test.YtdebhdopginllaaProg
namespace Go.Proofs
open Go.Shelf
def Try.keysZ_ren : Go.Shelf.Ren := ⟨fun | 7 => 29 | 10 => 57 | n => n, fun | 23 => 46 | 26 => 9 | 3 => 3 | 28 => 51 | 0 => 0 | 27 => 50 | 33 => 54 | 4 => 4 | n => n, fun | n => n⟩
theorem Try.keysZ : Go.Proofs.SlLaysZ.n7 Try.prog Try.keysZ_ren := {
  mixed := by kernel_rfl
  f7 := ⟨Try.f29.name, by decide, Try.func29.trans (congrArg some (by kernel_rfl))⟩
  f10 := ⟨Try.f57.name, by decide, Try.func57.trans (congrArg some (by kernel_rfl))⟩
  t0 := Try.underlying0
  a0 := Try.isAgg0
  z0 := Try.sizeOf0
  v0 := Try.zeroValue0
  t4 := Try.underlying4
  a4 := Try.isAgg4
  z4 := Try.sizeOf4
  v4 := Try.zeroValue4
  t23 := Try.underlying46
  a23 := Try.isAgg46
  z23 := Try.sizeOf46
  v23 := Try.zeroValue46
  t26 := Try.underlying9
  a26 := Try.isAgg9
  z26 := Try.sizeOf9
  v26 := Try.zeroValue9
  t27 := Try.underlying50
  a27 := Try.isAgg50
  z27 := Try.sizeOf50
  v27 := Try.zeroValue50
  t28 := Try.underlying51
  a28 := Try.isAgg51
  z28 := Try.sizeOf51
  v28 := Try.zeroValue51
  t33 := Try.underlying54
  a33 := Try.isAgg54
  z33 := Try.sizeOf54
  v33 := Try.zeroValue54 }
def Try.collectZ_ren : Go.Shelf.Ren := ⟨fun | 8 => 28 | 11 => 56 | n => n, fun | 26 => 9 | 28 => 51 | 24 => 24 | 0 => 0 | 33 => 54 | 4 => 4 | n => n, fun | n => n⟩
theorem Try.collectZ : Go.Proofs.SlLaysZ.n8 Try.prog Try.collectZ_ren := {
  mixed := by kernel_rfl
  f8 := ⟨Try.f28.name, by decide, Try.func28.trans (congrArg some (by kernel_rfl))⟩
  f11 := ⟨Try.f56.name, by decide, Try.func56.trans (congrArg some (by kernel_rfl))⟩
  t0 := Try.underlying0
  a0 := Try.isAgg0
  z0 := Try.sizeOf0
  v0 := Try.zeroValue0
  t24 := Try.underlying24
  a24 := Try.isAgg24
  z24 := Try.sizeOf24
  v24 := Try.zeroValue24
  t26 := Try.underlying9
  a26 := Try.isAgg9
  z26 := Try.sizeOf9
  v26 := Try.zeroValue9
  t28 := Try.underlying51
  a28 := Try.isAgg51
  z28 := Try.sizeOf51
  v28 := Try.zeroValue51
  i26 := by kernel_rfl }
end Go.Proofs
