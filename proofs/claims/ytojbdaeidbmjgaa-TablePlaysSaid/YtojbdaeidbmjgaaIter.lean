/-
  DERIVED: THE SHELF's CONTRACTS AT THIS DUMP, IN PLAIN WORDS (tools/lay-plain.mjs out of 'TryIter.lean', which tools/lay-shelf.mjs wrote): THE SAME DECLARATIONS UNDER THE SAME NAMES: 'import', 'namespace', 'open', 'def', 'theorem' AND NOTHING ELSE: no command of the shelf's: FOR A HAND-IN. Each laying: the table of numbers ('.._ren') and one theorem, a field a fact of the dump's own or the kernel's comparison; each contract: ONE APPLICATION.
-/
import Derived.Shelf.SlIterI.Nil
import Derived.Shelf.SortM.Plain
import Derived.Shelf.SortM.SortNone
import Derived.Ground.GgzProg
import Derived.Ground.SlgmProg
import Derived.Test.YtojbdaeidbmjgaaShelf
import Derived.Test.YtojbdaeidbmjgaaProg
namespace Go.Proofs
open Go.Shelf
def Try.keysA_ren : Go.Shelf.Ren := ⟨fun | 7 => 34 | 10 => 57 | n => n, fun | 23 => 53 | 26 => 3 | 3 => 70 | 28 => 90 | 0 => 0 | 27 => 89 | 33 => 80 | 4 => 4 | n => n, fun | n => n⟩
theorem Try.keysA : Go.Proofs.SlLaysZI.n7 Try.prog Try.keysA_ren := {
  mixed := by kernel_rfl
  f7 := ⟨Try.f34.name, by decide, Try.func34.trans (congrArg some (by kernel_rfl))⟩
  f10 := ⟨Try.f57.name, by decide, Try.func57.trans (congrArg some (by kernel_rfl))⟩
  t0 := Try.underlying0
  a0 := Try.isAgg0
  z0 := Try.sizeOf0
  v0 := Try.zeroValue0
  t4 := Try.underlying4
  a4 := Try.isAgg4
  z4 := Try.sizeOf4
  v4 := Try.zeroValue4
  t23 := Try.underlying53
  a23 := Try.isAgg53
  z23 := Try.sizeOf53
  v23 := Try.zeroValue53
  t26 := Try.underlying3
  a26 := Try.isAgg3
  z26 := Try.sizeOf3
  v26 := Try.zeroValue3
  t27 := Try.underlying89
  a27 := Try.isAgg89
  z27 := Try.sizeOf89
  v27 := Try.zeroValue89
  t28 := Try.underlying90
  a28 := Try.isAgg90
  z28 := Try.sizeOf90
  v28 := Try.zeroValue90
  t33 := Try.underlying80
  a33 := Try.isAgg80
  z33 := Try.sizeOf80
  v33 := Try.zeroValue80 }
def Try.sortedA_ren : Go.Shelf.Ren := ⟨fun | 6 => 33 | 8 => 55 | 9 => 56 | 11 => 73 | 13 => 75 | 12 => 74 | 23 => 97 | 24 => 40 | 14 => 88 | 15 => 89 | 16 => 90 | 17 => 91 | 18 => 92 | 19 => 93 | 20 => 94 | 21 => 95 | 22 => 96 | 25 => 98 | 26 => 99 | 27 => 100 | 28 => 101 | 29 => 102 | 30 => 103 | 31 => 104 | n => n, fun | 26 => 3 | 28 => 90 | 24 => 65 | 0 => 0 | 3 => 3 | 37 => 97 | 48 => 48 | 50 => 29 | 4 => 4 | 40 => 137 | 39 => 136 | 45 => 142 | 5 => 5 | 9 => 9 | 51 => 145 | 55 => 148 | 57 => 150 | 58 => 151 | 33 => 80 | n => n, fun | n => n⟩
theorem Try.sortedA : Go.Proofs.SlLaysZI.n6 Try.prog Try.sortedA_ren := {
  mixed := by kernel_rfl
  f6 := ⟨Try.f33.name, by decide, Try.func33.trans (congrArg some (by kernel_rfl))⟩
  f8 := ⟨Try.f55.name, by decide, Try.func55.trans (congrArg some (by kernel_rfl))⟩
  f11 := ⟨Try.f73.name, by decide, Try.func73.trans (congrArg some (by kernel_rfl))⟩
  t0 := Try.underlying0
  a0 := Try.isAgg0
  z0 := Try.sizeOf0
  v0 := Try.zeroValue0
  t24 := Try.underlying65
  a24 := Try.isAgg65
  z24 := Try.sizeOf65
  v24 := Try.zeroValue65
  t26 := Try.underlying3
  a26 := Try.isAgg3
  z26 := Try.sizeOf3
  v26 := Try.zeroValue3
  t28 := Try.underlying90
  a28 := Try.isAgg90
  z28 := Try.sizeOf90
  v28 := Try.zeroValue90
  i26 := by kernel_rfl }
end Go.Proofs
