/-
  DERIVED: THE SHELF's CONTRACTS AT THIS DUMP, IN PLAIN WORDS (tools/lay-plain.mjs out of 'TrySort.lean', which tools/lay-shelf.mjs wrote): THE SAME DECLARATIONS UNDER THE SAME NAMES: 'import', 'namespace', 'open', 'def', 'theorem' AND NOTHING ELSE: no command of the shelf's: FOR A HAND-IN. Each laying: the table of numbers ('.._ren') and one theorem, a field a fact of the dump's own or the kernel's comparison; each contract: ONE APPLICATION.
-/
import Derived.Shelf.SlSortCmp.NoneTotal
import Derived.Shelf.SlGeneric
import Derived.Ground.SlsfProg
import Derived.Test.YtbdcgadcjgmgbaaProg
namespace Go.Proofs
open Go.Shelf
def Try.sort45_ren : Go.Shelf.Ren := ⟨fun | 6 => 45 | 15 => 55 | 14 => 54 | 28 => 70 | 29 => 71 | 20 => 62 | 21 => 63 | 22 => 64 | 23 => 65 | 24 => 66 | 25 => 67 | 26 => 68 | 27 => 69 | 46 => 76 | 47 => 77 | 48 => 78 | 49 => 79 | 50 => 80 | 57 => 91 | n => n, fun | 22 => 39 | 24 => 25 | 25 => 102 | 3 => 3 | 39 => 113 | 0 => 0 | 53 => 128 | 55 => 23 | 4 => 4 | 46 => 121 | 45 => 120 | 50 => 125 | 5 => 5 | 9 => 9 | 66 => 133 | 70 => 137 | 76 => 145 | 77 => 146 | n => n, fun | n => n⟩
theorem Try.sort45 : Go.Proofs.SlLaysF0.n6 Try.prog Try.sort45_ren := {
  mixed := by kernel_rfl
  f6 := ⟨Try.f45.name, by decide, Try.func45.trans (congrArg some (by kernel_rfl))⟩
  f14 := ⟨Try.f54.name, by decide, Try.func54.trans (congrArg some (by kernel_rfl))⟩
  f15 := Try.func55.trans (congrArg some (by kernel_rfl))
  f20 := ⟨Try.f62.name, by decide, Try.func62.trans (congrArg some (by kernel_rfl))⟩
  f21 := ⟨Try.f63.name, by decide, Try.func63.trans (congrArg some (by kernel_rfl))⟩
  f22 := ⟨Try.f64.name, by decide, Try.func64.trans (congrArg some (by kernel_rfl))⟩
  f23 := ⟨Try.f65.name, by decide, Try.func65.trans (congrArg some (by kernel_rfl))⟩
  f24 := ⟨Try.f66.name, by decide, Try.func66.trans (congrArg some (by kernel_rfl))⟩
  f25 := ⟨Try.f67.name, by decide, Try.func67.trans (congrArg some (by kernel_rfl))⟩
  f26 := ⟨Try.f68.name, by decide, Try.func68.trans (congrArg some (by kernel_rfl))⟩
  f27 := ⟨Try.f69.name, by decide, Try.func69.trans (congrArg some (by kernel_rfl))⟩
  f28 := Try.func70.trans (congrArg some (by kernel_rfl))
  f29 := Try.func71.trans (congrArg some (by kernel_rfl))
  f46 := ⟨Try.f76.name, by decide, Try.func76.trans (congrArg some (by kernel_rfl))⟩
  f47 := Try.func77.trans (congrArg some (by kernel_rfl))
  f48 := Try.func78.trans (congrArg some (by kernel_rfl))
  f49 := ⟨Try.f79.name, by decide, Try.func79.trans (congrArg some (by kernel_rfl))⟩
  f50 := ⟨Try.f80.name, by decide, Try.func80.trans (congrArg some (by kernel_rfl))⟩
  f57 := ⟨Try.f91.name, by decide, Try.func91.trans (congrArg some (by kernel_rfl))⟩
  t0 := Try.underlying0
  a0 := Try.isAgg0
  z0 := Try.sizeOf0
  v0 := Try.zeroValue0
  t3 := Try.underlying3
  a3 := Try.isAgg3
  z3 := Try.sizeOf3
  v3 := Try.zeroValue3
  t4 := Try.underlying4
  a4 := Try.isAgg4
  z4 := Try.sizeOf4
  v4 := Try.zeroValue4
  t5 := Try.underlying5
  a5 := Try.isAgg5
  z5 := Try.sizeOf5
  v5 := Try.zeroValue5
  t9 := Try.underlying9
  a9 := Try.isAgg9
  z9 := Try.sizeOf9
  v9 := Try.zeroValue9
  t22 := Try.underlying39
  a22 := Try.isAgg39
  z22 := Try.sizeOf39
  v22 := Try.zeroValue39
  t25 := Try.underlying102
  a25 := Try.isAgg102
  z25 := Try.sizeOf102
  v25 := Try.zeroValue102
  t39 := Try.underlying113
  a39 := Try.isAgg113
  z39 := Try.sizeOf113
  v39 := Try.zeroValue113
  t45 := Try.underlying120
  a45 := Try.isAgg120
  z45 := Try.sizeOf120
  v45 := Try.zeroValue120
  t46 := Try.underlying121
  a46 := Try.isAgg121
  z46 := Try.sizeOf121
  v46 := Try.zeroValue121
  t50 := Try.underlying125
  a50 := Try.isAgg125
  z50 := Try.sizeOf125
  v50 := Try.zeroValue125
  t53 := Try.underlying128
  a53 := Try.isAgg128
  z53 := Try.sizeOf128
  v53 := Try.zeroValue128
  t55 := Try.underlying23
  a55 := Try.isAgg23
  z55 := Try.sizeOf23
  v55 := Try.zeroValue23
  t66 := Try.underlying133
  a66 := Try.isAgg133
  z66 := Try.sizeOf133
  v66 := Try.zeroValue133
  t70 := Try.underlying137
  a70 := Try.isAgg137
  z70 := Try.sizeOf137
  v70 := Try.zeroValue137
  t76 := Try.underlying145
  a76 := Try.isAgg145
  z76 := Try.sizeOf145
  v76 := Try.zeroValue145
  t77 := Try.underlying146
  a77 := Try.isAgg146
  z77 := Try.sizeOf146
  v77 := Try.zeroValue146 }
end Go.Proofs
