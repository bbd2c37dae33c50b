/-
  DERIVED: THE SHELF's CONTRACTS AT THIS DUMP, IN PLAIN WORDS (tools/lay-plain.mjs out of 'YtbcjdjlihhlkaaaDoorS0.lean', which tools/lay-shelf.mjs wrote): THE SAME DECLARATIONS UNDER THE SAME NAMES: 'import', 'namespace', 'open', 'def', 'theorem' AND NOTHING ELSE: no command of the shelf's: FOR A HAND-IN. Each laying: the table of numbers ('.._ren') and one theorem, a field a fact of the dump's own or the kernel's comparison; each contract: ONE APPLICATION.
-/
import Derived.Shelf.SlGeneric
import Derived.Shelf.SlSortCmp.NoneTotal
import Derived.Ground.SlsfProg
import Derived.Ground.NamesProg
import Derived.Test.YtbcjdjlihhlkaaaDoorProg
namespace Go.Proofs
open Go.Shelf
def Tryd.sortE_ren : Go.Shelf.Ren := ⟨fun | 6 => 82 | 15 => 61 | 14 => 90 | 28 => 79 | 29 => 80 | 20 => 92 | 21 => 93 | 22 => 94 | 23 => 95 | 24 => 96 | 25 => 97 | 26 => 98 | 27 => 99 | 46 => 100 | 47 => 86 | 48 => 87 | 49 => 101 | 50 => 102 | 57 => 103 | n => n, fun | 22 => 26 | 24 => 58 | 25 => 91 | 3 => 3 | 39 => 99 | 0 => 0 | 53 => 118 | 55 => 59 | 4 => 4 | 46 => 111 | 45 => 110 | 50 => 115 | 5 => 5 | 9 => 9 | 66 => 122 | 70 => 126 | 76 => 129 | 77 => 130 | n => n, fun | n => n⟩
theorem Tryd.sortE : Go.Proofs.SlLaysF0.n6 Tryd.prog Tryd.sortE_ren := {
  mixed := by kernel_rfl
  f6 := ⟨Tryd.f82.name, by decide, Tryd.func82.trans (congrArg some (by kernel_rfl))⟩
  f14 := ⟨Tryd.f90.name, by decide, Tryd.func90.trans (congrArg some (by kernel_rfl))⟩
  f15 := Tryd.func61.trans (congrArg some (by kernel_rfl))
  f20 := ⟨Tryd.f92.name, by decide, Tryd.func92.trans (congrArg some (by kernel_rfl))⟩
  f21 := ⟨Tryd.f93.name, by decide, Tryd.func93.trans (congrArg some (by kernel_rfl))⟩
  f22 := ⟨Tryd.f94.name, by decide, Tryd.func94.trans (congrArg some (by kernel_rfl))⟩
  f23 := ⟨Tryd.f95.name, by decide, Tryd.func95.trans (congrArg some (by kernel_rfl))⟩
  f24 := ⟨Tryd.f96.name, by decide, Tryd.func96.trans (congrArg some (by kernel_rfl))⟩
  f25 := ⟨Tryd.f97.name, by decide, Tryd.func97.trans (congrArg some (by kernel_rfl))⟩
  f26 := ⟨Tryd.f98.name, by decide, Tryd.func98.trans (congrArg some (by kernel_rfl))⟩
  f27 := ⟨Tryd.f99.name, by decide, Tryd.func99.trans (congrArg some (by kernel_rfl))⟩
  f28 := Tryd.func79.trans (congrArg some (by kernel_rfl))
  f29 := Tryd.func80.trans (congrArg some (by kernel_rfl))
  f46 := ⟨Tryd.f100.name, by decide, Tryd.func100.trans (congrArg some (by kernel_rfl))⟩
  f47 := Tryd.func86.trans (congrArg some (by kernel_rfl))
  f48 := Tryd.func87.trans (congrArg some (by kernel_rfl))
  f49 := ⟨Tryd.f101.name, by decide, Tryd.func101.trans (congrArg some (by kernel_rfl))⟩
  f50 := ⟨Tryd.f102.name, by decide, Tryd.func102.trans (congrArg some (by kernel_rfl))⟩
  f57 := ⟨Tryd.f103.name, by decide, Tryd.func103.trans (congrArg some (by kernel_rfl))⟩
  t0 := Tryd.underlying0
  a0 := Tryd.isAgg0
  z0 := Tryd.sizeOf0
  v0 := Tryd.zeroValue0
  t3 := Tryd.underlying3
  a3 := Tryd.isAgg3
  z3 := Tryd.sizeOf3
  v3 := Tryd.zeroValue3
  t4 := Tryd.underlying4
  a4 := Tryd.isAgg4
  z4 := Tryd.sizeOf4
  v4 := Tryd.zeroValue4
  t5 := Tryd.underlying5
  a5 := Tryd.isAgg5
  z5 := Tryd.sizeOf5
  v5 := Tryd.zeroValue5
  t9 := Tryd.underlying9
  a9 := Tryd.isAgg9
  z9 := Tryd.sizeOf9
  v9 := Tryd.zeroValue9
  t22 := Tryd.underlying26
  a22 := Tryd.isAgg26
  z22 := Tryd.sizeOf26
  v22 := Tryd.zeroValue26
  t25 := Tryd.underlying91
  a25 := Tryd.isAgg91
  z25 := Tryd.sizeOf91
  v25 := Tryd.zeroValue91
  t39 := Tryd.underlying99
  a39 := Tryd.isAgg99
  z39 := Tryd.sizeOf99
  v39 := Tryd.zeroValue99
  t45 := Tryd.underlying110
  a45 := Tryd.isAgg110
  z45 := Tryd.sizeOf110
  v45 := Tryd.zeroValue110
  t46 := Tryd.underlying111
  a46 := Tryd.isAgg111
  z46 := Tryd.sizeOf111
  v46 := Tryd.zeroValue111
  t50 := Tryd.underlying115
  a50 := Tryd.isAgg115
  z50 := Tryd.sizeOf115
  v50 := Tryd.zeroValue115
  t53 := Tryd.underlying118
  a53 := Tryd.isAgg118
  z53 := Tryd.sizeOf118
  v53 := Tryd.zeroValue118
  t55 := Tryd.underlying59
  a55 := Tryd.isAgg59
  z55 := Tryd.sizeOf59
  v55 := Tryd.zeroValue59
  t66 := Tryd.underlying122
  a66 := Tryd.isAgg122
  z66 := Tryd.sizeOf122
  v66 := Tryd.zeroValue122
  t70 := Tryd.underlying126
  a70 := Tryd.isAgg126
  z70 := Tryd.sizeOf126
  v70 := Tryd.zeroValue126
  t76 := Tryd.underlying129
  a76 := Tryd.isAgg129
  z76 := Tryd.sizeOf129
  v76 := Tryd.zeroValue129
  t77 := Tryd.underlying130
  a77 := Tryd.isAgg130
  z77 := Tryd.sizeOf130
  v77 := Tryd.zeroValue130 }
end Go.Proofs
