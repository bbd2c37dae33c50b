/-
  DERIVED: THE SHELF's CONTRACTS AT THIS DUMP, IN PLAIN WORDS (tools/lay-plain.mjs out of 'YtbcjdjlihhlkaaaGreatDoorSt.lean', which tools/lay-shelf.mjs wrote): THE SAME DECLARATIONS UNDER THE SAME NAMES: 'import', 'namespace', 'open', 'def', 'theorem' AND NOTHING ELSE: no command of the shelf's: FOR A HAND-IN. Each laying: the table of numbers ('.._ren') and one theorem, a field a fact of the dump's own or the kernel's comparison; each contract: ONE APPLICATION.
-/
import Derived.Shelf.SlGeneric
import Derived.Shelf.SlSortCmp.NoneTotal
import Derived.Ground.SlsfProg
import Derived.Ground.NamesProg
import Derived.Test.YtbcjdjlihhlkaaaGreatDoorProg
namespace Go.Proofs
open Go.Shelf
def Tryz.sortS_ren : Go.Shelf.Ren := ⟨fun | 6 => 47 | 15 => 66 | 14 => 65 | 28 => 84 | 29 => 85 | 20 => 76 | 21 => 77 | 22 => 78 | 23 => 79 | 24 => 80 | 25 => 81 | 26 => 82 | 27 => 83 | 46 => 90 | 47 => 91 | 48 => 92 | 49 => 93 | 50 => 94 | 57 => 96 | n => n, fun | 22 => 67 | 24 => 62 | 25 => 73 | 3 => 3 | 39 => 105 | 0 => 0 | 53 => 125 | 55 => 61 | 4 => 4 | 46 => 118 | 45 => 117 | 50 => 122 | 5 => 5 | 9 => 9 | 66 => 129 | 70 => 133 | 76 => 136 | 77 => 137 | n => n, fun | n => n⟩
theorem Tryz.sortS : Go.Proofs.SlLaysF.n6 Tryz.prog Tryz.sortS_ren := {
  mixed := by kernel_rfl
  f6 := ⟨Tryz.f47.name, by decide, Tryz.func47.trans (congrArg some (by kernel_rfl))⟩
  f14 := ⟨Tryz.f65.name, by decide, Tryz.func65.trans (congrArg some (by kernel_rfl))⟩
  f15 := Tryz.func66.trans (congrArg some (by kernel_rfl))
  f20 := ⟨Tryz.f76.name, by decide, Tryz.func76.trans (congrArg some (by kernel_rfl))⟩
  f21 := ⟨Tryz.f77.name, by decide, Tryz.func77.trans (congrArg some (by kernel_rfl))⟩
  f22 := ⟨Tryz.f78.name, by decide, Tryz.func78.trans (congrArg some (by kernel_rfl))⟩
  f23 := ⟨Tryz.f79.name, by decide, Tryz.func79.trans (congrArg some (by kernel_rfl))⟩
  f24 := ⟨Tryz.f80.name, by decide, Tryz.func80.trans (congrArg some (by kernel_rfl))⟩
  f25 := ⟨Tryz.f81.name, by decide, Tryz.func81.trans (congrArg some (by kernel_rfl))⟩
  f26 := ⟨Tryz.f82.name, by decide, Tryz.func82.trans (congrArg some (by kernel_rfl))⟩
  f27 := ⟨Tryz.f83.name, by decide, Tryz.func83.trans (congrArg some (by kernel_rfl))⟩
  f28 := Tryz.func84.trans (congrArg some (by kernel_rfl))
  f29 := Tryz.func85.trans (congrArg some (by kernel_rfl))
  f46 := ⟨Tryz.f90.name, by decide, Tryz.func90.trans (congrArg some (by kernel_rfl))⟩
  f47 := Tryz.func91.trans (congrArg some (by kernel_rfl))
  f48 := Tryz.func92.trans (congrArg some (by kernel_rfl))
  f49 := ⟨Tryz.f93.name, by decide, Tryz.func93.trans (congrArg some (by kernel_rfl))⟩
  f50 := ⟨Tryz.f94.name, by decide, Tryz.func94.trans (congrArg some (by kernel_rfl))⟩
  f57 := ⟨Tryz.f96.name, by decide, Tryz.func96.trans (congrArg some (by kernel_rfl))⟩
  t0 := Tryz.underlying0
  a0 := Tryz.isAgg0
  z0 := Tryz.sizeOf0
  v0 := Tryz.zeroValue0
  t3 := Tryz.underlying3
  a3 := Tryz.isAgg3
  z3 := Tryz.sizeOf3
  v3 := Tryz.zeroValue3
  t4 := Tryz.underlying4
  a4 := Tryz.isAgg4
  z4 := Tryz.sizeOf4
  v4 := Tryz.zeroValue4
  t5 := Tryz.underlying5
  a5 := Tryz.isAgg5
  z5 := Tryz.sizeOf5
  v5 := Tryz.zeroValue5
  t9 := Tryz.underlying9
  a9 := Tryz.isAgg9
  z9 := Tryz.sizeOf9
  v9 := Tryz.zeroValue9
  t22 := Tryz.underlying67
  a22 := Tryz.isAgg67
  z22 := Tryz.sizeOf67
  v22 := Tryz.zeroValue67
  a24 := Tryz.isAgg62
  z24 := Tryz.sizeOf62
  t25 := Tryz.underlying73
  a25 := Tryz.isAgg73
  z25 := Tryz.sizeOf73
  v25 := Tryz.zeroValue73
  t39 := Tryz.underlying105
  a39 := Tryz.isAgg105
  z39 := Tryz.sizeOf105
  v39 := Tryz.zeroValue105
  t45 := Tryz.underlying117
  a45 := Tryz.isAgg117
  z45 := Tryz.sizeOf117
  v45 := Tryz.zeroValue117
  t46 := Tryz.underlying118
  a46 := Tryz.isAgg118
  z46 := Tryz.sizeOf118
  v46 := Tryz.zeroValue118
  t50 := Tryz.underlying122
  a50 := Tryz.isAgg122
  z50 := Tryz.sizeOf122
  v50 := Tryz.zeroValue122
  t53 := Tryz.underlying125
  a53 := Tryz.isAgg125
  z53 := Tryz.sizeOf125
  v53 := Tryz.zeroValue125
  t55 := Tryz.underlying61
  a55 := Tryz.isAgg61
  z55 := Tryz.sizeOf61
  v55 := Tryz.zeroValue61
  t66 := Tryz.underlying129
  a66 := Tryz.isAgg129
  z66 := Tryz.sizeOf129
  v66 := Tryz.zeroValue129
  t70 := Tryz.underlying133
  a70 := Tryz.isAgg133
  z70 := Tryz.sizeOf133
  v70 := Tryz.zeroValue133
  t76 := Tryz.underlying136
  a76 := Tryz.isAgg136
  z76 := Tryz.sizeOf136
  v76 := Tryz.zeroValue136
  t77 := Tryz.underlying137
  a77 := Tryz.isAgg137
  z77 := Tryz.sizeOf137
  v77 := Tryz.zeroValue137 }
end Go.Proofs
