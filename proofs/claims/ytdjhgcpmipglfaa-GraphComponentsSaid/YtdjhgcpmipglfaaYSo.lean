/-
  DERIVED: THE SHELF's CONTRACTS AT THIS DUMP, IN PLAIN WORDS (tools/lay-plain.mjs out of 'YtdjhgcpmipglfaaS0.lean', which tools/lay-shelf.mjs wrote): THE SAME DECLARATIONS UNDER THE SAME NAMES: 'import', 'namespace', 'open', 'def', 'theorem' AND NOTHING ELSE: no command of the shelf's: FOR A HAND-IN. Each laying: the table of numbers ('.._ren') and one theorem, a field a fact of the dump's own or the kernel's comparison; each contract: ONE APPLICATION.
-/
import Derived.Shelf.SlGeneric
import Derived.Shelf.SlSortCmp.NoneTotal
import Derived.Ground.SlsfProg
import Derived.Ground.NamesProg
import Derived.Test.YtdjhgcpmipglfaaProg
namespace Go.Proofs
open Go.Shelf
def Try.sortE_ren : Go.Shelf.Ren := ⟨fun | 6 => 71 | 15 => 104 | 14 => 103 | 28 => 120 | 29 => 121 | 20 => 112 | 21 => 113 | 22 => 114 | 23 => 115 | 24 => 116 | 25 => 117 | 26 => 118 | 27 => 119 | 46 => 123 | 47 => 124 | 48 => 125 | 49 => 126 | 50 => 127 | 57 => 128 | n => n, fun | 22 => 22 | 24 => 32 | 25 => 92 | 3 => 3 | 39 => 124 | 0 => 0 | 53 => 138 | 55 => 140 | 4 => 4 | 46 => 132 | 45 => 131 | 50 => 115 | 5 => 5 | 9 => 9 | 66 => 141 | 70 => 145 | 76 => 147 | 77 => 148 | n => n, fun | n => n⟩
theorem Try.sortE : Go.Proofs.SlLaysF0.n6 Try.prog Try.sortE_ren := {
  mixed := by kernel_rfl
  f6 := ⟨Try.f71.name, by decide, Try.func71.trans (congrArg some (by kernel_rfl))⟩
  f14 := ⟨Try.f103.name, by decide, Try.func103.trans (congrArg some (by kernel_rfl))⟩
  f15 := Try.func104.trans (congrArg some (by kernel_rfl))
  f20 := ⟨Try.f112.name, by decide, Try.func112.trans (congrArg some (by kernel_rfl))⟩
  f21 := ⟨Try.f113.name, by decide, Try.func113.trans (congrArg some (by kernel_rfl))⟩
  f22 := ⟨Try.f114.name, by decide, Try.func114.trans (congrArg some (by kernel_rfl))⟩
  f23 := ⟨Try.f115.name, by decide, Try.func115.trans (congrArg some (by kernel_rfl))⟩
  f24 := ⟨Try.f116.name, by decide, Try.func116.trans (congrArg some (by kernel_rfl))⟩
  f25 := ⟨Try.f117.name, by decide, Try.func117.trans (congrArg some (by kernel_rfl))⟩
  f26 := ⟨Try.f118.name, by decide, Try.func118.trans (congrArg some (by kernel_rfl))⟩
  f27 := ⟨Try.f119.name, by decide, Try.func119.trans (congrArg some (by kernel_rfl))⟩
  f28 := Try.func120.trans (congrArg some (by kernel_rfl))
  f29 := Try.func121.trans (congrArg some (by kernel_rfl))
  f46 := ⟨Try.f123.name, by decide, Try.func123.trans (congrArg some (by kernel_rfl))⟩
  f47 := Try.func124.trans (congrArg some (by kernel_rfl))
  f48 := Try.func125.trans (congrArg some (by kernel_rfl))
  f49 := ⟨Try.f126.name, by decide, Try.func126.trans (congrArg some (by kernel_rfl))⟩
  f50 := ⟨Try.f127.name, by decide, Try.func127.trans (congrArg some (by kernel_rfl))⟩
  f57 := ⟨Try.f128.name, by decide, Try.func128.trans (congrArg some (by kernel_rfl))⟩
  t0 := Try.underlying0
  a0 := Try.isAgg0
  z0 := Try.sizeOf0
  v0 := Try.zeroValue0
  t3 := Try.underlying3
  a3 := Try.isAgg3
  z3 := Try.sizeOf3
  v3 := Try.zeroValue3
  t4 := Try.underlying4
  a4 := Try.isAgg4
  z4 := Try.sizeOf4
  v4 := Try.zeroValue4
  t5 := Try.underlying5
  a5 := Try.isAgg5
  z5 := Try.sizeOf5
  v5 := Try.zeroValue5
  t9 := Try.underlying9
  a9 := Try.isAgg9
  z9 := Try.sizeOf9
  v9 := Try.zeroValue9
  t22 := Try.underlying22
  a22 := Try.isAgg22
  z22 := Try.sizeOf22
  v22 := Try.zeroValue22
  t25 := Try.underlying92
  a25 := Try.isAgg92
  z25 := Try.sizeOf92
  v25 := Try.zeroValue92
  t39 := Try.underlying124
  a39 := Try.isAgg124
  z39 := Try.sizeOf124
  v39 := Try.zeroValue124
  t45 := Try.underlying131
  a45 := Try.isAgg131
  z45 := Try.sizeOf131
  v45 := Try.zeroValue131
  t46 := Try.underlying132
  a46 := Try.isAgg132
  z46 := Try.sizeOf132
  v46 := Try.zeroValue132
  t50 := Try.underlying115
  a50 := Try.isAgg115
  z50 := Try.sizeOf115
  v50 := Try.zeroValue115
  t53 := Try.underlying138
  a53 := Try.isAgg138
  z53 := Try.sizeOf138
  v53 := Try.zeroValue138
  t55 := Try.underlying140
  a55 := Try.isAgg140
  z55 := Try.sizeOf140
  v55 := Try.zeroValue140
  t66 := Try.underlying141
  a66 := Try.isAgg141
  z66 := Try.sizeOf141
  v66 := Try.zeroValue141
  t70 := Try.underlying145
  a70 := Try.isAgg145
  z70 := Try.sizeOf145
  v70 := Try.zeroValue145
  t76 := Try.underlying147
  a76 := Try.isAgg147
  z76 := Try.sizeOf147
  v76 := Try.zeroValue147
  t77 := Try.underlying148
  a77 := Try.isAgg148
  z77 := Try.sizeOf148
  v77 := Try.zeroValue148 }
end Go.Proofs
