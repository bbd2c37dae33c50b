/-
  DERIVED: THE SHELF's CONTRACTS AT THIS DUMP, IN PLAIN WORDS (tools/lay-plain.mjs out of 'YtoholjdojdmbkaaGreatDoorTIw.lean', which tools/lay-shelf.mjs wrote): THE SAME DECLARATIONS UNDER THE SAME NAMES: 'import', 'namespace', 'open', 'def', 'theorem' AND NOTHING ELSE: no command of the shelf's: FOR A HAND-IN. Each laying: the table of numbers ('.._ren') and one theorem, a field a fact of the dump's own or the kernel's comparison; each contract: ONE APPLICATION.
-/
import Derived.Shelf.Strings.Fields
import Derived.Ground.NamesProg
import Derived.Test.YtoholjdojdmbkaaGreatDoorProg
namespace Go.Proofs
open Go.Shelf
def Tryz.lFi_ren : Go.Shelf.Ren := ⟨fun | 157 => 113 | 229 => 139 | 199 => 140 | 261 => 168 | 311 => 187 | 312 => 188 | n => n, fun | 9 => 9 | 31 => 25 | 3 => 3 | 5 => 5 | 4 => 4 | 119 => 180 | 0 => 0 | 40 => 102 | 152 => 216 | 21 => 21 | 154 => 218 | 51 => 88 | 141 => 220 | 196 => 251 | 193 => 248 | 198 => 254 | 49 => 252 | 194 => 249 | 201 => 257 | 226 => 274 | 46 => 89 | 227 => 275 | n => n, fun | 0 => 0 | 6 => 1 | n => n⟩
theorem Tryz.lFi : Go.Proofs.Lays.n157 Tryz.prog Tryz.lFi_ren := {
  mixed := by kernel_rfl
  f157 := Tryz.func113.trans (congrArg some (by kernel_rfl))
  f199 := Tryz.func140.trans (congrArg some (by kernel_rfl))
  f229 := Tryz.func139.trans (congrArg some (by kernel_rfl))
  f261 := Tryz.func168.trans (congrArg some (by kernel_rfl))
  f311 := Tryz.func187.trans (congrArg some (by kernel_rfl))
  f312 := Tryz.func188.trans (congrArg some (by kernel_rfl))
  t0 := Tryz.underlying0
  a0 := Tryz.isAgg0
  z0 := Tryz.sizeOf0
  v0 := Tryz.zeroValue0
  t3 := Tryz.underlying3
  a3 := Tryz.isAgg3
  z3 := Tryz.sizeOf3
  v3 := Tryz.zeroValue3
  t4 := Tryz.underlying4
  a4 := Tryz.isAgg4
  z4 := Tryz.sizeOf4
  v4 := Tryz.zeroValue4
  t5 := Tryz.underlying5
  a5 := Tryz.isAgg5
  z5 := Tryz.sizeOf5
  v5 := Tryz.zeroValue5
  t9 := Tryz.underlying9
  a9 := Tryz.isAgg9
  z9 := Tryz.sizeOf9
  v9 := Tryz.zeroValue9
  t21 := Tryz.underlying21
  a21 := Tryz.isAgg21
  z21 := Tryz.sizeOf21
  v21 := Tryz.zeroValue21
  t31 := Tryz.underlying25
  a31 := Tryz.isAgg25
  z31 := Tryz.sizeOf25
  v31 := Tryz.zeroValue25
  t40 := Tryz.underlying102
  a40 := Tryz.isAgg102
  z40 := Tryz.sizeOf102
  v40 := Tryz.zeroValue102
  t46 := Tryz.underlying89
  a46 := Tryz.isAgg89
  z46 := Tryz.sizeOf89
  v46 := Tryz.zeroValue89
  t49 := Tryz.underlying252
  a49 := Tryz.isAgg252
  z49 := Tryz.sizeOf252
  v49 := Tryz.zeroValue252
  t51 := Tryz.underlying88
  a51 := Tryz.isAgg88
  z51 := Tryz.sizeOf88
  v51 := Tryz.zeroValue88
  t119 := Tryz.underlying180
  a119 := Tryz.isAgg180
  z119 := Tryz.sizeOf180
  t141 := Tryz.underlying220
  a141 := Tryz.isAgg220
  z141 := Tryz.sizeOf220
  v141 := Tryz.zeroValue220
  t152 := Tryz.underlying216
  a152 := Tryz.isAgg216
  z152 := Tryz.sizeOf216
  v152 := Tryz.zeroValue216
  t154 := Tryz.underlying218
  a154 := Tryz.isAgg218
  z154 := Tryz.sizeOf218
  v154 := Tryz.zeroValue218
  t193 := Tryz.underlying248
  a193 := Tryz.isAgg248
  z193 := Tryz.sizeOf248
  v193 := Tryz.zeroValue248
  t194 := Tryz.underlying249
  a194 := Tryz.isAgg249
  z194 := Tryz.sizeOf249
  v194 := Tryz.zeroValue249
  t196 := Tryz.underlying251
  a196 := Tryz.isAgg251
  z196 := Tryz.sizeOf251
  v196 := Tryz.zeroValue251
  t198 := Tryz.underlying254
  a198 := Tryz.isAgg254
  z198 := Tryz.sizeOf254
  v198 := Tryz.zeroValue254
  t201 := Tryz.underlying257
  a201 := Tryz.isAgg257
  z201 := Tryz.sizeOf257
  v201 := Tryz.zeroValue257
  t226 := Tryz.underlying274
  a226 := Tryz.isAgg274
  z226 := Tryz.sizeOf274
  v226 := Tryz.zeroValue274
  t227 := Tryz.underlying275
  a227 := Tryz.isAgg275
  z227 := Tryz.sizeOf275
  v227 := Tryz.zeroValue275
  g0 := by kernel_rfl
  g6 := by kernel_rfl }
end Go.Proofs
