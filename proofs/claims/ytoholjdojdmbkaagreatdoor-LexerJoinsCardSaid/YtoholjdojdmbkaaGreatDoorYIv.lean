/-
  DERIVED: THE SHELF's CONTRACTS AT THIS DUMP, IN PLAIN WORDS (tools/lay-plain.mjs out of 'YtoholjdojdmbkaaGreatDoorTIv.lean', which tools/lay-shelf.mjs wrote): THE SAME DECLARATIONS UNDER THE SAME NAMES: 'import', 'namespace', 'open', 'def', 'theorem' AND NOTHING ELSE: no command of the shelf's: FOR A HAND-IN. Each laying: the table of numbers ('.._ren') and one theorem, a field a fact of the dump's own or the kernel's comparison; each contract: ONE APPLICATION.
-/
import Derived.Shelf.Strings.SlTrimAscii
import Derived.Ground.NamesProg
import Derived.Test.YtoholjdojdmbkaaGreatDoorProg
namespace Go.Proofs
open Go.Shelf
def Tryz.lTr_ren : Go.Shelf.Ren := ⟨fun | 160 => 132 | 232 => 156 | 231 => 155 | 227 => 157 | 234 => 159 | 233 => 158 | 236 => 161 | 235 => 160 | 228 => 177 | 271 => 180 | 151 => 179 | 197 => 178 | 120 => 197 | 152 => 196 | 260 => 195 | 137 => 209 | 119 => 210 | 224 => 193 | 225 => 192 | 217 => 191 | 266 => 207 | n => n, fun | 9 => 9 | 4 => 4 | 3 => 3 | 5 => 5 | 117 => 198 | 116 => 197 | 0 => 0 | 124 => 201 | 21 => 21 | 105 => 231 | 46 => 89 | 119 => 180 | 139 => 281 | 138 => 280 | n => n, fun | 3 => 8 | 4 => 9 | n => n⟩
theorem Tryz.lTr : Go.Proofs.Lays.n160 Tryz.prog Tryz.lTr_ren := {
  mixed := by kernel_rfl
  f119 := Tryz.func210.trans (congrArg some (by kernel_rfl))
  f120 := Tryz.func197.trans (congrArg some (by kernel_rfl))
  f137 := Tryz.func209.trans (congrArg some (by kernel_rfl))
  f151 := Tryz.func179.trans (congrArg some (by kernel_rfl))
  f152 := Tryz.func196.trans (congrArg some (by kernel_rfl))
  f160 := Tryz.func132.trans (congrArg some (by kernel_rfl))
  f197 := Tryz.func178.trans (congrArg some (by kernel_rfl))
  f217 := Tryz.func191.trans (congrArg some (by kernel_rfl))
  f224 := Tryz.func193.trans (congrArg some (by kernel_rfl))
  f225 := Tryz.func192.trans (congrArg some (by kernel_rfl))
  f227 := Tryz.func157.trans (congrArg some (by kernel_rfl))
  f228 := Tryz.func177.trans (congrArg some (by kernel_rfl))
  f231 := Tryz.func155.trans (congrArg some (by kernel_rfl))
  f232 := Tryz.func156.trans (congrArg some (by kernel_rfl))
  f233 := Tryz.func158.trans (congrArg some (by kernel_rfl))
  f234 := Tryz.func159.trans (congrArg some (by kernel_rfl))
  f235 := Tryz.func160.trans (congrArg some (by kernel_rfl))
  f236 := Tryz.func161.trans (congrArg some (by kernel_rfl))
  f260 := Tryz.func195.trans (congrArg some (by kernel_rfl))
  f266 := Tryz.func207.trans (congrArg some (by kernel_rfl))
  f271 := Tryz.func180.trans (congrArg some (by kernel_rfl))
  t0 := Tryz.underlying0
  a0 := Tryz.isAgg0
  z0 := Tryz.sizeOf0
  v0 := Tryz.zeroValue0
  t3 := Tryz.underlying3
  a3 := Tryz.isAgg3
  z3 := Tryz.sizeOf3
  v3 := Tryz.zeroValue3
  t4 := Tryz.underlying4
  a4 := Tryz.isAgg4
  z4 := Tryz.sizeOf4
  v4 := Tryz.zeroValue4
  t5 := Tryz.underlying5
  a5 := Tryz.isAgg5
  z5 := Tryz.sizeOf5
  v5 := Tryz.zeroValue5
  t9 := Tryz.underlying9
  a9 := Tryz.isAgg9
  z9 := Tryz.sizeOf9
  v9 := Tryz.zeroValue9
  t21 := Tryz.underlying21
  a21 := Tryz.isAgg21
  z21 := Tryz.sizeOf21
  v21 := Tryz.zeroValue21
  t46 := Tryz.underlying89
  a46 := Tryz.isAgg89
  z46 := Tryz.sizeOf89
  v46 := Tryz.zeroValue89
  t105 := Tryz.underlying231
  a105 := Tryz.isAgg231
  z105 := Tryz.sizeOf231
  v105 := Tryz.zeroValue231
  t116 := Tryz.underlying197
  a116 := Tryz.isAgg197
  z116 := Tryz.sizeOf197
  t117 := Tryz.underlying198
  a117 := Tryz.isAgg198
  z117 := Tryz.sizeOf198
  v117 := Tryz.zeroValue198
  t119 := Tryz.underlying180
  a119 := Tryz.isAgg180
  z119 := Tryz.sizeOf180
  t124 := Tryz.underlying201
  a124 := Tryz.isAgg201
  z124 := Tryz.sizeOf201
  v124 := Tryz.zeroValue201
  t138 := Tryz.underlying280
  a138 := Tryz.isAgg280
  z138 := Tryz.sizeOf280
  v138 := Tryz.zeroValue280
  t139 := Tryz.underlying281
  a139 := Tryz.isAgg281
  z139 := Tryz.sizeOf281
  v139 := Tryz.zeroValue281
  g3 := by kernel_rfl
  g4 := by kernel_rfl }
end Go.Proofs
