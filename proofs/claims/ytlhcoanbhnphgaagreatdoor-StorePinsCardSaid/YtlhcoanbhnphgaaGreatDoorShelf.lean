/-
  DERIVED: THE SHELF's CONTRACTS AT THIS DUMP, IN PLAIN WORDS (tools/lay-plain.mjs out of 'TryMineShelf.lean', which tools/lay-shelf.mjs wrote): THE SAME DECLARATIONS UNDER THE SAME NAMES: 'import', 'namespace', 'open', 'def', 'theorem' AND NOTHING ELSE: no command of the shelf's: FOR A HAND-IN. Each laying: the table of numbers ('.._ren') and one theorem, a field a fact of the dump's own or the kernel's comparison; each contract: ONE APPLICATION.
-/
import Derived.Shelf.Strings.Split
import Derived.Test.YtlhcoanbhnphgaaGreatDoorProg
namespace Go.Proofs
open Go.Shelf
def Tryz.lays146_ren : Go.Shelf.Ren := ⟨fun | 143 => 199 | 219 => 239 | 217 => 272 | 225 => 273 | 224 => 274 | 267 => 275 | 266 => 296 | 314 => 297 | n => n, fun | 9 => 9 | 3 => 3 | 4 => 4 | 5 => 5 | 46 => 157 | 146 => 350 | 51 => 225 | n => n, fun | 1 => 1 | n => n⟩
theorem Tryz.lays146 : Go.Proofs.Lays.n143 Tryz.prog Tryz.lays146_ren := {
  mixed := by kernel_rfl
  f143 := Tryz.func199.trans (congrArg some (by kernel_rfl))
  f217 := Tryz.func272.trans (congrArg some (by kernel_rfl))
  f219 := Tryz.func239.trans (congrArg some (by kernel_rfl))
  f224 := Tryz.func274.trans (congrArg some (by kernel_rfl))
  f225 := Tryz.func273.trans (congrArg some (by kernel_rfl))
  f266 := Tryz.func296.trans (congrArg some (by kernel_rfl))
  f267 := Tryz.func275.trans (congrArg some (by kernel_rfl))
  f314 := Tryz.func297.trans (congrArg some (by kernel_rfl))
  t3 := Tryz.underlying3
  a3 := Tryz.isAgg3
  z3 := Tryz.sizeOf3
  v3 := Tryz.zeroValue3
  t4 := Tryz.underlying4
  a4 := Tryz.isAgg4
  z4 := Tryz.sizeOf4
  v4 := Tryz.zeroValue4
  t5 := Tryz.underlying5
  a5 := Tryz.isAgg5
  z5 := Tryz.sizeOf5
  v5 := Tryz.zeroValue5
  t9 := Tryz.underlying9
  a9 := Tryz.isAgg9
  z9 := Tryz.sizeOf9
  v9 := Tryz.zeroValue9
  t46 := Tryz.underlying157
  a46 := Tryz.isAgg157
  z46 := Tryz.sizeOf157
  v46 := Tryz.zeroValue157
  t51 := Tryz.underlying225
  a51 := Tryz.isAgg225
  z51 := Tryz.sizeOf225
  v51 := Tryz.zeroValue225
  t146 := Tryz.underlying350
  a146 := Tryz.isAgg350
  z146 := Tryz.sizeOf350
  v146 := Tryz.zeroValue350
  g1 := by kernel_rfl }
end Go.Proofs
