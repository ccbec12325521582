/-
  DERIVED: THE SHELF's CONTRACTS AT THIS DUMP, IN PLAIN WORDS (tools/lay-plain.mjs out of 'TryMineShelf3.lean', which tools/lay-shelf.mjs wrote): THE SAME DECLARATIONS UNDER THE SAME NAMES: 'import', 'namespace', 'open', 'def', 'theorem' AND NOTHING ELSE: no command of the shelf's: FOR A HAND-IN. Each laying: the table of numbers ('.._ren') and one theorem, a field a fact of the dump's own or the kernel's comparison; each contract: ONE APPLICATION.
-/
import Derived.Shelf.SlSortCmp.NoneTotal
import Derived.Test.YtejamhkgjkhjdaaGreatDoorProg
namespace Go.Proofs
open Go.Shelf
def Tryz.sortI_ren : Go.Shelf.Ren := ⟨fun | 6 => 206 | 15 => 152 | 14 => 258 | 28 => 219 | 29 => 220 | 20 => 289 | 21 => 290 | 22 => 291 | 23 => 292 | 24 => 293 | 25 => 294 | 26 => 295 | 27 => 296 | 46 => 318 | 47 => 261 | 48 => 262 | 49 => 319 | 50 => 320 | 57 => 334 | n => n, fun | 22 => 106 | 24 => 143 | 25 => 286 | 3 => 3 | 39 => 216 | 0 => 0 | 53 => 87 | 55 => 298 | 4 => 4 | 46 => 291 | 45 => 290 | 50 => 156 | 5 => 5 | 9 => 9 | 66 => 342 | 70 => 346 | 76 => 372 | 77 => 373 | n => n, fun | n => n⟩
theorem Tryz.sortI : Go.Proofs.SlLaysF0.n6 Tryz.prog Tryz.sortI_ren := {
  mixed := by kernel_rfl
  f6 := ⟨Tryz.f206.name, by decide, Tryz.func206.trans (congrArg some (by kernel_rfl))⟩
  f14 := ⟨Tryz.f258.name, by decide, Tryz.func258.trans (congrArg some (by kernel_rfl))⟩
  f15 := Tryz.func152.trans (congrArg some (by kernel_rfl))
  f20 := ⟨Tryz.f289.name, by decide, Tryz.func289.trans (congrArg some (by kernel_rfl))⟩
  f21 := ⟨Tryz.f290.name, by decide, Tryz.func290.trans (congrArg some (by kernel_rfl))⟩
  f22 := ⟨Tryz.f291.name, by decide, Tryz.func291.trans (congrArg some (by kernel_rfl))⟩
  f23 := ⟨Tryz.f292.name, by decide, Tryz.func292.trans (congrArg some (by kernel_rfl))⟩
  f24 := ⟨Tryz.f293.name, by decide, Tryz.func293.trans (congrArg some (by kernel_rfl))⟩
  f25 := ⟨Tryz.f294.name, by decide, Tryz.func294.trans (congrArg some (by kernel_rfl))⟩
  f26 := ⟨Tryz.f295.name, by decide, Tryz.func295.trans (congrArg some (by kernel_rfl))⟩
  f27 := ⟨Tryz.f296.name, by decide, Tryz.func296.trans (congrArg some (by kernel_rfl))⟩
  f28 := Tryz.func219.trans (congrArg some (by kernel_rfl))
  f29 := Tryz.func220.trans (congrArg some (by kernel_rfl))
  f46 := ⟨Tryz.f318.name, by decide, Tryz.func318.trans (congrArg some (by kernel_rfl))⟩
  f47 := Tryz.func261.trans (congrArg some (by kernel_rfl))
  f48 := Tryz.func262.trans (congrArg some (by kernel_rfl))
  f49 := ⟨Tryz.f319.name, by decide, Tryz.func319.trans (congrArg some (by kernel_rfl))⟩
  f50 := ⟨Tryz.f320.name, by decide, Tryz.func320.trans (congrArg some (by kernel_rfl))⟩
  f57 := ⟨Tryz.f334.name, by decide, Tryz.func334.trans (congrArg some (by kernel_rfl))⟩
  t0 := Tryz.underlying0
  a0 := Tryz.isAgg0
  z0 := Tryz.sizeOf0
  v0 := Tryz.zeroValue0
  t3 := Tryz.underlying3
  a3 := Tryz.isAgg3
  z3 := Tryz.sizeOf3
  v3 := Tryz.zeroValue3
  t4 := Tryz.underlying4
  a4 := Tryz.isAgg4
  z4 := Tryz.sizeOf4
  v4 := Tryz.zeroValue4
  t5 := Tryz.underlying5
  a5 := Tryz.isAgg5
  z5 := Tryz.sizeOf5
  v5 := Tryz.zeroValue5
  t9 := Tryz.underlying9
  a9 := Tryz.isAgg9
  z9 := Tryz.sizeOf9
  v9 := Tryz.zeroValue9
  t22 := Tryz.underlying106
  a22 := Tryz.isAgg106
  z22 := Tryz.sizeOf106
  v22 := Tryz.zeroValue106
  t25 := Tryz.underlying286
  a25 := Tryz.isAgg286
  z25 := Tryz.sizeOf286
  v25 := Tryz.zeroValue286
  t39 := Tryz.underlying216
  a39 := Tryz.isAgg216
  z39 := Tryz.sizeOf216
  v39 := Tryz.zeroValue216
  t45 := Tryz.underlying290
  a45 := Tryz.isAgg290
  z45 := Tryz.sizeOf290
  v45 := Tryz.zeroValue290
  t46 := Tryz.underlying291
  a46 := Tryz.isAgg291
  z46 := Tryz.sizeOf291
  v46 := Tryz.zeroValue291
  t50 := Tryz.underlying156
  a50 := Tryz.isAgg156
  z50 := Tryz.sizeOf156
  v50 := Tryz.zeroValue156
  t53 := Tryz.underlying87
  a53 := Tryz.isAgg87
  z53 := Tryz.sizeOf87
  v53 := Tryz.zeroValue87
  t55 := Tryz.underlying298
  a55 := Tryz.isAgg298
  z55 := Tryz.sizeOf298
  v55 := Tryz.zeroValue298
  t66 := Tryz.underlying342
  a66 := Tryz.isAgg342
  z66 := Tryz.sizeOf342
  v66 := Tryz.zeroValue342
  t70 := Tryz.underlying346
  a70 := Tryz.isAgg346
  z70 := Tryz.sizeOf346
  v70 := Tryz.zeroValue346
  t76 := Tryz.underlying372
  a76 := Tryz.isAgg372
  z76 := Tryz.sizeOf372
  v76 := Tryz.zeroValue372
  t77 := Tryz.underlying373
  a77 := Tryz.isAgg373
  z77 := Tryz.sizeOf373
  v77 := Tryz.zeroValue373 }
end Go.Proofs
