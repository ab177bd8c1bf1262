/-
  DERIVED: THE SHELF's CONTRACTS AT THIS DUMP, IN PLAIN WORDS (tools/lay-plain.mjs out of 'YtckblcfkajpofaaGreatDoorLaySoTmp.lean', which tools/lay-shelf.mjs wrote): THE SAME DECLARATIONS UNDER THE SAME NAMES: 'import', 'namespace', 'open', 'def', 'theorem' AND NOTHING ELSE: no command of the shelf's: FOR A HAND-IN. Each laying: the table of numbers ('.._ren') and one theorem, a field a fact of the dump's own or the kernel's comparison; each contract: ONE APPLICATION.
-/
import Derived.Shelf.Sort.Plain
import Derived.Shelf.Slices.In.SortNone
import Derived.Ground.NamesProg
import Derived.Test.YtckblcfkajpofaaGreatDoorProg
namespace Go.Proofs
open Go.Shelf
def Tryz.laysSort_ren : Go.Shelf.Ren := ⟨fun | 190 => 227 | 125 => 288 | 258 => 287 | 128 => 318 | 129 => 231 | 302 => 309 | 303 => 310 | 304 => 311 | 305 => 312 | 306 => 313 | 307 => 314 | 308 => 315 | 309 => 316 | 310 => 317 | 333 => 328 | 329 => 329 | 330 => 330 | 334 => 331 | 335 => 332 | 336 => 333 | 344 => 338 | n => n, fun | 31 => 35 | 9 => 9 | 3 => 3 | 46 => 249 | 0 => 0 | 51 => 325 | 53 => 22 | 4 => 4 | 183 => 319 | 182 => 318 | 131 => 305 | 5 => 5 | 218 => 336 | 222 => 339 | 228 => 346 | 229 => 347 | n => n, fun | n => n⟩
theorem Tryz.laysSort : Go.Proofs.Lays.n190 Tryz.prog Tryz.laysSort_ren := {
  mixed := by kernel_rfl
  f125 := Tryz.func288.trans (congrArg some (by kernel_rfl))
  f128 := Tryz.func318.trans (congrArg some (by kernel_rfl))
  f129 := Tryz.func231.trans (congrArg some (by kernel_rfl))
  f190 := Tryz.func227.trans (congrArg some (by kernel_rfl))
  f258 := Tryz.func287.trans (congrArg some (by kernel_rfl))
  f302 := Tryz.func309.trans (congrArg some (by kernel_rfl))
  f303 := Tryz.func310.trans (congrArg some (by kernel_rfl))
  f304 := Tryz.func311.trans (congrArg some (by kernel_rfl))
  f305 := Tryz.func312.trans (congrArg some (by kernel_rfl))
  f306 := Tryz.func313.trans (congrArg some (by kernel_rfl))
  f307 := Tryz.func314.trans (congrArg some (by kernel_rfl))
  f308 := Tryz.func315.trans (congrArg some (by kernel_rfl))
  f309 := Tryz.func316.trans (congrArg some (by kernel_rfl))
  f310 := Tryz.func317.trans (congrArg some (by kernel_rfl))
  f329 := Tryz.func329.trans (congrArg some (by kernel_rfl))
  f330 := Tryz.func330.trans (congrArg some (by kernel_rfl))
  f333 := Tryz.func328.trans (congrArg some (by kernel_rfl))
  f334 := Tryz.func331.trans (congrArg some (by kernel_rfl))
  f335 := Tryz.func332.trans (congrArg some (by kernel_rfl))
  f336 := Tryz.func333.trans (congrArg some (by kernel_rfl))
  f344 := Tryz.func338.trans (congrArg some (by kernel_rfl))
  t0 := Tryz.underlying0
  a0 := Tryz.isAgg0
  z0 := Tryz.sizeOf0
  v0 := Tryz.zeroValue0
  t3 := Tryz.underlying3
  a3 := Tryz.isAgg3
  z3 := Tryz.sizeOf3
  v3 := Tryz.zeroValue3
  t4 := Tryz.underlying4
  a4 := Tryz.isAgg4
  z4 := Tryz.sizeOf4
  v4 := Tryz.zeroValue4
  t5 := Tryz.underlying5
  a5 := Tryz.isAgg5
  z5 := Tryz.sizeOf5
  v5 := Tryz.zeroValue5
  t9 := Tryz.underlying9
  a9 := Tryz.isAgg9
  z9 := Tryz.sizeOf9
  v9 := Tryz.zeroValue9
  t31 := Tryz.underlying35
  a31 := Tryz.isAgg35
  z31 := Tryz.sizeOf35
  v31 := Tryz.zeroValue35
  t46 := Tryz.underlying249
  a46 := Tryz.isAgg249
  z46 := Tryz.sizeOf249
  v46 := Tryz.zeroValue249
  t51 := Tryz.underlying325
  a51 := Tryz.isAgg325
  z51 := Tryz.sizeOf325
  v51 := Tryz.zeroValue325
  t53 := Tryz.underlying22
  a53 := Tryz.isAgg22
  z53 := Tryz.sizeOf22
  v53 := Tryz.zeroValue22
  t131 := Tryz.underlying305
  a131 := Tryz.isAgg305
  z131 := Tryz.sizeOf305
  v131 := Tryz.zeroValue305
  t182 := Tryz.underlying318
  a182 := Tryz.isAgg318
  z182 := Tryz.sizeOf318
  v182 := Tryz.zeroValue318
  t183 := Tryz.underlying319
  a183 := Tryz.isAgg319
  z183 := Tryz.sizeOf319
  v183 := Tryz.zeroValue319
  t218 := Tryz.underlying336
  a218 := Tryz.isAgg336
  z218 := Tryz.sizeOf336
  v218 := Tryz.zeroValue336
  t222 := Tryz.underlying339
  a222 := Tryz.isAgg339
  z222 := Tryz.sizeOf339
  v222 := Tryz.zeroValue339
  t228 := Tryz.underlying346
  a228 := Tryz.isAgg346
  z228 := Tryz.sizeOf346
  v228 := Tryz.zeroValue346
  t229 := Tryz.underlying347
  a229 := Tryz.isAgg347
  z229 := Tryz.sizeOf347
  v229 := Tryz.zeroValue347 }
end Go.Proofs
