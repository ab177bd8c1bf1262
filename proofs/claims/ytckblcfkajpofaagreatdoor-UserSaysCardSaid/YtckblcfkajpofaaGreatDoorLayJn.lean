/-
  DERIVED: THE SHELF's CONTRACTS AT THIS DUMP, IN PLAIN WORDS (tools/lay-plain.mjs out of 'YtckblcfkajpofaaGreatDoorLayJnTmp.lean', which tools/lay-shelf.mjs wrote): THE SAME DECLARATIONS UNDER THE SAME NAMES: 'import', 'namespace', 'open', 'def', 'theorem' AND NOTHING ELSE: no command of the shelf's: FOR A HAND-IN. Each laying: the table of numbers ('.._ren') and one theorem, a field a fact of the dump's own or the kernel's comparison; each contract: ONE APPLICATION.
-/
import Derived.Shelf.Strings.OnBuilder
import Derived.Ground.NamesProg
import Derived.Test.YtckblcfkajpofaaGreatDoorProg
namespace Go.Proofs
open Go.Shelf
def Tryz.laysJoin_ren : Go.Shelf.Ren := ⟨fun | 156 => 289 | 165 => 319 | 166 => 320 | 169 => 321 | 240 => 334 | 241 => 335 | 276 => 339 | 277 => 340 | n => n, fun | 31 => 35 | 9 => 9 | 3 => 3 | 4 => 4 | 0 => 0 | 20 => 20 | 72 => 328 | 76 => 332 | 70 => 326 | 37 => 89 | 75 => 331 | 127 => 341 | 164 => 349 | 5 => 5 | 80 => 31 | n => n, fun | n => n⟩
theorem Tryz.laysJoin : Go.Proofs.Lays.n156 Tryz.prog Tryz.laysJoin_ren := {
  mixed := by kernel_rfl
  f156 := Tryz.func289.trans (congrArg some (by kernel_rfl))
  f165 := Tryz.func319.trans (congrArg some (by kernel_rfl))
  f166 := Tryz.func320.trans (congrArg some (by kernel_rfl))
  f169 := Tryz.func321.trans (congrArg some (by kernel_rfl))
  f240 := Tryz.func334.trans (congrArg some (by kernel_rfl))
  f241 := Tryz.func335.trans (congrArg some (by kernel_rfl))
  f276 := Tryz.func339.trans (congrArg some (by kernel_rfl))
  f277 := Tryz.func340.trans (congrArg some (by kernel_rfl))
  t0 := Tryz.underlying0
  a0 := Tryz.isAgg0
  z0 := Tryz.sizeOf0
  v0 := Tryz.zeroValue0
  t3 := Tryz.underlying3
  a3 := Tryz.isAgg3
  z3 := Tryz.sizeOf3
  v3 := Tryz.zeroValue3
  t4 := Tryz.underlying4
  a4 := Tryz.isAgg4
  z4 := Tryz.sizeOf4
  v4 := Tryz.zeroValue4
  t9 := Tryz.underlying9
  a9 := Tryz.isAgg9
  z9 := Tryz.sizeOf9
  v9 := Tryz.zeroValue9
  t20 := Tryz.underlying20
  a20 := Tryz.isAgg20
  z20 := Tryz.sizeOf20
  v20 := Tryz.zeroValue20
  t31 := Tryz.underlying35
  a31 := Tryz.isAgg35
  z31 := Tryz.sizeOf35
  v31 := Tryz.zeroValue35
  t37 := Tryz.underlying89
  a37 := Tryz.isAgg89
  z37 := Tryz.sizeOf89
  v37 := Tryz.zeroValue89
  t70 := Tryz.underlying326
  a70 := Tryz.isAgg326
  z70 := Tryz.sizeOf326
  v70 := Tryz.zeroValue326
  t72 := Tryz.underlying328
  a72 := Tryz.isAgg328
  z72 := Tryz.sizeOf328
  v72 := Tryz.zeroValue328
  t75 := Tryz.underlying331
  a75 := Tryz.isAgg331
  z75 := Tryz.sizeOf331
  v75 := Tryz.zeroValue331
  t76 := Tryz.underlying332
  a76 := Tryz.isAgg332
  z76 := Tryz.sizeOf332
  v76 := Tryz.zeroValue332
  t127 := Tryz.underlying341
  a127 := Tryz.isAgg341
  z127 := Tryz.sizeOf341
  v127 := Tryz.zeroValue341
  t164 := Tryz.underlying349
  a164 := Tryz.isAgg349
  z164 := Tryz.sizeOf349
  v164 := Tryz.zeroValue349 }
end Go.Proofs
