/-
  DERIVED: THE SHELF's CONTRACTS AT THIS DUMP, IN PLAIN WORDS (tools/lay-plain.mjs out of 'YtgacfkenndhcnaaDoorLayInTmp.lean', which tools/lay-shelf.mjs wrote): THE SAME DECLARATIONS UNDER THE SAME NAMES: 'import', 'namespace', 'open', 'def', 'theorem' AND NOTHING ELSE: no command of the shelf's: FOR A HAND-IN. Each laying: the table of numbers ('.._ren') and one theorem, a field a fact of the dump's own or the kernel's comparison; each contract: ONE APPLICATION.
-/
import Derived.Shelf.Spec.SlicesInsertGrow
import Derived.Ground.Names2Prog
import Derived.Test.YtgacfkenndhcnaaDoorProg
namespace Go.Proofs
open Go.Shelf
def Tryd.laysIns_ren : Go.Shelf.Ren := ⟨fun | 22 => 50 | 29 => 57 | 30 => 58 | 36 => 64 | 17 => 66 | n => n, fun | 24 => 33 | 9 => 9 | 3 => 3 | 4 => 4 | 0 => 0 | n => n, fun | n => n⟩
theorem Tryd.laysIns : Go.Proofs.Lays2.n22 Tryd.prog Tryd.laysIns_ren := {
  mixed := by kernel_rfl
  f17 := Tryd.func66.trans (congrArg some (by kernel_rfl))
  f22 := Tryd.func50.trans (congrArg some (by kernel_rfl))
  f29 := Tryd.func57.trans (congrArg some (by kernel_rfl))
  f30 := Tryd.func58.trans (congrArg some (by kernel_rfl))
  f36 := Tryd.func64.trans (congrArg some (by kernel_rfl))
  t0 := Tryd.underlying0
  a0 := Tryd.isAgg0
  z0 := Tryd.sizeOf0
  v0 := Tryd.zeroValue0
  t3 := Tryd.underlying3
  a3 := Tryd.isAgg3
  z3 := Tryd.sizeOf3
  v3 := Tryd.zeroValue3
  t4 := Tryd.underlying4
  a4 := Tryd.isAgg4
  z4 := Tryd.sizeOf4
  v4 := Tryd.zeroValue4
  t9 := Tryd.underlying9
  a9 := Tryd.isAgg9
  z9 := Tryd.sizeOf9
  v9 := Tryd.zeroValue9
  t24 := Tryd.underlying33
  a24 := Tryd.isAgg33
  z24 := Tryd.sizeOf33
  v24 := Tryd.zeroValue33
  i9 := by kernel_rfl }
end Go.Proofs
