/- may the program be entered: by parts. -/
import Derived.Test.YtgacfkenndhcnaaDoorRows
import Derived.JoinedOf
namespace Go.Proofs.YtgacfkenndhcnaaDoor
open Go
set_option linter.unusedVariables false
set_option maxRecDepth 100000
theorem mayEnter_plain {P : Program} (h1 : ((stripLifts liftWords (behindMainWord (wordsSigns P.initOrder.toList))).2.head? == some "cut".toList) = true) (h0 : (stripLifts liftWords (behindMainWord (wordsSigns P.initOrder.toList))).1 = [])
    (h3 : P.laysLater = false) (h4 : P.bearsReflect = false) (h6 : (P.doorRows.any fun n => ["(look 8)", "(look 8, test files too)", "(list 7)", "(look 7)"].any (endsIn · n)) = false) : P.mayEnter = true := by
  unfold Program.mayEnter
  cases hl : behindMainWord (wordsSigns P.initOrder.toList) with
  | nil => rw [hl] at h1; cases h1
  | cons c rest =>
    rw [hl] at h1 h0
    simp only [h1, h0, h3, h4]
    have hd : P.doorFits [] = true := by
      unfold Program.doorFits
      simp only [h6]
      simp
    simp [hd]
theorem enter1 : ((stripLifts liftWords (behindMainWord (wordsSigns Tryd.prog.initOrder.toList))).2.head? == some "cut".toList) = true := by kernel_rfl
theorem enter0 : (stripLifts liftWords (behindMainWord (wordsSigns Tryd.prog.initOrder.toList))).1 = [] := by kernel_rfl
theorem enter3 : Tryd.prog.laysLater = false := by kernel_rfl
theorem enter4 : Tryd.prog.bearsReflect = false := by kernel_rfl
theorem enter6 : (Tryd.prog.doorRows.any fun n => ["(look 8)", "(look 8, test files too)", "(list 7)", "(look 7)"].any (endsIn · n)) = false := by kernel_rfl
theorem mayEnter_this : Tryd.prog.mayEnter = true := mayEnter_plain enter1 enter0 enter3 enter4 enter6
end Go.Proofs.YtgacfkenndhcnaaDoor
