/- MetaBack: the closed facts of its row and its card. -/
import Derived.Test.YtckblcfkajpofaaGreatDoorTie
import Derived.Test.YtckblcfkajpofaaGreatDoorCards
import Derived.JoinedOf
import Derived.Test.YtckblcfkajpofaaGreatDoorZEnt
namespace Go.Proofs.YtckblcfkajpofaaGreatDoor.metaBack
set_option linter.unusedVariables false
set_option maxRecDepth 100000
theorem andT {a b : Bool} (h : a = true) (g : b = true) : (a && b) = true := by rw [h, g]; rfl
theorem named : Tryz.pinned.checked.prog.funcNamed Rows.metaBackRow.func = some 6 := by kernel_rfl
theorem k1 : Rows.metaBackRow.wf (OpenSpec.ofChange Rows.metaBackSpec) = true := by kernel_rfl
theorem k2 : laidOutB Tryz.pinned.checked.prog = true := by kernel_rfl
theorem k3 : mapsRowed Tryz.pinned.checked.prog = true := by kernel_rfl
theorem k4 : Tryz.f6.params.all (Tryz.pinned.checked.prog.readableRec ·) = true := by kernel_rfl
theorem k5 : namedTie Tryz.pinned.checked.prog Rows.metaBackRow.named Rows.metaBackSpec.vars = true := by kernel_rfl
theorem k6 : (Rows.metaBackRow.stops == []) = true := by kernel_rfl
theorem k7 : (Tryz.pinned.checked.prog.stops == []) = true := by kernel_rfl
theorem k8 : (Rows.metaBackRow.knobs == []) = true := by kernel_rfl
theorem k9 : (Tryz.pinned.checked.prog.stopKnobs == []) = true := by kernel_rfl
theorem k10 : (Rows.metaBackRow.inPlace == Tryz.pinned.checked.prog.inPlace 6) = true := by kernel_rfl
theorem k11 : (Rows.metaBackRow.unfollowed == Tryz.pinned.checked.prog.unfollowed 6) = true := by kernel_rfl
theorem k12 : (Rows.metaBackRow.recurses == Tryz.pinned.checked.prog.recurses 6) = true := by kernel_rfl
theorem k13 : (Rows.metaBackRow.named == Tryz.pinned.checked.prog.varsNamed 6) = true := by kernel_rfl
theorem k14 : (Rows.metaBackRow.maps == (Tryz.f6.params.toList ++ Rows.metaBackSpec.plain.varTypes Tryz.pinned.checked.prog).any (Tryz.pinned.checked.prog.mapsRec ·)) = true := by kernel_rfl
theorem k15 : (Rows.metaBackRow.ifaces == (Tryz.f6.params.toList ++ Rows.metaBackSpec.plain.varTypes Tryz.pinned.checked.prog).any (Tryz.pinned.checked.prog.ifacesRec ·)) = true := by kernel_rfl
theorem k16 : (Rows.metaBackRow.mapsOut == Tryz.pinned.checked.prog.mapsAmong Tryz.f6.resultTypes.toList) = true := by kernel_rfl
theorem k17 : (Rows.metaBackRow.loops == (Tryz.f6.params.toList ++ Rows.metaBackSpec.plain.varTypes Tryz.pinned.checked.prog).any (Tryz.pinned.checked.prog.loopsFrom ·)) = true := by kernel_rfl
theorem k18 : (Rows.metaBackRow.wideKeys == (Tryz.f6.params.toList ++ Rows.metaBackSpec.plain.varTypes Tryz.pinned.checked.prog ++ Tryz.f6.resultTypes.toList).any (Tryz.pinned.checked.prog.wideKeysFrom ·)) = true := by kernel_rfl
theorem k19 : Rows.metaBackSpec.vars.all (Tryz.pinned.checked.prog.varReadable ·) = true := by kernel_rfl
theorem k20 : Tryz.f6.resultTypes.all (fun t => Tryz.pinned.checked.prog.readableRec t && decide (t < Tryz.pinned.checked.prog.types.size)) = true := by kernel_rfl
theorem k21 : (Rows.metaBackRow.ifacesOut == Tryz.f6.resultTypes.toList.any (Tryz.pinned.checked.prog.ifacesRec ·)) = true := by kernel_rfl
theorem k22 : (Rows.metaBackRow.loopsOut == Tryz.f6.resultTypes.toList.any (Tryz.pinned.checked.prog.loopsFrom ·)) = true := by kernel_rfl
theorem k23 : (Rows.metaBackRow.plainKeys == Tryz.pinned.checked.prog.plainKeys) = true := by kernel_rfl
theorem k24 : Rows.metaBackRow.shortTexts.isNone = true := by kernel_rfl
theorem k25 : Tryz.pinned.checked.prog.stopsHeard = true := by kernel_rfl
theorem k26 : Tryz.pinned.checked.prog.mayEnter = true := mayEnter_this
theorem k27 : (Rows.metaBackRow.lifted == Tryz.pinned.checked.prog.liftsFinal) = true := by kernel_rfl
theorem k28 : (Tryz.pinned.checked.prog.make == some Rows.metaBackRow.make) = true := by kernel_rfl
theorem k29 : (Rows.metaBackRow.kinds == (if Rows.metaBackRow.domain.isEmpty then [] else Tryz.f6.params.toList.map fun t => match Tryz.pinned.checked.prog.underlying t with | some (.int k) => some k | _ => none)) = true := by kernel_rfl
theorem k30 : (Rows.metaBackRow.pinned == Rows.metaBackRow.pinnedBy) = true := by kernel_rfl
theorem k31 : (Rows.metaBackRow.veiled == (Tryz.f6.params.toList ++ Rows.metaBackSpec.plain.varTypes Tryz.pinned.checked.prog ++ Tryz.f6.resultTypes.toList).any (Tryz.pinned.checked.prog.veiledRec ·)) = true := by kernel_rfl
theorem k32 : Rows.metaBackRow.veiledFits Tryz.pinned.checked.prog Tryz.f6.params.toList (Tryz.f6.params.toList ++ Rows.metaBackSpec.plain.varTypes Tryz.pinned.checked.prog ++ Tryz.f6.resultTypes.toList) = true := by kernel_rfl
theorem closed : joinedFacts Tryz.pinned.checked.prog 6 Tryz.f6 Rows.metaBackSpec Rows.metaBackRow = true := (andT (andT (andT (andT (andT (andT (andT (andT (andT (andT (andT (andT (andT (andT (andT (andT (andT (andT (andT (andT (andT (andT (andT (andT (andT (andT (andT (andT (andT (andT (andT k1 k2) k3) k4) k5) k6) k7) k8) k9) k10) k11) k12) k13) k14) k15) k16) k17) k18) k19) k20) k21) k22) k23) k24) k25) k26) k27) k28) k29) k30) k31) k32)
theorem instances : Func.isInstance Tryz.pinned.checked.prog Tryz.f6 Rows.metaBackRow.origin Rows.metaBackRow.targs := of_decide_eq_true (by kernel_rfl)
theorem wfText : Rows.metaBackRow.wfByText (OpenSpec.ofChange Rows.metaBackSpec) = true := by kernel_rfl
theorem main : Tryz.pinned.checked.prog.mainIs = some ((true, "e9414ad5a2084fd5440ff1748876c9e8780747e27cf36968c8e2823baace9633").1, (true, "e9414ad5a2084fd5440ff1748876c9e8780747e27cf36968c8e2823baace9633").2.toList) := by kernel_rfl
theorem goes : false = Rows.metaBackRow.goesBy Tryz.pinned.checked.prog := by kernel_rfl
theorem looks : true = Tryz.pinned.checked.prog.looks [] := by kernel_rfl
end Go.Proofs.YtckblcfkajpofaaGreatDoor.metaBack
