/- MetaEpochs: the closed facts of its row and its card. -/
import Derived.Test.YtckblcfkajpofaaGreatDoorTie
import Derived.Test.YtckblcfkajpofaaGreatDoorCards
import Derived.JoinedOf
import Derived.Test.YtckblcfkajpofaaGreatDoorZEnt
namespace Go.Proofs.YtckblcfkajpofaaGreatDoor.metaEpochs
set_option linter.unusedVariables false
set_option maxRecDepth 100000
theorem andT {a b : Bool} (h : a = true) (g : b = true) : (a && b) = true := by rw [h, g]; rfl
theorem named : Tryz.pinned.checked.prog.funcNamed Rows.metaEpochsRow.func = some 9 := by kernel_rfl
theorem k1 : Rows.metaEpochsRow.wf (OpenSpec.ofChange Rows.metaEpochsSpec) = true := by kernel_rfl
theorem k2 : laidOutB Tryz.pinned.checked.prog = true := by kernel_rfl
theorem k3 : mapsRowed Tryz.pinned.checked.prog = true := by kernel_rfl
theorem k4 : Tryz.f9.params.all (Tryz.pinned.checked.prog.readableRec ·) = true := by kernel_rfl
theorem k5 : namedTie Tryz.pinned.checked.prog Rows.metaEpochsRow.named Rows.metaEpochsSpec.vars = true := by kernel_rfl
theorem k6 : (Rows.metaEpochsRow.stops == []) = true := by kernel_rfl
theorem k7 : (Tryz.pinned.checked.prog.stops == []) = true := by kernel_rfl
theorem k8 : (Rows.metaEpochsRow.knobs == []) = true := by kernel_rfl
theorem k9 : (Tryz.pinned.checked.prog.stopKnobs == []) = true := by kernel_rfl
theorem k10 : (Rows.metaEpochsRow.inPlace == Tryz.pinned.checked.prog.inPlace 9) = true := by kernel_rfl
theorem k11 : (Rows.metaEpochsRow.unfollowed == Tryz.pinned.checked.prog.unfollowed 9) = true := by kernel_rfl
theorem k12 : (Rows.metaEpochsRow.recurses == Tryz.pinned.checked.prog.recurses 9) = true := by kernel_rfl
theorem k13 : (Rows.metaEpochsRow.named == Tryz.pinned.checked.prog.varsNamed 9) = true := by kernel_rfl
theorem k14 : (Rows.metaEpochsRow.maps == (Tryz.f9.params.toList ++ Rows.metaEpochsSpec.plain.varTypes Tryz.pinned.checked.prog).any (Tryz.pinned.checked.prog.mapsRec ·)) = true := by kernel_rfl
theorem k15 : (Rows.metaEpochsRow.ifaces == (Tryz.f9.params.toList ++ Rows.metaEpochsSpec.plain.varTypes Tryz.pinned.checked.prog).any (Tryz.pinned.checked.prog.ifacesRec ·)) = true := by kernel_rfl
theorem k16 : (Rows.metaEpochsRow.mapsOut == Tryz.pinned.checked.prog.mapsAmong Tryz.f9.resultTypes.toList) = true := by kernel_rfl
theorem k17 : (Rows.metaEpochsRow.loops == (Tryz.f9.params.toList ++ Rows.metaEpochsSpec.plain.varTypes Tryz.pinned.checked.prog).any (Tryz.pinned.checked.prog.loopsFrom ·)) = true := by kernel_rfl
theorem k18 : (Rows.metaEpochsRow.wideKeys == (Tryz.f9.params.toList ++ Rows.metaEpochsSpec.plain.varTypes Tryz.pinned.checked.prog ++ Tryz.f9.resultTypes.toList).any (Tryz.pinned.checked.prog.wideKeysFrom ·)) = true := by kernel_rfl
theorem k19 : Rows.metaEpochsSpec.vars.all (Tryz.pinned.checked.prog.varReadable ·) = true := by kernel_rfl
theorem k20 : Tryz.f9.resultTypes.all (fun t => Tryz.pinned.checked.prog.readableRec t && decide (t < Tryz.pinned.checked.prog.types.size)) = true := by kernel_rfl
theorem k21 : (Rows.metaEpochsRow.ifacesOut == Tryz.f9.resultTypes.toList.any (Tryz.pinned.checked.prog.ifacesRec ·)) = true := by kernel_rfl
theorem k22 : (Rows.metaEpochsRow.loopsOut == Tryz.f9.resultTypes.toList.any (Tryz.pinned.checked.prog.loopsFrom ·)) = true := by kernel_rfl
theorem k23 : (Rows.metaEpochsRow.plainKeys == Tryz.pinned.checked.prog.plainKeys) = true := by kernel_rfl
theorem k24 : Rows.metaEpochsRow.shortTexts.isNone = true := by kernel_rfl
theorem k25 : Tryz.pinned.checked.prog.stopsHeard = true := by kernel_rfl
theorem k26 : Tryz.pinned.checked.prog.mayEnter = true := mayEnter_this
theorem k27 : (Rows.metaEpochsRow.lifted == Tryz.pinned.checked.prog.liftsFinal) = true := by kernel_rfl
theorem k28 : (Tryz.pinned.checked.prog.make == some Rows.metaEpochsRow.make) = true := by kernel_rfl
theorem k29 : (Rows.metaEpochsRow.kinds == (if Rows.metaEpochsRow.domain.isEmpty then [] else Tryz.f9.params.toList.map fun t => match Tryz.pinned.checked.prog.underlying t with | some (.int k) => some k | _ => none)) = true := by kernel_rfl
theorem k30 : (Rows.metaEpochsRow.pinned == Rows.metaEpochsRow.pinnedBy) = true := by kernel_rfl
theorem k31 : (Rows.metaEpochsRow.veiled == (Tryz.f9.params.toList ++ Rows.metaEpochsSpec.plain.varTypes Tryz.pinned.checked.prog ++ Tryz.f9.resultTypes.toList).any (Tryz.pinned.checked.prog.veiledRec ·)) = true := by kernel_rfl
theorem k32 : Rows.metaEpochsRow.veiledFits Tryz.pinned.checked.prog Tryz.f9.params.toList (Tryz.f9.params.toList ++ Rows.metaEpochsSpec.plain.varTypes Tryz.pinned.checked.prog ++ Tryz.f9.resultTypes.toList) = true := by kernel_rfl
theorem closed : joinedFacts Tryz.pinned.checked.prog 9 Tryz.f9 Rows.metaEpochsSpec Rows.metaEpochsRow = true := (andT (andT (andT (andT (andT (andT (andT (andT (andT (andT (andT (andT (andT (andT (andT (andT (andT (andT (andT (andT (andT (andT (andT (andT (andT (andT (andT (andT (andT (andT (andT k1 k2) k3) k4) k5) k6) k7) k8) k9) k10) k11) k12) k13) k14) k15) k16) k17) k18) k19) k20) k21) k22) k23) k24) k25) k26) k27) k28) k29) k30) k31) k32)
theorem instances : Func.isInstance Tryz.pinned.checked.prog Tryz.f9 Rows.metaEpochsRow.origin Rows.metaEpochsRow.targs := of_decide_eq_true (by kernel_rfl)
theorem wfText : Rows.metaEpochsRow.wfByText (OpenSpec.ofChange Rows.metaEpochsSpec) = true := by kernel_rfl
theorem main : Tryz.pinned.checked.prog.mainIs = some ((true, "e9414ad5a2084fd5440ff1748876c9e8780747e27cf36968c8e2823baace9633").1, (true, "e9414ad5a2084fd5440ff1748876c9e8780747e27cf36968c8e2823baace9633").2.toList) := by kernel_rfl
theorem goes : false = Rows.metaEpochsRow.goesBy Tryz.pinned.checked.prog := by kernel_rfl
theorem looks : true = Tryz.pinned.checked.prog.looks [] := by kernel_rfl
end Go.Proofs.YtckblcfkajpofaaGreatDoor.metaEpochs
