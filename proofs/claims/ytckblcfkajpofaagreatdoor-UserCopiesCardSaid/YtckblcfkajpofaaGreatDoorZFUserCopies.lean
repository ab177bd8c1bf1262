/- UserCopies: the closed facts of its row and its card. -/
import Derived.Test.YtckblcfkajpofaaGreatDoorTie
import Derived.Test.YtckblcfkajpofaaGreatDoorCards
import Derived.JoinedOf
import Derived.Test.YtckblcfkajpofaaGreatDoorZEnt
namespace Go.Proofs.YtckblcfkajpofaaGreatDoor.userCopies
set_option linter.unusedVariables false
set_option maxRecDepth 100000
theorem andT {a b : Bool} (h : a = true) (g : b = true) : (a && b) = true := by rw [h, g]; rfl
theorem named : Tryz.pinned.checked.prog.funcNamed Rows.userCopiesRow.func = some 13 := by kernel_rfl
theorem k1 : Rows.userCopiesRow.wf (OpenSpec.ofChange Rows.userCopiesSpec) = true := by kernel_rfl
theorem k2 : laidOutB Tryz.pinned.checked.prog = true := by kernel_rfl
theorem k3 : mapsRowed Tryz.pinned.checked.prog = true := by kernel_rfl
theorem k4 : Tryz.f13.params.all (Tryz.pinned.checked.prog.readableRec ·) = true := by kernel_rfl
theorem k5 : namedTie Tryz.pinned.checked.prog Rows.userCopiesRow.named Rows.userCopiesSpec.vars = true := by kernel_rfl
theorem k6 : (Rows.userCopiesRow.stops == []) = true := by kernel_rfl
theorem k7 : (Tryz.pinned.checked.prog.stops == []) = true := by kernel_rfl
theorem k8 : (Rows.userCopiesRow.knobs == []) = true := by kernel_rfl
theorem k9 : (Tryz.pinned.checked.prog.stopKnobs == []) = true := by kernel_rfl
theorem k10 : (Rows.userCopiesRow.inPlace == Tryz.pinned.checked.prog.inPlace 13) = true := by kernel_rfl
theorem k11 : (Rows.userCopiesRow.unfollowed == Tryz.pinned.checked.prog.unfollowed 13) = true := by kernel_rfl
theorem k12 : (Rows.userCopiesRow.recurses == Tryz.pinned.checked.prog.recurses 13) = true := by kernel_rfl
theorem k13 : (Rows.userCopiesRow.named == Tryz.pinned.checked.prog.varsNamed 13) = true := by kernel_rfl
theorem k14 : (Rows.userCopiesRow.maps == (Tryz.f13.params.toList ++ Rows.userCopiesSpec.plain.varTypes Tryz.pinned.checked.prog).any (Tryz.pinned.checked.prog.mapsRec ·)) = true := by kernel_rfl
theorem k15 : (Rows.userCopiesRow.ifaces == (Tryz.f13.params.toList ++ Rows.userCopiesSpec.plain.varTypes Tryz.pinned.checked.prog).any (Tryz.pinned.checked.prog.ifacesRec ·)) = true := by kernel_rfl
theorem k16 : (Rows.userCopiesRow.mapsOut == Tryz.pinned.checked.prog.mapsAmong Tryz.f13.resultTypes.toList) = true := by kernel_rfl
theorem k17 : (Rows.userCopiesRow.loops == (Tryz.f13.params.toList ++ Rows.userCopiesSpec.plain.varTypes Tryz.pinned.checked.prog).any (Tryz.pinned.checked.prog.loopsFrom ·)) = true := by kernel_rfl
theorem k18 : (Rows.userCopiesRow.wideKeys == (Tryz.f13.params.toList ++ Rows.userCopiesSpec.plain.varTypes Tryz.pinned.checked.prog ++ Tryz.f13.resultTypes.toList).any (Tryz.pinned.checked.prog.wideKeysFrom ·)) = true := by kernel_rfl
theorem k19 : Rows.userCopiesSpec.vars.all (Tryz.pinned.checked.prog.varReadable ·) = true := by kernel_rfl
theorem k20 : Tryz.f13.resultTypes.all (fun t => Tryz.pinned.checked.prog.readableRec t && decide (t < Tryz.pinned.checked.prog.types.size)) = true := by kernel_rfl
theorem k21 : (Rows.userCopiesRow.ifacesOut == Tryz.f13.resultTypes.toList.any (Tryz.pinned.checked.prog.ifacesRec ·)) = true := by kernel_rfl
theorem k22 : (Rows.userCopiesRow.loopsOut == Tryz.f13.resultTypes.toList.any (Tryz.pinned.checked.prog.loopsFrom ·)) = true := by kernel_rfl
theorem k23 : (Rows.userCopiesRow.plainKeys == Tryz.pinned.checked.prog.plainKeys) = true := by kernel_rfl
theorem k24 : Rows.userCopiesRow.shortTexts.isNone = true := by kernel_rfl
theorem k25 : Tryz.pinned.checked.prog.stopsHeard = true := by kernel_rfl
theorem k26 : Tryz.pinned.checked.prog.mayEnter = true := mayEnter_this
theorem k27 : (Rows.userCopiesRow.lifted == Tryz.pinned.checked.prog.liftsFinal) = true := by kernel_rfl
theorem k28 : (Tryz.pinned.checked.prog.make == some Rows.userCopiesRow.make) = true := by kernel_rfl
theorem k29 : (Rows.userCopiesRow.kinds == (if Rows.userCopiesRow.domain.isEmpty then [] else Tryz.f13.params.toList.map fun t => match Tryz.pinned.checked.prog.underlying t with | some (.int k) => some k | _ => none)) = true := by kernel_rfl
theorem k30 : (Rows.userCopiesRow.pinned == Rows.userCopiesRow.pinnedBy) = true := by kernel_rfl
theorem k31 : (Rows.userCopiesRow.veiled == (Tryz.f13.params.toList ++ Rows.userCopiesSpec.plain.varTypes Tryz.pinned.checked.prog ++ Tryz.f13.resultTypes.toList).any (Tryz.pinned.checked.prog.veiledRec ·)) = true := by kernel_rfl
theorem k32 : Rows.userCopiesRow.veiledFits Tryz.pinned.checked.prog Tryz.f13.params.toList (Tryz.f13.params.toList ++ Rows.userCopiesSpec.plain.varTypes Tryz.pinned.checked.prog ++ Tryz.f13.resultTypes.toList) = true := by kernel_rfl
theorem closed : joinedFacts Tryz.pinned.checked.prog 13 Tryz.f13 Rows.userCopiesSpec Rows.userCopiesRow = true := (andT (andT (andT (andT (andT (andT (andT (andT (andT (andT (andT (andT (andT (andT (andT (andT (andT (andT (andT (andT (andT (andT (andT (andT (andT (andT (andT (andT (andT (andT (andT k1 k2) k3) k4) k5) k6) k7) k8) k9) k10) k11) k12) k13) k14) k15) k16) k17) k18) k19) k20) k21) k22) k23) k24) k25) k26) k27) k28) k29) k30) k31) k32)
theorem instances : Func.isInstance Tryz.pinned.checked.prog Tryz.f13 Rows.userCopiesRow.origin Rows.userCopiesRow.targs := of_decide_eq_true (by kernel_rfl)
theorem wfText : Rows.userCopiesRow.wfByText (OpenSpec.ofChange Rows.userCopiesSpec) = true := by kernel_rfl
theorem main : Tryz.pinned.checked.prog.mainIs = some ((true, "e9414ad5a2084fd5440ff1748876c9e8780747e27cf36968c8e2823baace9633").1, (true, "e9414ad5a2084fd5440ff1748876c9e8780747e27cf36968c8e2823baace9633").2.toList) := by kernel_rfl
theorem goes : false = Rows.userCopiesRow.goesBy Tryz.pinned.checked.prog := by kernel_rfl
theorem looks : true = Tryz.pinned.checked.prog.looks [] := by kernel_rfl
end Go.Proofs.YtckblcfkajpofaaGreatDoor.userCopies
