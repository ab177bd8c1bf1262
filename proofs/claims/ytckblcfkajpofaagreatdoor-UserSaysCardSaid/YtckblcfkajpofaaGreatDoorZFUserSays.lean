/- UserSays: the closed facts of its row and its card. -/
import Derived.Test.YtckblcfkajpofaaGreatDoorTie
import Derived.Test.YtckblcfkajpofaaGreatDoorCards
import Derived.JoinedOf
import Derived.Test.YtckblcfkajpofaaGreatDoorZEnt
namespace Go.Proofs.YtckblcfkajpofaaGreatDoor.userSays
set_option linter.unusedVariables false
set_option maxRecDepth 100000
theorem andT {a b : Bool} (h : a = true) (g : b = true) : (a && b) = true := by rw [h, g]; rfl
theorem named : Tryz.pinned.checked.prog.funcNamed Rows.userSaysRow.func = some 16 := by kernel_rfl
theorem k1 : Rows.userSaysRow.wf (OpenSpec.ofChange Rows.userSaysSpec) = true := by kernel_rfl
theorem k2 : laidOutB Tryz.pinned.checked.prog = true := by kernel_rfl
theorem k3 : mapsRowed Tryz.pinned.checked.prog = true := by kernel_rfl
theorem k4 : Tryz.f16.params.all (Tryz.pinned.checked.prog.readableRec ·) = true := by kernel_rfl
theorem k5 : namedTie Tryz.pinned.checked.prog Rows.userSaysRow.named Rows.userSaysSpec.vars = true := by kernel_rfl
theorem k6 : (Rows.userSaysRow.stops == []) = true := by kernel_rfl
theorem k7 : (Tryz.pinned.checked.prog.stops == []) = true := by kernel_rfl
theorem k8 : (Rows.userSaysRow.knobs == []) = true := by kernel_rfl
theorem k9 : (Tryz.pinned.checked.prog.stopKnobs == []) = true := by kernel_rfl
theorem k10 : (Rows.userSaysRow.inPlace == Tryz.pinned.checked.prog.inPlace 16) = true := by kernel_rfl
theorem k11 : (Rows.userSaysRow.unfollowed == Tryz.pinned.checked.prog.unfollowed 16) = true := by kernel_rfl
theorem k12 : (Rows.userSaysRow.recurses == Tryz.pinned.checked.prog.recurses 16) = true := by kernel_rfl
theorem k13 : (Rows.userSaysRow.named == Tryz.pinned.checked.prog.varsNamed 16) = true := by kernel_rfl
theorem k14 : (Rows.userSaysRow.maps == (Tryz.f16.params.toList ++ Rows.userSaysSpec.plain.varTypes Tryz.pinned.checked.prog).any (Tryz.pinned.checked.prog.mapsRec ·)) = true := by kernel_rfl
theorem k15 : (Rows.userSaysRow.ifaces == (Tryz.f16.params.toList ++ Rows.userSaysSpec.plain.varTypes Tryz.pinned.checked.prog).any (Tryz.pinned.checked.prog.ifacesRec ·)) = true := by kernel_rfl
theorem k16 : (Rows.userSaysRow.mapsOut == Tryz.pinned.checked.prog.mapsAmong Tryz.f16.resultTypes.toList) = true := by kernel_rfl
theorem k17 : (Rows.userSaysRow.loops == (Tryz.f16.params.toList ++ Rows.userSaysSpec.plain.varTypes Tryz.pinned.checked.prog).any (Tryz.pinned.checked.prog.loopsFrom ·)) = true := by kernel_rfl
theorem k18 : (Rows.userSaysRow.wideKeys == (Tryz.f16.params.toList ++ Rows.userSaysSpec.plain.varTypes Tryz.pinned.checked.prog ++ Tryz.f16.resultTypes.toList).any (Tryz.pinned.checked.prog.wideKeysFrom ·)) = true := by kernel_rfl
theorem k19 : Rows.userSaysSpec.vars.all (Tryz.pinned.checked.prog.varReadable ·) = true := by kernel_rfl
theorem k20 : Tryz.f16.resultTypes.all (fun t => Tryz.pinned.checked.prog.readableRec t && decide (t < Tryz.pinned.checked.prog.types.size)) = true := by kernel_rfl
theorem k21 : (Rows.userSaysRow.ifacesOut == Tryz.f16.resultTypes.toList.any (Tryz.pinned.checked.prog.ifacesRec ·)) = true := by kernel_rfl
theorem k22 : (Rows.userSaysRow.loopsOut == Tryz.f16.resultTypes.toList.any (Tryz.pinned.checked.prog.loopsFrom ·)) = true := by kernel_rfl
theorem k23 : (Rows.userSaysRow.plainKeys == Tryz.pinned.checked.prog.plainKeys) = true := by kernel_rfl
theorem k24 : Rows.userSaysRow.shortTexts.isNone = true := by kernel_rfl
theorem k25 : Tryz.pinned.checked.prog.stopsHeard = true := by kernel_rfl
theorem k26 : Tryz.pinned.checked.prog.mayEnter = true := mayEnter_this
theorem k27 : (Rows.userSaysRow.lifted == Tryz.pinned.checked.prog.liftsFinal) = true := by kernel_rfl
theorem k28 : (Tryz.pinned.checked.prog.make == some Rows.userSaysRow.make) = true := by kernel_rfl
theorem k29 : (Rows.userSaysRow.kinds == (if Rows.userSaysRow.domain.isEmpty then [] else Tryz.f16.params.toList.map fun t => match Tryz.pinned.checked.prog.underlying t with | some (.int k) => some k | _ => none)) = true := by kernel_rfl
theorem k30 : (Rows.userSaysRow.pinned == Rows.userSaysRow.pinnedBy) = true := by kernel_rfl
theorem k31 : (Rows.userSaysRow.veiled == (Tryz.f16.params.toList ++ Rows.userSaysSpec.plain.varTypes Tryz.pinned.checked.prog ++ Tryz.f16.resultTypes.toList).any (Tryz.pinned.checked.prog.veiledRec ·)) = true := by kernel_rfl
theorem k32 : Rows.userSaysRow.veiledFits Tryz.pinned.checked.prog Tryz.f16.params.toList (Tryz.f16.params.toList ++ Rows.userSaysSpec.plain.varTypes Tryz.pinned.checked.prog ++ Tryz.f16.resultTypes.toList) = true := by kernel_rfl
theorem closed : joinedFacts Tryz.pinned.checked.prog 16 Tryz.f16 Rows.userSaysSpec Rows.userSaysRow = true := (andT (andT (andT (andT (andT (andT (andT (andT (andT (andT (andT (andT (andT (andT (andT (andT (andT (andT (andT (andT (andT (andT (andT (andT (andT (andT (andT (andT (andT (andT (andT k1 k2) k3) k4) k5) k6) k7) k8) k9) k10) k11) k12) k13) k14) k15) k16) k17) k18) k19) k20) k21) k22) k23) k24) k25) k26) k27) k28) k29) k30) k31) k32)
theorem instances : Func.isInstance Tryz.pinned.checked.prog Tryz.f16 Rows.userSaysRow.origin Rows.userSaysRow.targs := of_decide_eq_true (by kernel_rfl)
theorem wfText : Rows.userSaysRow.wfByText (OpenSpec.ofChange Rows.userSaysSpec) = true := by kernel_rfl
theorem main : Tryz.pinned.checked.prog.mainIs = some ((true, "e9414ad5a2084fd5440ff1748876c9e8780747e27cf36968c8e2823baace9633").1, (true, "e9414ad5a2084fd5440ff1748876c9e8780747e27cf36968c8e2823baace9633").2.toList) := by kernel_rfl
theorem goes : false = Rows.userSaysRow.goesBy Tryz.pinned.checked.prog := by kernel_rfl
theorem looks : true = Tryz.pinned.checked.prog.looks [] := by kernel_rfl
end Go.Proofs.YtckblcfkajpofaaGreatDoor.userSays
