/- MetaSigned: the closed facts of its row and its card. -/
import Derived.Test.YtckblcfkajpofaaGreatDoorTie
import Derived.Test.YtckblcfkajpofaaGreatDoorCards
import Derived.JoinedOf
import Derived.Test.YtckblcfkajpofaaGreatDoorZEnt
namespace Go.Proofs.YtckblcfkajpofaaGreatDoor.metaSigned
set_option linter.unusedVariables false
set_option maxRecDepth 100000
theorem andT {a b : Bool} (h : a = true) (g : b = true) : (a && b) = true := by rw [h, g]; rfl
theorem named : Tryz.pinned.checked.prog.funcNamed Rows.metaSignedRow.func = some 8 := by kernel_rfl
theorem k1 : Rows.metaSignedRow.wf (OpenSpec.ofChange Rows.metaSignedSpec) = true := by kernel_rfl
theorem k2 : laidOutB Tryz.pinned.checked.prog = true := by kernel_rfl
theorem k3 : mapsRowed Tryz.pinned.checked.prog = true := by kernel_rfl
theorem k4 : Tryz.f8.params.all (Tryz.pinned.checked.prog.readableRec ·) = true := by kernel_rfl
theorem k5 : namedTie Tryz.pinned.checked.prog Rows.metaSignedRow.named Rows.metaSignedSpec.vars = true := by kernel_rfl
theorem k6 : (Rows.metaSignedRow.stops == []) = true := by kernel_rfl
theorem k7 : (Tryz.pinned.checked.prog.stops == []) = true := by kernel_rfl
theorem k8 : (Rows.metaSignedRow.knobs == []) = true := by kernel_rfl
theorem k9 : (Tryz.pinned.checked.prog.stopKnobs == []) = true := by kernel_rfl
theorem k10 : (Rows.metaSignedRow.inPlace == Tryz.pinned.checked.prog.inPlace 8) = true := by kernel_rfl
theorem k11 : (Rows.metaSignedRow.unfollowed == Tryz.pinned.checked.prog.unfollowed 8) = true := by kernel_rfl
theorem k12 : (Rows.metaSignedRow.recurses == Tryz.pinned.checked.prog.recurses 8) = true := by kernel_rfl
theorem k13 : (Rows.metaSignedRow.named == Tryz.pinned.checked.prog.varsNamed 8) = true := by kernel_rfl
theorem k14 : (Rows.metaSignedRow.maps == (Tryz.f8.params.toList ++ Rows.metaSignedSpec.plain.varTypes Tryz.pinned.checked.prog).any (Tryz.pinned.checked.prog.mapsRec ·)) = true := by kernel_rfl
theorem k15 : (Rows.metaSignedRow.ifaces == (Tryz.f8.params.toList ++ Rows.metaSignedSpec.plain.varTypes Tryz.pinned.checked.prog).any (Tryz.pinned.checked.prog.ifacesRec ·)) = true := by kernel_rfl
theorem k16 : (Rows.metaSignedRow.mapsOut == Tryz.pinned.checked.prog.mapsAmong Tryz.f8.resultTypes.toList) = true := by kernel_rfl
theorem k17 : (Rows.metaSignedRow.loops == (Tryz.f8.params.toList ++ Rows.metaSignedSpec.plain.varTypes Tryz.pinned.checked.prog).any (Tryz.pinned.checked.prog.loopsFrom ·)) = true := by kernel_rfl
theorem k18 : (Rows.metaSignedRow.wideKeys == (Tryz.f8.params.toList ++ Rows.metaSignedSpec.plain.varTypes Tryz.pinned.checked.prog ++ Tryz.f8.resultTypes.toList).any (Tryz.pinned.checked.prog.wideKeysFrom ·)) = true := by kernel_rfl
theorem k19 : Rows.metaSignedSpec.vars.all (Tryz.pinned.checked.prog.varReadable ·) = true := by kernel_rfl
theorem k20 : Tryz.f8.resultTypes.all (fun t => Tryz.pinned.checked.prog.readableRec t && decide (t < Tryz.pinned.checked.prog.types.size)) = true := by kernel_rfl
theorem k21 : (Rows.metaSignedRow.ifacesOut == Tryz.f8.resultTypes.toList.any (Tryz.pinned.checked.prog.ifacesRec ·)) = true := by kernel_rfl
theorem k22 : (Rows.metaSignedRow.loopsOut == Tryz.f8.resultTypes.toList.any (Tryz.pinned.checked.prog.loopsFrom ·)) = true := by kernel_rfl
theorem k23 : (Rows.metaSignedRow.plainKeys == Tryz.pinned.checked.prog.plainKeys) = true := by kernel_rfl
theorem k24 : Rows.metaSignedRow.shortTexts.isNone = true := by kernel_rfl
theorem k25 : Tryz.pinned.checked.prog.stopsHeard = true := by kernel_rfl
theorem k26 : Tryz.pinned.checked.prog.mayEnter = true := mayEnter_this
theorem k27 : (Rows.metaSignedRow.lifted == Tryz.pinned.checked.prog.liftsFinal) = true := by kernel_rfl
theorem k28 : (Tryz.pinned.checked.prog.make == some Rows.metaSignedRow.make) = true := by kernel_rfl
theorem k29 : (Rows.metaSignedRow.kinds == (if Rows.metaSignedRow.domain.isEmpty then [] else Tryz.f8.params.toList.map fun t => match Tryz.pinned.checked.prog.underlying t with | some (.int k) => some k | _ => none)) = true := by kernel_rfl
theorem k30 : (Rows.metaSignedRow.pinned == Rows.metaSignedRow.pinnedBy) = true := by kernel_rfl
theorem k31 : (Rows.metaSignedRow.veiled == (Tryz.f8.params.toList ++ Rows.metaSignedSpec.plain.varTypes Tryz.pinned.checked.prog ++ Tryz.f8.resultTypes.toList).any (Tryz.pinned.checked.prog.veiledRec ·)) = true := by kernel_rfl
theorem k32 : Rows.metaSignedRow.veiledFits Tryz.pinned.checked.prog Tryz.f8.params.toList (Tryz.f8.params.toList ++ Rows.metaSignedSpec.plain.varTypes Tryz.pinned.checked.prog ++ Tryz.f8.resultTypes.toList) = true := by kernel_rfl
theorem closed : joinedFacts Tryz.pinned.checked.prog 8 Tryz.f8 Rows.metaSignedSpec Rows.metaSignedRow = true := (andT (andT (andT (andT (andT (andT (andT (andT (andT (andT (andT (andT (andT (andT (andT (andT (andT (andT (andT (andT (andT (andT (andT (andT (andT (andT (andT (andT (andT (andT (andT k1 k2) k3) k4) k5) k6) k7) k8) k9) k10) k11) k12) k13) k14) k15) k16) k17) k18) k19) k20) k21) k22) k23) k24) k25) k26) k27) k28) k29) k30) k31) k32)
theorem instances : Func.isInstance Tryz.pinned.checked.prog Tryz.f8 Rows.metaSignedRow.origin Rows.metaSignedRow.targs := of_decide_eq_true (by kernel_rfl)
theorem wfText : Rows.metaSignedRow.wfByText (OpenSpec.ofChange Rows.metaSignedSpec) = true := by kernel_rfl
theorem main : Tryz.pinned.checked.prog.mainIs = some ((true, "e9414ad5a2084fd5440ff1748876c9e8780747e27cf36968c8e2823baace9633").1, (true, "e9414ad5a2084fd5440ff1748876c9e8780747e27cf36968c8e2823baace9633").2.toList) := by kernel_rfl
theorem goes : false = Rows.metaSignedRow.goesBy Tryz.pinned.checked.prog := by kernel_rfl
theorem looks : true = Tryz.pinned.checked.prog.looks [] := by kernel_rfl
end Go.Proofs.YtckblcfkajpofaaGreatDoor.metaSigned
