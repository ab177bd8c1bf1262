/- AuditLives: the closed facts of its row and its card. -/
import Derived.Test.YtgacfkenndhcnaaDoorTie
import Derived.Test.YtgacfkenndhcnaaDoorCards
import Derived.JoinedOf
import Derived.Test.YtgacfkenndhcnaaDoorZEnt
namespace Go.Proofs.YtgacfkenndhcnaaDoor.auditLives
set_option linter.unusedVariables false
set_option maxRecDepth 100000
theorem andT {a b : Bool} (h : a = true) (g : b = true) : (a && b) = true := by rw [h, g]; rfl
theorem named : Tryd.pinned.checked.prog.funcNamed Rows.auditLivesRow.func = some 3 := by kernel_rfl
theorem k1 : Rows.auditLivesRow.wf (OpenSpec.ofChange Rows.auditLivesSpec) = true := by kernel_rfl
theorem k2 : laidOutB Tryd.pinned.checked.prog = true := by kernel_rfl
theorem k3 : mapsRowed Tryd.pinned.checked.prog = true := by kernel_rfl
theorem k4 : Tryd.f3.params.all (Tryd.pinned.checked.prog.readableRec ·) = true := by kernel_rfl
theorem k5 : namedTie Tryd.pinned.checked.prog Rows.auditLivesRow.named Rows.auditLivesSpec.vars = true := by kernel_rfl
theorem k6 : (Rows.auditLivesRow.stops == []) = true := by kernel_rfl
theorem k7 : (Tryd.pinned.checked.prog.stops == []) = true := by kernel_rfl
theorem k8 : (Rows.auditLivesRow.knobs == []) = true := by kernel_rfl
theorem k9 : (Tryd.pinned.checked.prog.stopKnobs == []) = true := by kernel_rfl
theorem k10 : (Rows.auditLivesRow.inPlace == Tryd.pinned.checked.prog.inPlace 3) = true := by kernel_rfl
theorem k11 : (Rows.auditLivesRow.unfollowed == Tryd.pinned.checked.prog.unfollowed 3) = true := by kernel_rfl
theorem k12 : (Rows.auditLivesRow.recurses == Tryd.pinned.checked.prog.recurses 3) = true := by kernel_rfl
theorem k13 : (Rows.auditLivesRow.named == Tryd.pinned.checked.prog.varsNamed 3) = true := by kernel_rfl
theorem k14 : (Rows.auditLivesRow.maps == (Tryd.f3.params.toList ++ Rows.auditLivesSpec.plain.varTypes Tryd.pinned.checked.prog).any (Tryd.pinned.checked.prog.mapsRec ·)) = true := by kernel_rfl
theorem k15 : (Rows.auditLivesRow.ifaces == (Tryd.f3.params.toList ++ Rows.auditLivesSpec.plain.varTypes Tryd.pinned.checked.prog).any (Tryd.pinned.checked.prog.ifacesRec ·)) = true := by kernel_rfl
theorem k16 : (Rows.auditLivesRow.mapsOut == Tryd.pinned.checked.prog.mapsAmong Tryd.f3.resultTypes.toList) = true := by kernel_rfl
theorem k17 : (Rows.auditLivesRow.loops == (Tryd.f3.params.toList ++ Rows.auditLivesSpec.plain.varTypes Tryd.pinned.checked.prog).any (Tryd.pinned.checked.prog.loopsFrom ·)) = true := by kernel_rfl
theorem k18 : (Rows.auditLivesRow.wideKeys == (Tryd.f3.params.toList ++ Rows.auditLivesSpec.plain.varTypes Tryd.pinned.checked.prog ++ Tryd.f3.resultTypes.toList).any (Tryd.pinned.checked.prog.wideKeysFrom ·)) = true := by kernel_rfl
theorem k19 : Rows.auditLivesSpec.vars.all (Tryd.pinned.checked.prog.varReadable ·) = true := by kernel_rfl
theorem k20 : Tryd.f3.resultTypes.all (fun t => Tryd.pinned.checked.prog.readableRec t && decide (t < Tryd.pinned.checked.prog.types.size)) = true := by kernel_rfl
theorem k21 : (Rows.auditLivesRow.ifacesOut == Tryd.f3.resultTypes.toList.any (Tryd.pinned.checked.prog.ifacesRec ·)) = true := by kernel_rfl
theorem k22 : (Rows.auditLivesRow.loopsOut == Tryd.f3.resultTypes.toList.any (Tryd.pinned.checked.prog.loopsFrom ·)) = true := by kernel_rfl
theorem k23 : (Rows.auditLivesRow.plainKeys == Tryd.pinned.checked.prog.plainKeys) = true := by kernel_rfl
theorem k24 : Rows.auditLivesRow.shortTexts.isNone = true := by kernel_rfl
theorem k25 : Tryd.pinned.checked.prog.stopsHeard = true := by kernel_rfl
theorem k26 : Tryd.pinned.checked.prog.mayEnter = true := mayEnter_this
theorem k27 : (Rows.auditLivesRow.lifted == Tryd.pinned.checked.prog.liftsFinal) = true := by kernel_rfl
theorem k28 : (Tryd.pinned.checked.prog.make == some Rows.auditLivesRow.make) = true := by kernel_rfl
theorem k29 : (Rows.auditLivesRow.kinds == (if Rows.auditLivesRow.domain.isEmpty then [] else Tryd.f3.params.toList.map fun t => match Tryd.pinned.checked.prog.underlying t with | some (.int k) => some k | _ => none)) = true := by kernel_rfl
theorem k30 : (Rows.auditLivesRow.pinned == Rows.auditLivesRow.pinnedBy) = true := by kernel_rfl
theorem k31 : (Rows.auditLivesRow.veiled == (Tryd.f3.params.toList ++ Rows.auditLivesSpec.plain.varTypes Tryd.pinned.checked.prog ++ Tryd.f3.resultTypes.toList).any (Tryd.pinned.checked.prog.veiledRec ·)) = true := by kernel_rfl
theorem k32 : Rows.auditLivesRow.veiledFits Tryd.pinned.checked.prog Tryd.f3.params.toList (Tryd.f3.params.toList ++ Rows.auditLivesSpec.plain.varTypes Tryd.pinned.checked.prog ++ Tryd.f3.resultTypes.toList) = true := by kernel_rfl
theorem closed : joinedFacts Tryd.pinned.checked.prog 3 Tryd.f3 Rows.auditLivesSpec Rows.auditLivesRow = true := (andT (andT (andT (andT (andT (andT (andT (andT (andT (andT (andT (andT (andT (andT (andT (andT (andT (andT (andT (andT (andT (andT (andT (andT (andT (andT (andT (andT (andT (andT (andT k1 k2) k3) k4) k5) k6) k7) k8) k9) k10) k11) k12) k13) k14) k15) k16) k17) k18) k19) k20) k21) k22) k23) k24) k25) k26) k27) k28) k29) k30) k31) k32)
theorem instances : Func.isInstance Tryd.pinned.checked.prog Tryd.f3 Rows.auditLivesRow.origin Rows.auditLivesRow.targs := of_decide_eq_true (by kernel_rfl)
theorem wfText : Rows.auditLivesRow.wfByText (OpenSpec.ofChange Rows.auditLivesSpec) = true := by kernel_rfl
theorem main : Tryd.pinned.checked.prog.mainIs = some ((true, "77d45c508eba58b8c16f41f39f4856e8757a44169e251e661c67cbe1c1ba3a12").1, (true, "77d45c508eba58b8c16f41f39f4856e8757a44169e251e661c67cbe1c1ba3a12").2.toList) := by kernel_rfl
theorem goes : false = Rows.auditLivesRow.goesBy Tryd.pinned.checked.prog := by kernel_rfl
theorem looks : false = Tryd.pinned.checked.prog.looks [] := by kernel_rfl
end Go.Proofs.YtgacfkenndhcnaaDoor.auditLives
