/-
  DERIVED. GIVEN WITH THE SEED: THE CARDS: each row of YtckblcfkajpofaaGreatDoorRows.lean that lists a variable, with what it lists TIED to the program's text (the seventh form; the later family's looks); each row that meets fmt, with fmt's text TOLD by the authors' own Lean function (tested against real Go, not proved from fmt's source: count such statements apart). THE CARD IS WHAT COUNTS. Prove the row's statement (the work); the ties are given (YtckblcfkajpofaaGreatDoorTie.lean); close each card by the builder's one call (the guide's Derived/Test/ToyasCard.lean, 'card_holds'). Laid BY PROGRAM, IN A SANDBOX (cutbox-door.mjs). By AI agents, Wed Nov 11 2026. No macro, syntax, notation, axiom, sorry.
-/
import Derived.Test.YtckblcfkajpofaaGreatDoorRows
import GoSem.ClaimSeven
namespace Go.Proofs.YtckblcfkajpofaaGreatDoor
namespace Rows

/-- THE TIED CARD OF 'letterlocklaw14.UserNames'. -/
def userNamesCard : Claim7 := { stood := { row := userNamesRow, standIns := [], harness := (true, "e9414ad5a2084fd5440ff1748876c9e8780747e27cf36968c8e2823baace9633"), looks := true }, kinds := [], alts := [], laidByText := true, laidKinds := [.data, .pinned], laidTests := true, laidLooks := .later }
def UserNamesCardSaid : Prop := Claim7.holds Tryz.pinned (.plain (OpenSpec.ofChange userNamesSpec)) userNamesCard

/-- THE TIED CARD OF 'letterlocklaw15.OwnerTells'. -/
def ownerTellsCard : Claim7 := { stood := { row := ownerTellsRow, standIns := [], harness := (true, "e9414ad5a2084fd5440ff1748876c9e8780747e27cf36968c8e2823baace9633"), looks := true }, kinds := [], alts := [], laidByText := true, laidKinds := [.data, .pinned], laidTests := true, laidLooks := .later }
def OwnerTellsCardSaid : Prop := Claim7.holds Tryz.pinned (.plain (OpenSpec.ofChange ownerTellsSpec)) ownerTellsCard

/-- THE TIED CARD OF 'letterlocklaw8.MetaBuilds'. -/
def metaBuildsCard : Claim7 := { stood := { row := metaBuildsRow, standIns := [], harness := (true, "e9414ad5a2084fd5440ff1748876c9e8780747e27cf36968c8e2823baace9633"), looks := true }, kinds := [], alts := [], laidByText := true, laidKinds := [.data, .pinned], laidTests := true, laidLooks := .later }
def MetaBuildsCardSaid : Prop := Claim7.holds Tryz.pinned (.plain (OpenSpec.ofChange metaBuildsSpec)) metaBuildsCard

/-- THE TIED CARD OF 'letterlocklaw8.MetaBack'. -/
def metaBackCard : Claim7 := { stood := { row := metaBackRow, standIns := [], harness := (true, "e9414ad5a2084fd5440ff1748876c9e8780747e27cf36968c8e2823baace9633"), looks := true }, kinds := [], alts := [], laidByText := true, laidKinds := [.data, .pinned], laidTests := true, laidLooks := .later }
def MetaBackCardSaid : Prop := Claim7.holds Tryz.pinned (.plain (OpenSpec.ofChange metaBackSpec)) metaBackCard

/-- THE TIED CARD OF 'letterlocklaw8.MetaKnown'. -/
def metaKnownCard : Claim7 := { stood := { row := metaKnownRow, standIns := [], harness := (true, "e9414ad5a2084fd5440ff1748876c9e8780747e27cf36968c8e2823baace9633"), looks := true }, kinds := [], alts := [], laidByText := true, laidKinds := [.data, .pinned], laidTests := true, laidLooks := .later }
def MetaKnownCardSaid : Prop := Claim7.holds Tryz.pinned (.plain (OpenSpec.ofChange metaKnownSpec)) metaKnownCard

/-- THE TIED CARD OF 'letterlocklaw8.MetaSigned'. -/
def metaSignedCard : Claim7 := { stood := { row := metaSignedRow, standIns := [], harness := (true, "e9414ad5a2084fd5440ff1748876c9e8780747e27cf36968c8e2823baace9633"), looks := true }, kinds := [], alts := [], laidByText := true, laidKinds := [.data, .pinned], laidTests := true, laidLooks := .later }
def MetaSignedCardSaid : Prop := Claim7.holds Tryz.pinned (.plain (OpenSpec.ofChange metaSignedSpec)) metaSignedCard

/-- THE TIED CARD OF 'letterlocklaw8.MetaEpochs'. -/
def metaEpochsCard : Claim7 := { stood := { row := metaEpochsRow, standIns := [], harness := (true, "e9414ad5a2084fd5440ff1748876c9e8780747e27cf36968c8e2823baace9633"), looks := true }, kinds := [], alts := [], laidByText := true, laidKinds := [.data, .pinned], laidTests := true, laidLooks := .later }
def MetaEpochsCardSaid : Prop := Claim7.holds Tryz.pinned (.plain (OpenSpec.ofChange metaEpochsSpec)) metaEpochsCard

/-- THE TIED CARD OF 'letterlocklaw8.MetaTells'. -/
def metaTellsCard : Claim7 := { stood := { row := metaTellsRow, standIns := [], harness := (true, "e9414ad5a2084fd5440ff1748876c9e8780747e27cf36968c8e2823baace9633"), looks := true }, kinds := [], alts := [], laidByText := true, laidKinds := [.data, .pinned], laidTests := true, laidLooks := .later }
def MetaTellsCardSaid : Prop := Claim7.holds Tryz.pinned (.plain (OpenSpec.ofChange metaTellsSpec)) metaTellsCard

/-- THE TIED CARD OF 'letterlocklaw14.UserErrs'. -/
def userErrsCard : Claim7 := { stood := { row := userErrsRow, standIns := [], harness := (true, "e9414ad5a2084fd5440ff1748876c9e8780747e27cf36968c8e2823baace9633"), looks := true }, kinds := [], alts := [], laidByText := true, laidKinds := [.data, .pinned], laidTests := true, laidLooks := .later }
def UserErrsCardSaid : Prop := Claim7.holds Tryz.pinned (.plain (OpenSpec.ofChange userErrsSpec)) userErrsCard

/-- THE TIED CARD OF 'letterlocklaw14.UserGrows'. -/
def userGrowsCard : Claim7 := { stood := { row := userGrowsRow, standIns := [], harness := (true, "e9414ad5a2084fd5440ff1748876c9e8780747e27cf36968c8e2823baace9633"), looks := true }, kinds := [], alts := [], laidByText := true, laidKinds := [.data, .pinned], laidTests := true, laidLooks := .later }
def UserGrowsCardSaid : Prop := Claim7.holds Tryz.pinned (.plain (OpenSpec.ofChange userGrowsSpec)) userGrowsCard

/-- THE TIED CARD OF 'letterlocklaw14.UserCopies'. -/
def userCopiesCard : Claim7 := { stood := { row := userCopiesRow, standIns := [], harness := (true, "e9414ad5a2084fd5440ff1748876c9e8780747e27cf36968c8e2823baace9633"), looks := true }, kinds := [], alts := [], laidByText := true, laidKinds := [.data, .pinned], laidTests := true, laidLooks := .later }
def UserCopiesCardSaid : Prop := Claim7.holds Tryz.pinned (.plain (OpenSpec.ofChange userCopiesSpec)) userCopiesCard

/-- THE TIED CARD OF 'letterlocklaw8.MetaOpens'. -/
def metaOpensCard : Claim7 := { stood := { row := metaOpensRow, standIns := [], harness := (true, "e9414ad5a2084fd5440ff1748876c9e8780747e27cf36968c8e2823baace9633"), looks := true }, kinds := [], alts := [], laidByText := true, laidKinds := [.data, .pinned], laidTests := true, laidLooks := .later }
def MetaOpensCardSaid : Prop := Claim7.holds Tryz.pinned (.plain (OpenSpec.ofChange metaOpensSpec)) metaOpensCard

/-- THE TIED CARD OF 'letterlocklaw14.UserPlays'. -/
def userPlaysCard : Claim7 := { stood := { row := userPlaysRow, standIns := [], harness := (true, "e9414ad5a2084fd5440ff1748876c9e8780747e27cf36968c8e2823baace9633"), looks := true }, kinds := [], alts := [], laidByText := true, laidKinds := [.data, .pinned], laidTests := true, laidLooks := .later }
def UserPlaysCardSaid : Prop := Claim7.holds Tryz.pinned (.plain (OpenSpec.ofChange userPlaysSpec)) userPlaysCard

/-- THE TIED CARD OF 'letterlocklaw14.UserSays'. -/
def userSaysCard : Claim7 := { stood := { row := userSaysRow, standIns := [], harness := (true, "e9414ad5a2084fd5440ff1748876c9e8780747e27cf36968c8e2823baace9633"), looks := true }, kinds := [], alts := [], laidByText := true, laidKinds := [.data, .pinned], laidTests := true, laidLooks := .later }
def UserSaysCardSaid : Prop := Claim7.holds Tryz.pinned (.plain (OpenSpec.ofChange userSaysSpec)) userSaysCard

/-- THE TIED CARD OF 'letterlocklaw15.OwnerTimes'. -/
def ownerTimesCard : Claim7 := { stood := { row := ownerTimesRow, standIns := [], harness := (true, "e9414ad5a2084fd5440ff1748876c9e8780747e27cf36968c8e2823baace9633"), looks := true }, kinds := [], alts := [], laidByText := true, laidKinds := [.data, .pinned], laidTests := true, laidLooks := .later }
def OwnerTimesCardSaid : Prop := Claim7.holds Tryz.pinned (.plain (OpenSpec.ofChange ownerTimesSpec)) ownerTimesCard

/-- THE TIED CARD OF 'letterlocklaw15.OwnerPlans'. -/
def ownerPlansCard : Claim7 := { stood := { row := ownerPlansRow, standIns := [], harness := (true, "e9414ad5a2084fd5440ff1748876c9e8780747e27cf36968c8e2823baace9633"), looks := true }, kinds := [], alts := [], laidByText := true, laidKinds := [.data, .pinned], laidTests := true, laidLooks := .later }
def OwnerPlansCardSaid : Prop := Claim7.holds Tryz.pinned (.plain (OpenSpec.ofChange ownerPlansSpec)) ownerPlansCard

/-- THE TIED CARD OF 'letterlocklaw15.OwnerDrops'. -/
def ownerDropsCard : Claim7 := { stood := { row := ownerDropsRow, standIns := [], harness := (true, "e9414ad5a2084fd5440ff1748876c9e8780747e27cf36968c8e2823baace9633"), looks := true }, kinds := [], alts := [], laidByText := true, laidKinds := [.data, .pinned], laidTests := true, laidLooks := .later }
def OwnerDropsCardSaid : Prop := Claim7.holds Tryz.pinned (.plain (OpenSpec.ofChange ownerDropsSpec)) ownerDropsCard

/-- THE TIED CARD OF 'letterlocklaw15.OwnerCovers'. -/
def ownerCoversCard : Claim7 := { stood := { row := ownerCoversRow, standIns := [], harness := (true, "e9414ad5a2084fd5440ff1748876c9e8780747e27cf36968c8e2823baace9633"), looks := true }, kinds := [], alts := [], laidByText := true, laidKinds := [.data, .pinned], laidTests := true, laidLooks := .later }
def OwnerCoversCardSaid : Prop := Claim7.holds Tryz.pinned (.plain (OpenSpec.ofChange ownerCoversSpec)) ownerCoversCard

/-- THE SECOND FORM's CARD OF 'letterlocklaw14.UserNames'. -/
def userNamesUptoCard : Claim7 := { stood := { row := userNamesUptoRow, standIns := [], harness := (true, "e9414ad5a2084fd5440ff1748876c9e8780747e27cf36968c8e2823baace9633"), looks := true }, kinds := [], alts := [], laidByText := true, laidKinds := [.data, .pinned], laidTests := true, laidLooks := .later }
def UserNamesUptoCardSaid : Prop := Claim7.holds Tryz.pinned (.plain (OpenSpec.upto userNamesSpec)) userNamesUptoCard

/-- THE SECOND FORM's CARD OF 'letterlocklaw15.OwnerTells'. -/
def ownerTellsUptoCard : Claim7 := { stood := { row := ownerTellsUptoRow, standIns := [], harness := (true, "e9414ad5a2084fd5440ff1748876c9e8780747e27cf36968c8e2823baace9633"), looks := true }, kinds := [], alts := [], laidByText := true, laidKinds := [.data, .pinned], laidTests := true, laidLooks := .later }
def OwnerTellsUptoCardSaid : Prop := Claim7.holds Tryz.pinned (.plain (OpenSpec.upto ownerTellsSpec)) ownerTellsUptoCard

/-- THE SECOND FORM's CARD OF 'letterlocklaw8.MetaBuilds'. -/
def metaBuildsUptoCard : Claim7 := { stood := { row := metaBuildsUptoRow, standIns := [], harness := (true, "e9414ad5a2084fd5440ff1748876c9e8780747e27cf36968c8e2823baace9633"), looks := true }, kinds := [], alts := [], laidByText := true, laidKinds := [.data, .pinned], laidTests := true, laidLooks := .later }
def MetaBuildsUptoCardSaid : Prop := Claim7.holds Tryz.pinned (.plain (OpenSpec.upto metaBuildsSpec)) metaBuildsUptoCard

/-- THE SECOND FORM's CARD OF 'letterlocklaw8.MetaBack'. -/
def metaBackUptoCard : Claim7 := { stood := { row := metaBackUptoRow, standIns := [], harness := (true, "e9414ad5a2084fd5440ff1748876c9e8780747e27cf36968c8e2823baace9633"), looks := true }, kinds := [], alts := [], laidByText := true, laidKinds := [.data, .pinned], laidTests := true, laidLooks := .later }
def MetaBackUptoCardSaid : Prop := Claim7.holds Tryz.pinned (.plain (OpenSpec.upto metaBackSpec)) metaBackUptoCard

/-- THE SECOND FORM's CARD OF 'letterlocklaw8.MetaKnown'. -/
def metaKnownUptoCard : Claim7 := { stood := { row := metaKnownUptoRow, standIns := [], harness := (true, "e9414ad5a2084fd5440ff1748876c9e8780747e27cf36968c8e2823baace9633"), looks := true }, kinds := [], alts := [], laidByText := true, laidKinds := [.data, .pinned], laidTests := true, laidLooks := .later }
def MetaKnownUptoCardSaid : Prop := Claim7.holds Tryz.pinned (.plain (OpenSpec.upto metaKnownSpec)) metaKnownUptoCard

/-- THE SECOND FORM's CARD OF 'letterlocklaw8.MetaSigned'. -/
def metaSignedUptoCard : Claim7 := { stood := { row := metaSignedUptoRow, standIns := [], harness := (true, "e9414ad5a2084fd5440ff1748876c9e8780747e27cf36968c8e2823baace9633"), looks := true }, kinds := [], alts := [], laidByText := true, laidKinds := [.data, .pinned], laidTests := true, laidLooks := .later }
def MetaSignedUptoCardSaid : Prop := Claim7.holds Tryz.pinned (.plain (OpenSpec.upto metaSignedSpec)) metaSignedUptoCard

/-- THE SECOND FORM's CARD OF 'letterlocklaw8.MetaEpochs'. -/
def metaEpochsUptoCard : Claim7 := { stood := { row := metaEpochsUptoRow, standIns := [], harness := (true, "e9414ad5a2084fd5440ff1748876c9e8780747e27cf36968c8e2823baace9633"), looks := true }, kinds := [], alts := [], laidByText := true, laidKinds := [.data, .pinned], laidTests := true, laidLooks := .later }
def MetaEpochsUptoCardSaid : Prop := Claim7.holds Tryz.pinned (.plain (OpenSpec.upto metaEpochsSpec)) metaEpochsUptoCard

/-- THE SECOND FORM's CARD OF 'letterlocklaw8.MetaTells'. -/
def metaTellsUptoCard : Claim7 := { stood := { row := metaTellsUptoRow, standIns := [], harness := (true, "e9414ad5a2084fd5440ff1748876c9e8780747e27cf36968c8e2823baace9633"), looks := true }, kinds := [], alts := [], laidByText := true, laidKinds := [.data, .pinned], laidTests := true, laidLooks := .later }
def MetaTellsUptoCardSaid : Prop := Claim7.holds Tryz.pinned (.plain (OpenSpec.upto metaTellsSpec)) metaTellsUptoCard

/-- THE SECOND FORM's CARD OF 'letterlocklaw14.UserErrs'. -/
def userErrsUptoCard : Claim7 := { stood := { row := userErrsUptoRow, standIns := [], harness := (true, "e9414ad5a2084fd5440ff1748876c9e8780747e27cf36968c8e2823baace9633"), looks := true }, kinds := [], alts := [], laidByText := true, laidKinds := [.data, .pinned], laidTests := true, laidLooks := .later }
def UserErrsUptoCardSaid : Prop := Claim7.holds Tryz.pinned (.plain (OpenSpec.upto userErrsSpec)) userErrsUptoCard

/-- THE SECOND FORM's CARD OF 'letterlocklaw14.UserGrows'. -/
def userGrowsUptoCard : Claim7 := { stood := { row := userGrowsUptoRow, standIns := [], harness := (true, "e9414ad5a2084fd5440ff1748876c9e8780747e27cf36968c8e2823baace9633"), looks := true }, kinds := [], alts := [], laidByText := true, laidKinds := [.data, .pinned], laidTests := true, laidLooks := .later }
def UserGrowsUptoCardSaid : Prop := Claim7.holds Tryz.pinned (.plain (OpenSpec.upto userGrowsSpec)) userGrowsUptoCard

/-- THE SECOND FORM's CARD OF 'letterlocklaw14.UserCopies'. -/
def userCopiesUptoCard : Claim7 := { stood := { row := userCopiesUptoRow, standIns := [], harness := (true, "e9414ad5a2084fd5440ff1748876c9e8780747e27cf36968c8e2823baace9633"), looks := true }, kinds := [], alts := [], laidByText := true, laidKinds := [.data, .pinned], laidTests := true, laidLooks := .later }
def UserCopiesUptoCardSaid : Prop := Claim7.holds Tryz.pinned (.plain (OpenSpec.upto userCopiesSpec)) userCopiesUptoCard

/-- THE SECOND FORM's CARD OF 'letterlocklaw8.MetaOpens'. -/
def metaOpensUptoCard : Claim7 := { stood := { row := metaOpensUptoRow, standIns := [], harness := (true, "e9414ad5a2084fd5440ff1748876c9e8780747e27cf36968c8e2823baace9633"), looks := true }, kinds := [], alts := [], laidByText := true, laidKinds := [.data, .pinned], laidTests := true, laidLooks := .later }
def MetaOpensUptoCardSaid : Prop := Claim7.holds Tryz.pinned (.plain (OpenSpec.upto metaOpensSpec)) metaOpensUptoCard

/-- THE SECOND FORM's CARD OF 'letterlocklaw14.UserPlays'. -/
def userPlaysUptoCard : Claim7 := { stood := { row := userPlaysUptoRow, standIns := [], harness := (true, "e9414ad5a2084fd5440ff1748876c9e8780747e27cf36968c8e2823baace9633"), looks := true }, kinds := [], alts := [], laidByText := true, laidKinds := [.data, .pinned], laidTests := true, laidLooks := .later }
def UserPlaysUptoCardSaid : Prop := Claim7.holds Tryz.pinned (.plain (OpenSpec.upto userPlaysSpec)) userPlaysUptoCard

/-- THE SECOND FORM's CARD OF 'letterlocklaw14.UserSays'. -/
def userSaysUptoCard : Claim7 := { stood := { row := userSaysUptoRow, standIns := [], harness := (true, "e9414ad5a2084fd5440ff1748876c9e8780747e27cf36968c8e2823baace9633"), looks := true }, kinds := [], alts := [], laidByText := true, laidKinds := [.data, .pinned], laidTests := true, laidLooks := .later }
def UserSaysUptoCardSaid : Prop := Claim7.holds Tryz.pinned (.plain (OpenSpec.upto userSaysSpec)) userSaysUptoCard

/-- THE SECOND FORM's CARD OF 'letterlocklaw15.OwnerTimes'. -/
def ownerTimesUptoCard : Claim7 := { stood := { row := ownerTimesUptoRow, standIns := [], harness := (true, "e9414ad5a2084fd5440ff1748876c9e8780747e27cf36968c8e2823baace9633"), looks := true }, kinds := [], alts := [], laidByText := true, laidKinds := [.data, .pinned], laidTests := true, laidLooks := .later }
def OwnerTimesUptoCardSaid : Prop := Claim7.holds Tryz.pinned (.plain (OpenSpec.upto ownerTimesSpec)) ownerTimesUptoCard

/-- THE SECOND FORM's CARD OF 'letterlocklaw15.OwnerPlans'. -/
def ownerPlansUptoCard : Claim7 := { stood := { row := ownerPlansUptoRow, standIns := [], harness := (true, "e9414ad5a2084fd5440ff1748876c9e8780747e27cf36968c8e2823baace9633"), looks := true }, kinds := [], alts := [], laidByText := true, laidKinds := [.data, .pinned], laidTests := true, laidLooks := .later }
def OwnerPlansUptoCardSaid : Prop := Claim7.holds Tryz.pinned (.plain (OpenSpec.upto ownerPlansSpec)) ownerPlansUptoCard

/-- THE SECOND FORM's CARD OF 'letterlocklaw15.OwnerDrops'. -/
def ownerDropsUptoCard : Claim7 := { stood := { row := ownerDropsUptoRow, standIns := [], harness := (true, "e9414ad5a2084fd5440ff1748876c9e8780747e27cf36968c8e2823baace9633"), looks := true }, kinds := [], alts := [], laidByText := true, laidKinds := [.data, .pinned], laidTests := true, laidLooks := .later }
def OwnerDropsUptoCardSaid : Prop := Claim7.holds Tryz.pinned (.plain (OpenSpec.upto ownerDropsSpec)) ownerDropsUptoCard

/-- THE SECOND FORM's CARD OF 'letterlocklaw15.OwnerCovers'. -/
def ownerCoversUptoCard : Claim7 := { stood := { row := ownerCoversUptoRow, standIns := [], harness := (true, "e9414ad5a2084fd5440ff1748876c9e8780747e27cf36968c8e2823baace9633"), looks := true }, kinds := [], alts := [], laidByText := true, laidKinds := [.data, .pinned], laidTests := true, laidLooks := .later }
def OwnerCoversUptoCardSaid : Prop := Claim7.holds Tryz.pinned (.plain (OpenSpec.upto ownerCoversSpec)) ownerCoversUptoCard
end Rows
end Go.Proofs.YtckblcfkajpofaaGreatDoor
