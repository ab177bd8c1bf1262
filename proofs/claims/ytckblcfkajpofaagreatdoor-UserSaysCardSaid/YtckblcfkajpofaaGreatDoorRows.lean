/-
  NARROWER THAN 'FOR EVERY INPUT', by the rows' own cells (each row's printed sentence says how): UserNames: laid · OwnerTells: laid · MetaBuilds: laid · MetaBack: laid · MetaKnown: laid · MetaSigned: laid · MetaEpochs: laid · MetaTells: laid · UserErrs: laid · UserGrows: laid · UserCopies: laid · MetaOpens: laid · UserPlays: laid · UserSays: laid · OwnerTimes: laid · OwnerPlans: laid · OwnerDrops: laid · OwnerCovers: laid.
  DERIVED. THE GIVEN ROWS OF THIS SEAT. 18 by the template 'for every input the law returns true; each argument reads behind the call as it read before'; 0 by the template 'total and deterministic' (their statements: YtckblcfkajpofaaGreatDoorTotals.lean).
  GIVEN WITH THE SEED: the statements are not yours to turn. If you find one false, say at which input.
  Laid BY PROGRAM, IN A SANDBOX (cutbox-rows.mjs): the forced cells as the released guide's own fill.sh prints them over the translation 98691f5aa268aab3… (all of the seat's roots in one cut). By AI agents, Wed Nov 11 2026. No macro, syntax, notation, axiom, sorry.
-/
import Derived.Test.YtckblcfkajpofaaGreatDoorChecked
import GoSem.PinnedTables
import GoSem.Claim
import GoSem.ClaimJoined
import GoSem.ClaimMapViews
import Derived.JoinedTies
import Derived.KernelRfl
namespace Go.Proofs.YtckblcfkajpofaaGreatDoor
/- THE CELL 'sum', in the pinned program and in every row, IS THE sha256 OF THE DUMP (.gsa) THAT YtckblcfkajpofaaGreatDoorProg.lean LOADS. Nothing in Lean hashes anything: it is a label: what it is worth is what the hold of that sum in a sandbox is worth. -/
noncomputable def Tryz.pinned : Pinned := { name := "ytckblcfkajpofaagreatdoor", sum := "98691f5aa268aab3f2d35098f99250870554439c16deb2f4afb78e81dfa881f1", checked := Tryz.checked }
namespace Rows
def none {H : Type} : Left H := { results := [], args := [] }

/- WHAT THE LISTED PACKAGE-LEVEL VARIABLES READ AS WHEN THE CALL BEGINS. Each datum BY PROGRAM (the guide's laid-datum.mjs) off the statement by which the dump's own 'gosem.cut.vars' lays the variable. In a bare row this is a premise. The card (YtckblcfkajpofaaGreatDoorCards.lean) ties it to the program's text. -/
def laid_unicode_utf8_acceptRanges {H : Type} : DataW H := .agg [.agg [.lit (.int .u8 128), .lit (.int .u8 191)], .agg [.lit (.int .u8 160), .lit (.int .u8 191)], .agg [.lit (.int .u8 128), .lit (.int .u8 159)], .agg [.lit (.int .u8 144), .lit (.int .u8 191)], .agg [.lit (.int .u8 128), .lit (.int .u8 143)], .agg [.lit (.int .u8 0), .lit (.int .u8 0)], .agg [.lit (.int .u8 0), .lit (.int .u8 0)], .agg [.lit (.int .u8 0), .lit (.int .u8 0)], .agg [.lit (.int .u8 0), .lit (.int .u8 0)], .agg [.lit (.int .u8 0), .lit (.int .u8 0)], .agg [.lit (.int .u8 0), .lit (.int .u8 0)], .agg [.lit (.int .u8 0), .lit (.int .u8 0)], .agg [.lit (.int .u8 0), .lit (.int .u8 0)], .agg [.lit (.int .u8 0), .lit (.int .u8 0)], .agg [.lit (.int .u8 0), .lit (.int .u8 0)], .agg [.lit (.int .u8 0), .lit (.int .u8 0)]]
/-- One of Go's own tables, pinned by name: the form's constant. -/
def laid_unicode_utf8_first : DataW Unit := Go.Pinned.utf8First

/-- 'letterlocklaw14.UserNames': WHATEVER THE INPUT: true; the input reads as it did. -/
def userNamesSpec : ChangeSpec := { name := "userNames", fn := fun _ => fun
  | [d1, d2] => { results := [.lit (.bool true)], args := [d1, d2] }
  | _ => none }
def userNamesRow : OpenClaim := { program := "ytckblcfkajpofaagreatdoor", sum := "98691f5aa268aab3f2d35098f99250870554439c16deb2f4afb78e81dfa881f1", func := "letterlock/letterlocklaw14.UserNames", spec := "userNames", inPlace := ["internal/abi.NoEscape", "internal/bytealg.MakeNoZero"], unfollowed := true, recurses := true, named := ["unicode/utf8.first", "unicode/utf8.acceptRanges"], apart := false, laid := [("unicode/utf8.acceptRanges", laid_unicode_utf8_acceptRanges), ("unicode/utf8.first", laid_unicode_utf8_first)] }
def UserNamesSaid : Prop := userNamesRow.holds Tryz.pinned (OpenSpec.ofChange userNamesSpec)

/-- ITS FALSE NEIGHBOUR: 'it returns false'. Refute it at one input. -/
def userNamesWrong : ChangeSpec := { name := "userNames", fn := fun _ => fun
  | [d1, d2] => { results := [.lit (.bool false)], args := [d1, d2] }
  | _ => none }
def UserNamesWrongFalsely : Prop := userNamesRow.holds Tryz.pinned (OpenSpec.ofChange userNamesWrong)

/-- 'letterlocklaw15.OwnerTells': WHATEVER THE INPUT: true; the input reads as it did. -/
def ownerTellsSpec : ChangeSpec := { name := "ownerTells", fn := fun _ => fun
  | [d1, d2, d3, d4] => { results := [.lit (.bool true)], args := [d1, d2, d3, d4] }
  | _ => none }
def ownerTellsRow : OpenClaim := { program := "ytckblcfkajpofaagreatdoor", sum := "98691f5aa268aab3f2d35098f99250870554439c16deb2f4afb78e81dfa881f1", func := "letterlock/letterlocklaw15.OwnerTells", spec := "ownerTells", inPlace := ["internal/abi.NoEscape", "internal/bytealg.MakeNoZero"], unfollowed := true, recurses := true, named := ["unicode/utf8.first", "unicode/utf8.acceptRanges"], apart := false, laid := [("unicode/utf8.acceptRanges", laid_unicode_utf8_acceptRanges), ("unicode/utf8.first", laid_unicode_utf8_first)] }
def OwnerTellsSaid : Prop := ownerTellsRow.holds Tryz.pinned (OpenSpec.ofChange ownerTellsSpec)

/-- ITS FALSE NEIGHBOUR: 'it returns false'. Refute it at one input. -/
def ownerTellsWrong : ChangeSpec := { name := "ownerTells", fn := fun _ => fun
  | [d1, d2, d3, d4] => { results := [.lit (.bool false)], args := [d1, d2, d3, d4] }
  | _ => none }
def OwnerTellsWrongFalsely : Prop := ownerTellsRow.holds Tryz.pinned (OpenSpec.ofChange ownerTellsWrong)

/-- 'letterlocklaw8.MetaBuilds': WHATEVER THE INPUT: true; the input reads as it did. -/
def metaBuildsSpec : ChangeSpec := { name := "metaBuilds", fn := fun _ => fun
  | [d1, d2, d3, d4, d5, d6] => { results := [.lit (.bool true)], args := [d1, d2, d3, d4, d5, d6] }
  | _ => none }
def metaBuildsRow : OpenClaim := { program := "ytckblcfkajpofaagreatdoor", sum := "98691f5aa268aab3f2d35098f99250870554439c16deb2f4afb78e81dfa881f1", func := "letterlock/letterlocklaw8.MetaBuilds", spec := "metaBuilds", inPlace := ["internal/abi.NoEscape", "internal/bytealg.MakeNoZero"], unfollowed := true, recurses := true, named := ["unicode/utf8.first", "unicode/utf8.acceptRanges"], apart := false, laid := [("unicode/utf8.acceptRanges", laid_unicode_utf8_acceptRanges), ("unicode/utf8.first", laid_unicode_utf8_first)] }
def MetaBuildsSaid : Prop := metaBuildsRow.holds Tryz.pinned (OpenSpec.ofChange metaBuildsSpec)

/-- ITS FALSE NEIGHBOUR: 'it returns false'. Refute it at one input. -/
def metaBuildsWrong : ChangeSpec := { name := "metaBuilds", fn := fun _ => fun
  | [d1, d2, d3, d4, d5, d6] => { results := [.lit (.bool false)], args := [d1, d2, d3, d4, d5, d6] }
  | _ => none }
def MetaBuildsWrongFalsely : Prop := metaBuildsRow.holds Tryz.pinned (OpenSpec.ofChange metaBuildsWrong)

/-- 'letterlocklaw8.MetaBack': WHATEVER THE INPUT: true; the input reads as it did. -/
def metaBackSpec : ChangeSpec := { name := "metaBack", fn := fun _ => fun
  | [d1, d2, d3, d4] => { results := [.lit (.bool true)], args := [d1, d2, d3, d4] }
  | _ => none }
def metaBackRow : OpenClaim := { program := "ytckblcfkajpofaagreatdoor", sum := "98691f5aa268aab3f2d35098f99250870554439c16deb2f4afb78e81dfa881f1", func := "letterlock/letterlocklaw8.MetaBack", spec := "metaBack", inPlace := ["internal/abi.NoEscape", "internal/bytealg.MakeNoZero"], unfollowed := true, recurses := true, named := ["unicode/utf8.first", "unicode/utf8.acceptRanges"], apart := false, laid := [("unicode/utf8.acceptRanges", laid_unicode_utf8_acceptRanges), ("unicode/utf8.first", laid_unicode_utf8_first)] }
def MetaBackSaid : Prop := metaBackRow.holds Tryz.pinned (OpenSpec.ofChange metaBackSpec)

/-- ITS FALSE NEIGHBOUR: 'it returns false'. Refute it at one input. -/
def metaBackWrong : ChangeSpec := { name := "metaBack", fn := fun _ => fun
  | [d1, d2, d3, d4] => { results := [.lit (.bool false)], args := [d1, d2, d3, d4] }
  | _ => none }
def MetaBackWrongFalsely : Prop := metaBackRow.holds Tryz.pinned (OpenSpec.ofChange metaBackWrong)

/-- 'letterlocklaw8.MetaKnown': WHATEVER THE INPUT: true; the input reads as it did. -/
def metaKnownSpec : ChangeSpec := { name := "metaKnown", fn := fun _ => fun
  | [d1, d2, d3, d4] => { results := [.lit (.bool true)], args := [d1, d2, d3, d4] }
  | _ => none }
def metaKnownRow : OpenClaim := { program := "ytckblcfkajpofaagreatdoor", sum := "98691f5aa268aab3f2d35098f99250870554439c16deb2f4afb78e81dfa881f1", func := "letterlock/letterlocklaw8.MetaKnown", spec := "metaKnown", inPlace := ["internal/abi.NoEscape", "internal/bytealg.MakeNoZero"], unfollowed := true, recurses := true, named := ["unicode/utf8.first", "unicode/utf8.acceptRanges"], apart := false, laid := [("unicode/utf8.acceptRanges", laid_unicode_utf8_acceptRanges), ("unicode/utf8.first", laid_unicode_utf8_first)] }
def MetaKnownSaid : Prop := metaKnownRow.holds Tryz.pinned (OpenSpec.ofChange metaKnownSpec)

/-- ITS FALSE NEIGHBOUR: 'it returns false'. Refute it at one input. -/
def metaKnownWrong : ChangeSpec := { name := "metaKnown", fn := fun _ => fun
  | [d1, d2, d3, d4] => { results := [.lit (.bool false)], args := [d1, d2, d3, d4] }
  | _ => none }
def MetaKnownWrongFalsely : Prop := metaKnownRow.holds Tryz.pinned (OpenSpec.ofChange metaKnownWrong)

/-- 'letterlocklaw8.MetaSigned': WHATEVER THE INPUT: true; the input reads as it did. -/
def metaSignedSpec : ChangeSpec := { name := "metaSigned", fn := fun _ => fun
  | [d1, d2, d3] => { results := [.lit (.bool true)], args := [d1, d2, d3] }
  | _ => none }
def metaSignedRow : OpenClaim := { program := "ytckblcfkajpofaagreatdoor", sum := "98691f5aa268aab3f2d35098f99250870554439c16deb2f4afb78e81dfa881f1", func := "letterlock/letterlocklaw8.MetaSigned", spec := "metaSigned", inPlace := ["internal/abi.NoEscape", "internal/bytealg.MakeNoZero"], unfollowed := true, recurses := true, named := ["unicode/utf8.first", "unicode/utf8.acceptRanges"], apart := false, laid := [("unicode/utf8.acceptRanges", laid_unicode_utf8_acceptRanges), ("unicode/utf8.first", laid_unicode_utf8_first)] }
def MetaSignedSaid : Prop := metaSignedRow.holds Tryz.pinned (OpenSpec.ofChange metaSignedSpec)

/-- ITS FALSE NEIGHBOUR: 'it returns false'. Refute it at one input. -/
def metaSignedWrong : ChangeSpec := { name := "metaSigned", fn := fun _ => fun
  | [d1, d2, d3] => { results := [.lit (.bool false)], args := [d1, d2, d3] }
  | _ => none }
def MetaSignedWrongFalsely : Prop := metaSignedRow.holds Tryz.pinned (OpenSpec.ofChange metaSignedWrong)

/-- 'letterlocklaw8.MetaEpochs': WHATEVER THE INPUT: true; the input reads as it did. -/
def metaEpochsSpec : ChangeSpec := { name := "metaEpochs", fn := fun _ => fun
  | [d1, d2, d3, d4] => { results := [.lit (.bool true)], args := [d1, d2, d3, d4] }
  | _ => none }
def metaEpochsRow : OpenClaim := { program := "ytckblcfkajpofaagreatdoor", sum := "98691f5aa268aab3f2d35098f99250870554439c16deb2f4afb78e81dfa881f1", func := "letterlock/letterlocklaw8.MetaEpochs", spec := "metaEpochs", inPlace := ["internal/abi.NoEscape", "internal/bytealg.MakeNoZero"], unfollowed := true, recurses := true, named := ["unicode/utf8.first", "unicode/utf8.acceptRanges"], apart := false, laid := [("unicode/utf8.acceptRanges", laid_unicode_utf8_acceptRanges), ("unicode/utf8.first", laid_unicode_utf8_first)] }
def MetaEpochsSaid : Prop := metaEpochsRow.holds Tryz.pinned (OpenSpec.ofChange metaEpochsSpec)

/-- ITS FALSE NEIGHBOUR: 'it returns false'. Refute it at one input. -/
def metaEpochsWrong : ChangeSpec := { name := "metaEpochs", fn := fun _ => fun
  | [d1, d2, d3, d4] => { results := [.lit (.bool false)], args := [d1, d2, d3, d4] }
  | _ => none }
def MetaEpochsWrongFalsely : Prop := metaEpochsRow.holds Tryz.pinned (OpenSpec.ofChange metaEpochsWrong)

/-- 'letterlocklaw8.MetaTells': WHATEVER THE INPUT: true; the input reads as it did. -/
def metaTellsSpec : ChangeSpec := { name := "metaTells", fn := fun _ => fun
  | [d1, d2, d3, d4, d5] => { results := [.lit (.bool true)], args := [d1, d2, d3, d4, d5] }
  | _ => none }
def metaTellsRow : OpenClaim := { program := "ytckblcfkajpofaagreatdoor", sum := "98691f5aa268aab3f2d35098f99250870554439c16deb2f4afb78e81dfa881f1", func := "letterlock/letterlocklaw8.MetaTells", spec := "metaTells", inPlace := ["internal/abi.NoEscape", "internal/bytealg.MakeNoZero"], unfollowed := true, recurses := true, named := ["unicode/utf8.first", "unicode/utf8.acceptRanges"], apart := false, laid := [("unicode/utf8.acceptRanges", laid_unicode_utf8_acceptRanges), ("unicode/utf8.first", laid_unicode_utf8_first)] }
def MetaTellsSaid : Prop := metaTellsRow.holds Tryz.pinned (OpenSpec.ofChange metaTellsSpec)

/-- ITS FALSE NEIGHBOUR: 'it returns false'. Refute it at one input. -/
def metaTellsWrong : ChangeSpec := { name := "metaTells", fn := fun _ => fun
  | [d1, d2, d3, d4, d5] => { results := [.lit (.bool false)], args := [d1, d2, d3, d4, d5] }
  | _ => none }
def MetaTellsWrongFalsely : Prop := metaTellsRow.holds Tryz.pinned (OpenSpec.ofChange metaTellsWrong)

/-- 'letterlocklaw14.UserErrs': WHATEVER THE INPUT: true; the input reads as it did. -/
def userErrsSpec : ChangeSpec := { name := "userErrs", fn := fun _ => fun
  | [d1, d2] => { results := [.lit (.bool true)], args := [d1, d2] }
  | _ => none }
def userErrsRow : OpenClaim := { program := "ytckblcfkajpofaagreatdoor", sum := "98691f5aa268aab3f2d35098f99250870554439c16deb2f4afb78e81dfa881f1", func := "letterlock/letterlocklaw14.UserErrs", spec := "userErrs", inPlace := ["internal/abi.NoEscape", "internal/bytealg.MakeNoZero", "slices.overlaps[string]"], unfollowed := true, recurses := true, named := ["unicode/utf8.first", "unicode/utf8.acceptRanges"], apart := false, laid := [("unicode/utf8.acceptRanges", laid_unicode_utf8_acceptRanges), ("unicode/utf8.first", laid_unicode_utf8_first)] }
def UserErrsSaid : Prop := userErrsRow.holds Tryz.pinned (OpenSpec.ofChange userErrsSpec)

/-- ITS FALSE NEIGHBOUR: 'it returns false'. Refute it at one input. -/
def userErrsWrong : ChangeSpec := { name := "userErrs", fn := fun _ => fun
  | [d1, d2] => { results := [.lit (.bool false)], args := [d1, d2] }
  | _ => none }
def UserErrsWrongFalsely : Prop := userErrsRow.holds Tryz.pinned (OpenSpec.ofChange userErrsWrong)

/-- 'letterlocklaw14.UserGrows': WHATEVER THE INPUT: true; the input reads as it did. -/
def userGrowsSpec : ChangeSpec := { name := "userGrows", fn := fun _ => fun
  | [d1, d2] => { results := [.lit (.bool true)], args := [d1, d2] }
  | _ => none }
def userGrowsRow : OpenClaim := { program := "ytckblcfkajpofaagreatdoor", sum := "98691f5aa268aab3f2d35098f99250870554439c16deb2f4afb78e81dfa881f1", func := "letterlock/letterlocklaw14.UserGrows", spec := "userGrows", inPlace := ["internal/abi.NoEscape", "internal/bytealg.MakeNoZero", "slices.overlaps[string]"], unfollowed := true, recurses := true, named := ["unicode/utf8.first", "unicode/utf8.acceptRanges"], apart := false, laid := [("unicode/utf8.acceptRanges", laid_unicode_utf8_acceptRanges), ("unicode/utf8.first", laid_unicode_utf8_first)] }
def UserGrowsSaid : Prop := userGrowsRow.holds Tryz.pinned (OpenSpec.ofChange userGrowsSpec)

/-- ITS FALSE NEIGHBOUR: 'it returns false'. Refute it at one input. -/
def userGrowsWrong : ChangeSpec := { name := "userGrows", fn := fun _ => fun
  | [d1, d2] => { results := [.lit (.bool false)], args := [d1, d2] }
  | _ => none }
def UserGrowsWrongFalsely : Prop := userGrowsRow.holds Tryz.pinned (OpenSpec.ofChange userGrowsWrong)

/-- 'letterlocklaw14.UserCopies': WHATEVER THE INPUT: true; the input reads as it did. -/
def userCopiesSpec : ChangeSpec := { name := "userCopies", fn := fun _ => fun
  | [d1, d2, d3, d4] => { results := [.lit (.bool true)], args := [d1, d2, d3, d4] }
  | _ => none }
def userCopiesRow : OpenClaim := { program := "ytckblcfkajpofaagreatdoor", sum := "98691f5aa268aab3f2d35098f99250870554439c16deb2f4afb78e81dfa881f1", func := "letterlock/letterlocklaw14.UserCopies", spec := "userCopies", inPlace := ["internal/abi.NoEscape", "internal/bytealg.MakeNoZero", "slices.overlaps[string]"], unfollowed := true, recurses := true, named := ["unicode/utf8.first", "unicode/utf8.acceptRanges"], apart := false, laid := [("unicode/utf8.acceptRanges", laid_unicode_utf8_acceptRanges), ("unicode/utf8.first", laid_unicode_utf8_first)] }
def UserCopiesSaid : Prop := userCopiesRow.holds Tryz.pinned (OpenSpec.ofChange userCopiesSpec)

/-- ITS FALSE NEIGHBOUR: 'it returns false'. Refute it at one input. -/
def userCopiesWrong : ChangeSpec := { name := "userCopies", fn := fun _ => fun
  | [d1, d2, d3, d4] => { results := [.lit (.bool false)], args := [d1, d2, d3, d4] }
  | _ => none }
def UserCopiesWrongFalsely : Prop := userCopiesRow.holds Tryz.pinned (OpenSpec.ofChange userCopiesWrong)

/-- 'letterlocklaw8.MetaOpens': WHATEVER THE INPUT: true; the input reads as it did. -/
def metaOpensSpec : ChangeSpec := { name := "metaOpens", fn := fun _ => fun
  | [d1, d2, d3] => { results := [.lit (.bool true)], args := [d1, d2, d3] }
  | _ => none }
def metaOpensRow : OpenClaim := { program := "ytckblcfkajpofaagreatdoor", sum := "98691f5aa268aab3f2d35098f99250870554439c16deb2f4afb78e81dfa881f1", func := "letterlock/letterlocklaw8.MetaOpens", spec := "metaOpens", inPlace := ["internal/abi.NoEscape", "internal/bytealg.MakeNoZero"], unfollowed := true, recurses := true, named := ["unicode/utf8.first", "unicode/utf8.acceptRanges"], apart := false, laid := [("unicode/utf8.acceptRanges", laid_unicode_utf8_acceptRanges), ("unicode/utf8.first", laid_unicode_utf8_first)] }
def MetaOpensSaid : Prop := metaOpensRow.holds Tryz.pinned (OpenSpec.ofChange metaOpensSpec)

/-- ITS FALSE NEIGHBOUR: 'it returns false'. Refute it at one input. -/
def metaOpensWrong : ChangeSpec := { name := "metaOpens", fn := fun _ => fun
  | [d1, d2, d3] => { results := [.lit (.bool false)], args := [d1, d2, d3] }
  | _ => none }
def MetaOpensWrongFalsely : Prop := metaOpensRow.holds Tryz.pinned (OpenSpec.ofChange metaOpensWrong)

/-- 'letterlocklaw14.UserPlays': WHATEVER THE INPUT: true; the input reads as it did. -/
def userPlaysSpec : ChangeSpec := { name := "userPlays", fn := fun _ => fun
  | [d1, d2, d3, d4] => { results := [.lit (.bool true)], args := [d1, d2, d3, d4] }
  | _ => none }
def userPlaysRow : OpenClaim := { program := "ytckblcfkajpofaagreatdoor", sum := "98691f5aa268aab3f2d35098f99250870554439c16deb2f4afb78e81dfa881f1", func := "letterlock/letterlocklaw14.UserPlays", spec := "userPlays", inPlace := ["internal/abi.NoEscape", "internal/bytealg.MakeNoZero", "slices.overlaps[string]"], unfollowed := true, recurses := true, named := ["unicode/utf8.first", "unicode/utf8.acceptRanges"], apart := false, laid := [("unicode/utf8.acceptRanges", laid_unicode_utf8_acceptRanges), ("unicode/utf8.first", laid_unicode_utf8_first)] }
def UserPlaysSaid : Prop := userPlaysRow.holds Tryz.pinned (OpenSpec.ofChange userPlaysSpec)

/-- ITS FALSE NEIGHBOUR: 'it returns false'. Refute it at one input. -/
def userPlaysWrong : ChangeSpec := { name := "userPlays", fn := fun _ => fun
  | [d1, d2, d3, d4] => { results := [.lit (.bool false)], args := [d1, d2, d3, d4] }
  | _ => none }
def UserPlaysWrongFalsely : Prop := userPlaysRow.holds Tryz.pinned (OpenSpec.ofChange userPlaysWrong)

/-- 'letterlocklaw14.UserSays': WHATEVER THE INPUT: true; the input reads as it did. -/
def userSaysSpec : ChangeSpec := { name := "userSays", fn := fun _ => fun
  | [d1, d2, d3] => { results := [.lit (.bool true)], args := [d1, d2, d3] }
  | _ => none }
def userSaysRow : OpenClaim := { program := "ytckblcfkajpofaagreatdoor", sum := "98691f5aa268aab3f2d35098f99250870554439c16deb2f4afb78e81dfa881f1", func := "letterlock/letterlocklaw14.UserSays", spec := "userSays", inPlace := ["internal/abi.NoEscape", "internal/bytealg.MakeNoZero", "slices.overlaps[string]"], unfollowed := true, recurses := true, named := ["unicode/utf8.first", "unicode/utf8.acceptRanges"], apart := false, laid := [("unicode/utf8.acceptRanges", laid_unicode_utf8_acceptRanges), ("unicode/utf8.first", laid_unicode_utf8_first)] }
def UserSaysSaid : Prop := userSaysRow.holds Tryz.pinned (OpenSpec.ofChange userSaysSpec)

/-- ITS FALSE NEIGHBOUR: 'it returns false'. Refute it at one input. -/
def userSaysWrong : ChangeSpec := { name := "userSays", fn := fun _ => fun
  | [d1, d2, d3] => { results := [.lit (.bool false)], args := [d1, d2, d3] }
  | _ => none }
def UserSaysWrongFalsely : Prop := userSaysRow.holds Tryz.pinned (OpenSpec.ofChange userSaysWrong)

/-- 'letterlocklaw15.OwnerTimes': WHATEVER THE INPUT: true; the input reads as it did. -/
def ownerTimesSpec : ChangeSpec := { name := "ownerTimes", fn := fun _ => fun
  | [d1, d2, d3, d4, d5] => { results := [.lit (.bool true)], args := [d1, d2, d3, d4, d5] }
  | _ => none }
def ownerTimesRow : OpenClaim := { program := "ytckblcfkajpofaagreatdoor", sum := "98691f5aa268aab3f2d35098f99250870554439c16deb2f4afb78e81dfa881f1", func := "letterlock/letterlocklaw15.OwnerTimes", spec := "ownerTimes", inPlace := ["internal/abi.NoEscape", "internal/bytealg.MakeNoZero", "slices.overlaps[string]", "slices.overlaps[letterlock/owner.Op]"], unfollowed := true, recurses := true, named := ["unicode/utf8.first", "unicode/utf8.acceptRanges"], apart := false, laid := [("unicode/utf8.acceptRanges", laid_unicode_utf8_acceptRanges), ("unicode/utf8.first", laid_unicode_utf8_first)] }
def OwnerTimesSaid : Prop := ownerTimesRow.holds Tryz.pinned (OpenSpec.ofChange ownerTimesSpec)

/-- ITS FALSE NEIGHBOUR: 'it returns false'. Refute it at one input. -/
def ownerTimesWrong : ChangeSpec := { name := "ownerTimes", fn := fun _ => fun
  | [d1, d2, d3, d4, d5] => { results := [.lit (.bool false)], args := [d1, d2, d3, d4, d5] }
  | _ => none }
def OwnerTimesWrongFalsely : Prop := ownerTimesRow.holds Tryz.pinned (OpenSpec.ofChange ownerTimesWrong)

/-- 'letterlocklaw15.OwnerPlans': WHATEVER THE INPUT: true; the input reads as it did. -/
def ownerPlansSpec : ChangeSpec := { name := "ownerPlans", fn := fun _ => fun
  | [d1, d2, d3, d4, d5] => { results := [.lit (.bool true)], args := [d1, d2, d3, d4, d5] }
  | _ => none }
def ownerPlansRow : OpenClaim := { program := "ytckblcfkajpofaagreatdoor", sum := "98691f5aa268aab3f2d35098f99250870554439c16deb2f4afb78e81dfa881f1", func := "letterlock/letterlocklaw15.OwnerPlans", spec := "ownerPlans", inPlace := ["internal/abi.NoEscape", "internal/bytealg.MakeNoZero", "slices.overlaps[string]", "slices.overlaps[letterlock/owner.Op]"], unfollowed := true, recurses := true, named := ["unicode/utf8.first", "unicode/utf8.acceptRanges"], apart := false, laid := [("unicode/utf8.acceptRanges", laid_unicode_utf8_acceptRanges), ("unicode/utf8.first", laid_unicode_utf8_first)] }
def OwnerPlansSaid : Prop := ownerPlansRow.holds Tryz.pinned (OpenSpec.ofChange ownerPlansSpec)

/-- ITS FALSE NEIGHBOUR: 'it returns false'. Refute it at one input. -/
def ownerPlansWrong : ChangeSpec := { name := "ownerPlans", fn := fun _ => fun
  | [d1, d2, d3, d4, d5] => { results := [.lit (.bool false)], args := [d1, d2, d3, d4, d5] }
  | _ => none }
def OwnerPlansWrongFalsely : Prop := ownerPlansRow.holds Tryz.pinned (OpenSpec.ofChange ownerPlansWrong)

/-- 'letterlocklaw15.OwnerDrops': WHATEVER THE INPUT: true; the input reads as it did. -/
def ownerDropsSpec : ChangeSpec := { name := "ownerDrops", fn := fun _ => fun
  | [d1, d2, d3, d4] => { results := [.lit (.bool true)], args := [d1, d2, d3, d4] }
  | _ => none }
def ownerDropsRow : OpenClaim := { program := "ytckblcfkajpofaagreatdoor", sum := "98691f5aa268aab3f2d35098f99250870554439c16deb2f4afb78e81dfa881f1", func := "letterlock/letterlocklaw15.OwnerDrops", spec := "ownerDrops", inPlace := ["internal/abi.NoEscape", "internal/bytealg.MakeNoZero", "slices.overlaps[string]", "slices.overlaps[letterlock/owner.Op]"], unfollowed := true, recurses := true, named := ["unicode/utf8.first", "unicode/utf8.acceptRanges"], apart := false, laid := [("unicode/utf8.acceptRanges", laid_unicode_utf8_acceptRanges), ("unicode/utf8.first", laid_unicode_utf8_first)] }
def OwnerDropsSaid : Prop := ownerDropsRow.holds Tryz.pinned (OpenSpec.ofChange ownerDropsSpec)

/-- ITS FALSE NEIGHBOUR: 'it returns false'. Refute it at one input. -/
def ownerDropsWrong : ChangeSpec := { name := "ownerDrops", fn := fun _ => fun
  | [d1, d2, d3, d4] => { results := [.lit (.bool false)], args := [d1, d2, d3, d4] }
  | _ => none }
def OwnerDropsWrongFalsely : Prop := ownerDropsRow.holds Tryz.pinned (OpenSpec.ofChange ownerDropsWrong)

/-- 'letterlocklaw15.OwnerCovers': WHATEVER THE INPUT: true; the input reads as it did. -/
def ownerCoversSpec : ChangeSpec := { name := "ownerCovers", fn := fun _ => fun
  | [d1, d2, d3, d4] => { results := [.lit (.bool true)], args := [d1, d2, d3, d4] }
  | _ => none }
def ownerCoversRow : OpenClaim := { program := "ytckblcfkajpofaagreatdoor", sum := "98691f5aa268aab3f2d35098f99250870554439c16deb2f4afb78e81dfa881f1", func := "letterlock/letterlocklaw15.OwnerCovers", spec := "ownerCovers", inPlace := ["internal/abi.NoEscape", "internal/bytealg.MakeNoZero", "slices.overlaps[string]", "slices.overlaps[letterlock/owner.Op]"], unfollowed := true, recurses := true, named := ["unicode/utf8.first", "unicode/utf8.acceptRanges"], apart := false, laid := [("unicode/utf8.acceptRanges", laid_unicode_utf8_acceptRanges), ("unicode/utf8.first", laid_unicode_utf8_first)] }
def OwnerCoversSaid : Prop := ownerCoversRow.holds Tryz.pinned (OpenSpec.ofChange ownerCoversSpec)

/-- ITS FALSE NEIGHBOUR: 'it returns false'. Refute it at one input. -/
def ownerCoversWrong : ChangeSpec := { name := "ownerCovers", fn := fun _ => fun
  | [d1, d2, d3, d4] => { results := [.lit (.bool false)], args := [d1, d2, d3, d4] }
  | _ => none }
def OwnerCoversWrongFalsely : Prop := ownerCoversRow.holds Tryz.pinned (OpenSpec.ofChange ownerCoversWrong)

/- THE SECOND FORM. 'bulk': how many values and letters a reading holds, each counted each time it is reached (what is shared counts as often as it is met; a slice's spare places count too). A statement '..UptoSaid' is the law's where the arguments, and the package variables that the reading takes, are together of bulk at most 1048576: NARROWER than '..Said'. Prove '..Said' where nothing that the law and all that it calls make is longer than what came in: it says more and counts as full. Else prove '..UptoSaid'. A law counts once. -/
mutual
def uptoBulk {H : Type} : DataW H → Nat
  | .lit (.string bytes) => bytes.length + 1
  | .lit _ => 1
  | .nil => 1
  | .ptr d => uptoBulk d + 1
  | .slice elems spare => uptoBulkAll elems + uptoBulkAll spare + 1
  | .agg parts => uptoBulkAll parts + 1
  | .iface _ d => uptoBulk d + 1
  | .map entries => uptoBulkEntries entries + 1
  | .held _ => 1
def uptoBulkAll {H : Type} : List (DataW H) → Nat
  | [] => 0
  | d :: r => uptoBulk d + uptoBulkAll r
def uptoBulkEntries {H : Type} : List (Lit × DataW H) → Nat
  | [] => 0
  | x :: r => uptoBulkEntry x + uptoBulkEntries r
def uptoBulkEntry {H : Type} : Lit × DataW H → Nat
  | (.string bytes, d) => bytes.length + uptoBulk d + 1
  | (_, d) => uptoBulk d + 1
 end
def uptoSmall : (H : Type) → List (DataW H) → Bool := fun _ ds => decide (uptoBulkAll ds ≤ 1048576)
def OpenSpec.upto (s : _root_.Go.ChangeSpec) : _root_.Go.OpenSpec := { _root_.Go.OpenSpec.ofChange s with cond := some uptoSmall }

/-- 'letterlocklaw14.UserNames', WHERE WHAT IT READS IS OF BULK AT MOST 1048576: true; the input reads as it did. -/
def userNamesUptoRow : OpenClaim := { program := "ytckblcfkajpofaagreatdoor", sum := "98691f5aa268aab3f2d35098f99250870554439c16deb2f4afb78e81dfa881f1", func := "letterlock/letterlocklaw14.UserNames", spec := "userNames", inPlace := ["internal/abi.NoEscape", "internal/bytealg.MakeNoZero"], unfollowed := true, recurses := true, named := ["unicode/utf8.first", "unicode/utf8.acceptRanges"], apart := false, laid := [("unicode/utf8.acceptRanges", laid_unicode_utf8_acceptRanges), ("unicode/utf8.first", laid_unicode_utf8_first)], narrowed := true }
def UserNamesUptoSaid : Prop := userNamesUptoRow.holds Tryz.pinned (OpenSpec.upto userNamesSpec)

/-- 'letterlocklaw15.OwnerTells', WHERE WHAT IT READS IS OF BULK AT MOST 1048576: true; the input reads as it did. -/
def ownerTellsUptoRow : OpenClaim := { program := "ytckblcfkajpofaagreatdoor", sum := "98691f5aa268aab3f2d35098f99250870554439c16deb2f4afb78e81dfa881f1", func := "letterlock/letterlocklaw15.OwnerTells", spec := "ownerTells", inPlace := ["internal/abi.NoEscape", "internal/bytealg.MakeNoZero"], unfollowed := true, recurses := true, named := ["unicode/utf8.first", "unicode/utf8.acceptRanges"], apart := false, laid := [("unicode/utf8.acceptRanges", laid_unicode_utf8_acceptRanges), ("unicode/utf8.first", laid_unicode_utf8_first)], narrowed := true }
def OwnerTellsUptoSaid : Prop := ownerTellsUptoRow.holds Tryz.pinned (OpenSpec.upto ownerTellsSpec)

/-- 'letterlocklaw8.MetaBuilds', WHERE WHAT IT READS IS OF BULK AT MOST 1048576: true; the input reads as it did. -/
def metaBuildsUptoRow : OpenClaim := { program := "ytckblcfkajpofaagreatdoor", sum := "98691f5aa268aab3f2d35098f99250870554439c16deb2f4afb78e81dfa881f1", func := "letterlock/letterlocklaw8.MetaBuilds", spec := "metaBuilds", inPlace := ["internal/abi.NoEscape", "internal/bytealg.MakeNoZero"], unfollowed := true, recurses := true, named := ["unicode/utf8.first", "unicode/utf8.acceptRanges"], apart := false, laid := [("unicode/utf8.acceptRanges", laid_unicode_utf8_acceptRanges), ("unicode/utf8.first", laid_unicode_utf8_first)], narrowed := true }
def MetaBuildsUptoSaid : Prop := metaBuildsUptoRow.holds Tryz.pinned (OpenSpec.upto metaBuildsSpec)

/-- 'letterlocklaw8.MetaBack', WHERE WHAT IT READS IS OF BULK AT MOST 1048576: true; the input reads as it did. -/
def metaBackUptoRow : OpenClaim := { program := "ytckblcfkajpofaagreatdoor", sum := "98691f5aa268aab3f2d35098f99250870554439c16deb2f4afb78e81dfa881f1", func := "letterlock/letterlocklaw8.MetaBack", spec := "metaBack", inPlace := ["internal/abi.NoEscape", "internal/bytealg.MakeNoZero"], unfollowed := true, recurses := true, named := ["unicode/utf8.first", "unicode/utf8.acceptRanges"], apart := false, laid := [("unicode/utf8.acceptRanges", laid_unicode_utf8_acceptRanges), ("unicode/utf8.first", laid_unicode_utf8_first)], narrowed := true }
def MetaBackUptoSaid : Prop := metaBackUptoRow.holds Tryz.pinned (OpenSpec.upto metaBackSpec)

/-- 'letterlocklaw8.MetaKnown', WHERE WHAT IT READS IS OF BULK AT MOST 1048576: true; the input reads as it did. -/
def metaKnownUptoRow : OpenClaim := { program := "ytckblcfkajpofaagreatdoor", sum := "98691f5aa268aab3f2d35098f99250870554439c16deb2f4afb78e81dfa881f1", func := "letterlock/letterlocklaw8.MetaKnown", spec := "metaKnown", inPlace := ["internal/abi.NoEscape", "internal/bytealg.MakeNoZero"], unfollowed := true, recurses := true, named := ["unicode/utf8.first", "unicode/utf8.acceptRanges"], apart := false, laid := [("unicode/utf8.acceptRanges", laid_unicode_utf8_acceptRanges), ("unicode/utf8.first", laid_unicode_utf8_first)], narrowed := true }
def MetaKnownUptoSaid : Prop := metaKnownUptoRow.holds Tryz.pinned (OpenSpec.upto metaKnownSpec)

/-- 'letterlocklaw8.MetaSigned', WHERE WHAT IT READS IS OF BULK AT MOST 1048576: true; the input reads as it did. -/
def metaSignedUptoRow : OpenClaim := { program := "ytckblcfkajpofaagreatdoor", sum := "98691f5aa268aab3f2d35098f99250870554439c16deb2f4afb78e81dfa881f1", func := "letterlock/letterlocklaw8.MetaSigned", spec := "metaSigned", inPlace := ["internal/abi.NoEscape", "internal/bytealg.MakeNoZero"], unfollowed := true, recurses := true, named := ["unicode/utf8.first", "unicode/utf8.acceptRanges"], apart := false, laid := [("unicode/utf8.acceptRanges", laid_unicode_utf8_acceptRanges), ("unicode/utf8.first", laid_unicode_utf8_first)], narrowed := true }
def MetaSignedUptoSaid : Prop := metaSignedUptoRow.holds Tryz.pinned (OpenSpec.upto metaSignedSpec)

/-- 'letterlocklaw8.MetaEpochs', WHERE WHAT IT READS IS OF BULK AT MOST 1048576: true; the input reads as it did. -/
def metaEpochsUptoRow : OpenClaim := { program := "ytckblcfkajpofaagreatdoor", sum := "98691f5aa268aab3f2d35098f99250870554439c16deb2f4afb78e81dfa881f1", func := "letterlock/letterlocklaw8.MetaEpochs", spec := "metaEpochs", inPlace := ["internal/abi.NoEscape", "internal/bytealg.MakeNoZero"], unfollowed := true, recurses := true, named := ["unicode/utf8.first", "unicode/utf8.acceptRanges"], apart := false, laid := [("unicode/utf8.acceptRanges", laid_unicode_utf8_acceptRanges), ("unicode/utf8.first", laid_unicode_utf8_first)], narrowed := true }
def MetaEpochsUptoSaid : Prop := metaEpochsUptoRow.holds Tryz.pinned (OpenSpec.upto metaEpochsSpec)

/-- 'letterlocklaw8.MetaTells', WHERE WHAT IT READS IS OF BULK AT MOST 1048576: true; the input reads as it did. -/
def metaTellsUptoRow : OpenClaim := { program := "ytckblcfkajpofaagreatdoor", sum := "98691f5aa268aab3f2d35098f99250870554439c16deb2f4afb78e81dfa881f1", func := "letterlock/letterlocklaw8.MetaTells", spec := "metaTells", inPlace := ["internal/abi.NoEscape", "internal/bytealg.MakeNoZero"], unfollowed := true, recurses := true, named := ["unicode/utf8.first", "unicode/utf8.acceptRanges"], apart := false, laid := [("unicode/utf8.acceptRanges", laid_unicode_utf8_acceptRanges), ("unicode/utf8.first", laid_unicode_utf8_first)], narrowed := true }
def MetaTellsUptoSaid : Prop := metaTellsUptoRow.holds Tryz.pinned (OpenSpec.upto metaTellsSpec)

/-- 'letterlocklaw14.UserErrs', WHERE WHAT IT READS IS OF BULK AT MOST 1048576: true; the input reads as it did. -/
def userErrsUptoRow : OpenClaim := { program := "ytckblcfkajpofaagreatdoor", sum := "98691f5aa268aab3f2d35098f99250870554439c16deb2f4afb78e81dfa881f1", func := "letterlock/letterlocklaw14.UserErrs", spec := "userErrs", inPlace := ["internal/abi.NoEscape", "internal/bytealg.MakeNoZero", "slices.overlaps[string]"], unfollowed := true, recurses := true, named := ["unicode/utf8.first", "unicode/utf8.acceptRanges"], apart := false, laid := [("unicode/utf8.acceptRanges", laid_unicode_utf8_acceptRanges), ("unicode/utf8.first", laid_unicode_utf8_first)], narrowed := true }
def UserErrsUptoSaid : Prop := userErrsUptoRow.holds Tryz.pinned (OpenSpec.upto userErrsSpec)

/-- 'letterlocklaw14.UserGrows', WHERE WHAT IT READS IS OF BULK AT MOST 1048576: true; the input reads as it did. -/
def userGrowsUptoRow : OpenClaim := { program := "ytckblcfkajpofaagreatdoor", sum := "98691f5aa268aab3f2d35098f99250870554439c16deb2f4afb78e81dfa881f1", func := "letterlock/letterlocklaw14.UserGrows", spec := "userGrows", inPlace := ["internal/abi.NoEscape", "internal/bytealg.MakeNoZero", "slices.overlaps[string]"], unfollowed := true, recurses := true, named := ["unicode/utf8.first", "unicode/utf8.acceptRanges"], apart := false, laid := [("unicode/utf8.acceptRanges", laid_unicode_utf8_acceptRanges), ("unicode/utf8.first", laid_unicode_utf8_first)], narrowed := true }
def UserGrowsUptoSaid : Prop := userGrowsUptoRow.holds Tryz.pinned (OpenSpec.upto userGrowsSpec)

/-- 'letterlocklaw14.UserCopies', WHERE WHAT IT READS IS OF BULK AT MOST 1048576: true; the input reads as it did. -/
def userCopiesUptoRow : OpenClaim := { program := "ytckblcfkajpofaagreatdoor", sum := "98691f5aa268aab3f2d35098f99250870554439c16deb2f4afb78e81dfa881f1", func := "letterlock/letterlocklaw14.UserCopies", spec := "userCopies", inPlace := ["internal/abi.NoEscape", "internal/bytealg.MakeNoZero", "slices.overlaps[string]"], unfollowed := true, recurses := true, named := ["unicode/utf8.first", "unicode/utf8.acceptRanges"], apart := false, laid := [("unicode/utf8.acceptRanges", laid_unicode_utf8_acceptRanges), ("unicode/utf8.first", laid_unicode_utf8_first)], narrowed := true }
def UserCopiesUptoSaid : Prop := userCopiesUptoRow.holds Tryz.pinned (OpenSpec.upto userCopiesSpec)

/-- 'letterlocklaw8.MetaOpens', WHERE WHAT IT READS IS OF BULK AT MOST 1048576: true; the input reads as it did. -/
def metaOpensUptoRow : OpenClaim := { program := "ytckblcfkajpofaagreatdoor", sum := "98691f5aa268aab3f2d35098f99250870554439c16deb2f4afb78e81dfa881f1", func := "letterlock/letterlocklaw8.MetaOpens", spec := "metaOpens", inPlace := ["internal/abi.NoEscape", "internal/bytealg.MakeNoZero"], unfollowed := true, recurses := true, named := ["unicode/utf8.first", "unicode/utf8.acceptRanges"], apart := false, laid := [("unicode/utf8.acceptRanges", laid_unicode_utf8_acceptRanges), ("unicode/utf8.first", laid_unicode_utf8_first)], narrowed := true }
def MetaOpensUptoSaid : Prop := metaOpensUptoRow.holds Tryz.pinned (OpenSpec.upto metaOpensSpec)

/-- 'letterlocklaw14.UserPlays', WHERE WHAT IT READS IS OF BULK AT MOST 1048576: true; the input reads as it did. -/
def userPlaysUptoRow : OpenClaim := { program := "ytckblcfkajpofaagreatdoor", sum := "98691f5aa268aab3f2d35098f99250870554439c16deb2f4afb78e81dfa881f1", func := "letterlock/letterlocklaw14.UserPlays", spec := "userPlays", inPlace := ["internal/abi.NoEscape", "internal/bytealg.MakeNoZero", "slices.overlaps[string]"], unfollowed := true, recurses := true, named := ["unicode/utf8.first", "unicode/utf8.acceptRanges"], apart := false, laid := [("unicode/utf8.acceptRanges", laid_unicode_utf8_acceptRanges), ("unicode/utf8.first", laid_unicode_utf8_first)], narrowed := true }
def UserPlaysUptoSaid : Prop := userPlaysUptoRow.holds Tryz.pinned (OpenSpec.upto userPlaysSpec)

/-- 'letterlocklaw14.UserSays', WHERE WHAT IT READS IS OF BULK AT MOST 1048576: true; the input reads as it did. -/
def userSaysUptoRow : OpenClaim := { program := "ytckblcfkajpofaagreatdoor", sum := "98691f5aa268aab3f2d35098f99250870554439c16deb2f4afb78e81dfa881f1", func := "letterlock/letterlocklaw14.UserSays", spec := "userSays", inPlace := ["internal/abi.NoEscape", "internal/bytealg.MakeNoZero", "slices.overlaps[string]"], unfollowed := true, recurses := true, named := ["unicode/utf8.first", "unicode/utf8.acceptRanges"], apart := false, laid := [("unicode/utf8.acceptRanges", laid_unicode_utf8_acceptRanges), ("unicode/utf8.first", laid_unicode_utf8_first)], narrowed := true }
def UserSaysUptoSaid : Prop := userSaysUptoRow.holds Tryz.pinned (OpenSpec.upto userSaysSpec)

/-- 'letterlocklaw15.OwnerTimes', WHERE WHAT IT READS IS OF BULK AT MOST 1048576: true; the input reads as it did. -/
def ownerTimesUptoRow : OpenClaim := { program := "ytckblcfkajpofaagreatdoor", sum := "98691f5aa268aab3f2d35098f99250870554439c16deb2f4afb78e81dfa881f1", func := "letterlock/letterlocklaw15.OwnerTimes", spec := "ownerTimes", inPlace := ["internal/abi.NoEscape", "internal/bytealg.MakeNoZero", "slices.overlaps[string]", "slices.overlaps[letterlock/owner.Op]"], unfollowed := true, recurses := true, named := ["unicode/utf8.first", "unicode/utf8.acceptRanges"], apart := false, laid := [("unicode/utf8.acceptRanges", laid_unicode_utf8_acceptRanges), ("unicode/utf8.first", laid_unicode_utf8_first)], narrowed := true }
def OwnerTimesUptoSaid : Prop := ownerTimesUptoRow.holds Tryz.pinned (OpenSpec.upto ownerTimesSpec)

/-- 'letterlocklaw15.OwnerPlans', WHERE WHAT IT READS IS OF BULK AT MOST 1048576: true; the input reads as it did. -/
def ownerPlansUptoRow : OpenClaim := { program := "ytckblcfkajpofaagreatdoor", sum := "98691f5aa268aab3f2d35098f99250870554439c16deb2f4afb78e81dfa881f1", func := "letterlock/letterlocklaw15.OwnerPlans", spec := "ownerPlans", inPlace := ["internal/abi.NoEscape", "internal/bytealg.MakeNoZero", "slices.overlaps[string]", "slices.overlaps[letterlock/owner.Op]"], unfollowed := true, recurses := true, named := ["unicode/utf8.first", "unicode/utf8.acceptRanges"], apart := false, laid := [("unicode/utf8.acceptRanges", laid_unicode_utf8_acceptRanges), ("unicode/utf8.first", laid_unicode_utf8_first)], narrowed := true }
def OwnerPlansUptoSaid : Prop := ownerPlansUptoRow.holds Tryz.pinned (OpenSpec.upto ownerPlansSpec)

/-- 'letterlocklaw15.OwnerDrops', WHERE WHAT IT READS IS OF BULK AT MOST 1048576: true; the input reads as it did. -/
def ownerDropsUptoRow : OpenClaim := { program := "ytckblcfkajpofaagreatdoor", sum := "98691f5aa268aab3f2d35098f99250870554439c16deb2f4afb78e81dfa881f1", func := "letterlock/letterlocklaw15.OwnerDrops", spec := "ownerDrops", inPlace := ["internal/abi.NoEscape", "internal/bytealg.MakeNoZero", "slices.overlaps[string]", "slices.overlaps[letterlock/owner.Op]"], unfollowed := true, recurses := true, named := ["unicode/utf8.first", "unicode/utf8.acceptRanges"], apart := false, laid := [("unicode/utf8.acceptRanges", laid_unicode_utf8_acceptRanges), ("unicode/utf8.first", laid_unicode_utf8_first)], narrowed := true }
def OwnerDropsUptoSaid : Prop := ownerDropsUptoRow.holds Tryz.pinned (OpenSpec.upto ownerDropsSpec)

/-- 'letterlocklaw15.OwnerCovers', WHERE WHAT IT READS IS OF BULK AT MOST 1048576: true; the input reads as it did. -/
def ownerCoversUptoRow : OpenClaim := { program := "ytckblcfkajpofaagreatdoor", sum := "98691f5aa268aab3f2d35098f99250870554439c16deb2f4afb78e81dfa881f1", func := "letterlock/letterlocklaw15.OwnerCovers", spec := "ownerCovers", inPlace := ["internal/abi.NoEscape", "internal/bytealg.MakeNoZero", "slices.overlaps[string]", "slices.overlaps[letterlock/owner.Op]"], unfollowed := true, recurses := true, named := ["unicode/utf8.first", "unicode/utf8.acceptRanges"], apart := false, laid := [("unicode/utf8.acceptRanges", laid_unicode_utf8_acceptRanges), ("unicode/utf8.first", laid_unicode_utf8_first)], narrowed := true }
def OwnerCoversUptoSaid : Prop := ownerCoversUptoRow.holds Tryz.pinned (OpenSpec.upto ownerCoversSpec)

end Rows
end Go.Proofs.YtckblcfkajpofaaGreatDoor
