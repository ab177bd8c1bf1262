/-
  DERIVED. GIVEN WITH THE SEED: THE CARDS: each row of YtmallmnilihcdaaDoorRows.lean that lists a variable, with what it lists TIED to the program's text (the seventh form; the later family's looks); each row that meets fmt, with fmt's text TOLD by the authors' own Lean function (tested against real Go, not proved from fmt's source: count such statements apart). THE CARD IS WHAT COUNTS. Prove the row's statement (the work); the ties are given (YtmallmnilihcdaaDoorTie.lean); close each card by the builder's one call (the guide's Derived/Test/ToyasCard.lean, 'card_holds'). Laid BY PROGRAM, IN A SANDBOX (cutbox-door.mjs). By AI agents, Wed Nov 11 2026. No macro, syntax, notation, axiom, sorry.
-/
import Derived.Test.YtmallmnilihcdaaDoorRows
import GoSem.ClaimSeven
namespace Go.Proofs.YtmallmnilihcdaaDoor
namespace Rows

/-- THE TIED CARD OF 'letterlocklaw15.OwnerKeys'. -/
def ownerKeysCard : Claim7 := { stood := { row := ownerKeysRow, standIns := [], harness := (true, "5a70a45f25a76ec75bb0acf65ec3fd17d20515239e83d13c7865cb20d31c3d5a"), looks := false }, kinds := [], alts := [], laidByText := true, laidKinds := [.data, .pinned], laidTests := true, laidLooks := .later }
def OwnerKeysCardSaid : Prop := Claim7.holds Tryd.pinned (.plain (OpenSpec.ofChange ownerKeysSpec)) ownerKeysCard

/-- THE SECOND FORM's CARD OF 'letterlocklaw15.OwnerKeys'. -/
def ownerKeysUptoCard : Claim7 := { stood := { row := ownerKeysUptoRow, standIns := [], harness := (true, "5a70a45f25a76ec75bb0acf65ec3fd17d20515239e83d13c7865cb20d31c3d5a"), looks := false }, kinds := [], alts := [], laidByText := true, laidKinds := [.data, .pinned], laidTests := true, laidLooks := .later }
def OwnerKeysUptoCardSaid : Prop := Claim7.holds Tryd.pinned (.plain (OpenSpec.upto ownerKeysSpec)) ownerKeysUptoCard
end Rows
end Go.Proofs.YtmallmnilihcdaaDoor
