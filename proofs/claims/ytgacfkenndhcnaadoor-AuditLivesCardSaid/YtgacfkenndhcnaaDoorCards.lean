/-
  DERIVED. GIVEN WITH THE SEED: THE CARDS: each row of YtgacfkenndhcnaaDoorRows.lean that lists a variable, with what it lists TIED to the program's text (the seventh form; the later family's looks); each row that meets fmt, with fmt's text TOLD by the authors' own Lean function (tested against real Go, not proved from fmt's source: count such statements apart). THE CARD IS WHAT COUNTS. Prove the row's statement (the work); the ties are given (YtgacfkenndhcnaaDoorTie.lean); close each card by the builder's one call (the guide's Derived/Test/ToyasCard.lean, 'card_holds'). Laid BY PROGRAM, IN A SANDBOX (cutbox-door.mjs). By AI agents, Wed Nov 11 2026. No macro, syntax, notation, axiom, sorry.
-/
import Derived.Test.YtgacfkenndhcnaaDoorRows
import GoSem.ClaimSeven
namespace Go.Proofs.YtgacfkenndhcnaaDoor
namespace Rows

/-- THE TIED CARD OF 'letterlocklaw20.AuditLives'. -/
def auditLivesCard : Claim7 := { stood := { row := auditLivesRow, standIns := [], harness := (true, "77d45c508eba58b8c16f41f39f4856e8757a44169e251e661c67cbe1c1ba3a12"), looks := false }, kinds := [], alts := [], laidByText := true, laidKinds := [.data, .pinned], laidTests := true, laidLooks := .later }
def AuditLivesCardSaid : Prop := Claim7.holds Tryd.pinned (.plain (OpenSpec.ofChange auditLivesSpec)) auditLivesCard

/-- THE SECOND FORM's CARD OF 'letterlocklaw20.AuditLives'. -/
def auditLivesUptoCard : Claim7 := { stood := { row := auditLivesUptoRow, standIns := [], harness := (true, "77d45c508eba58b8c16f41f39f4856e8757a44169e251e661c67cbe1c1ba3a12"), looks := false }, kinds := [], alts := [], laidByText := true, laidKinds := [.data, .pinned], laidTests := true, laidLooks := .later }
def AuditLivesUptoCardSaid : Prop := Claim7.holds Tryd.pinned (.plain (OpenSpec.upto auditLivesSpec)) auditLivesUptoCard
end Rows
end Go.Proofs.YtgacfkenndhcnaaDoor
