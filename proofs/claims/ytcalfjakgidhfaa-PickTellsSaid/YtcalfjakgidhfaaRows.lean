/-
  No cell of these rows narrows 'for every input' (looked for: loops, veiled, ifaces, maps, wideKeys, modest, calm, conditions, laid).
  DERIVED. THE GIVEN ROWS OF THIS SEAT. 10 by the template 'for every input the law returns true; each argument reads behind the call as it read before'; 0 by the template 'total and deterministic' (their statements: YtcalfjakgidhfaaTotals.lean).
  GIVEN WITH THE SEED: the statements are not yours to turn. If you find one false, say at which input.
  Laid BY PROGRAM, IN A SANDBOX (cutbox-rows.mjs): the forced cells as the released guide's own fill.sh prints them over the translation 0450fe23563e34e9… (all of the seat's roots in one cut). By AI agents, Wed Nov 11 2026. No macro, syntax, notation, axiom, sorry.
-/
import Derived.Test.YtcalfjakgidhfaaChecked
import GoSem.Claim
import GoSem.ClaimJoined
import GoSem.ClaimMapViews
import Derived.JoinedTies
import Derived.KernelRfl
namespace Go.Proofs.Ytcalfjakgidhfaa
/- THE CELL 'sum', in the pinned program and in every row, IS THE sha256 OF THE DUMP (.gsa) THAT YtcalfjakgidhfaaProg.lean LOADS. Nothing in Lean hashes anything: it is a label: what it is worth is what the hold of that sum in a sandbox is worth. -/
noncomputable def Try.pinned : Pinned := { name := "ytcalfjakgidhfaa", sum := "0450fe23563e34e9c7a33f66041fff810ccd6950423b70efc0045273ebd99b06", checked := Try.checked }
namespace Rows
def none {H : Type} : Left H := { results := [], args := [] }

/-- 'letterlocklaw12.StoreApart': WHATEVER THE INPUT: true; the input reads as it did. -/
def storeApartSpec : ChangeSpec := { name := "storeApart", fn := fun _ => fun
  | [d1, d2] => { results := [.lit (.bool true)], args := [d1, d2] }
  | _ => none }
def storeApartRow : OpenClaim := { program := "ytcalfjakgidhfaa", sum := "0450fe23563e34e9c7a33f66041fff810ccd6950423b70efc0045273ebd99b06", func := "letterlock/letterlocklaw12.StoreApart", spec := "storeApart", apart := false }
def StoreApartSaid : Prop := storeApartRow.holds Try.pinned (OpenSpec.ofChange storeApartSpec)

/-- ITS FALSE NEIGHBOUR: 'it returns false'. Refute it at one input. -/
def storeApartWrong : ChangeSpec := { name := "storeApart", fn := fun _ => fun
  | [d1, d2] => { results := [.lit (.bool false)], args := [d1, d2] }
  | _ => none }
def StoreApartWrongFalsely : Prop := storeApartRow.holds Try.pinned (OpenSpec.ofChange storeApartWrong)

/-- 'letterlocklaw13.PickMade': WHATEVER THE INPUT: true; the input reads as it did. -/
def pickMadeSpec : ChangeSpec := { name := "pickMade", fn := fun _ => fun
  | [d1, d2, d3, d4, d5] => { results := [.lit (.bool true)], args := [d1, d2, d3, d4, d5] }
  | _ => none }
def pickMadeRow : OpenClaim := { program := "ytcalfjakgidhfaa", sum := "0450fe23563e34e9c7a33f66041fff810ccd6950423b70efc0045273ebd99b06", func := "letterlock/letterlocklaw13.PickMade", spec := "pickMade", unfollowed := true, recurses := true, apart := false }
def PickMadeSaid : Prop := pickMadeRow.holds Try.pinned (OpenSpec.ofChange pickMadeSpec)

/-- ITS FALSE NEIGHBOUR: 'it returns false'. Refute it at one input. -/
def pickMadeWrong : ChangeSpec := { name := "pickMade", fn := fun _ => fun
  | [d1, d2, d3, d4, d5] => { results := [.lit (.bool false)], args := [d1, d2, d3, d4, d5] }
  | _ => none }
def PickMadeWrongFalsely : Prop := pickMadeRow.holds Try.pinned (OpenSpec.ofChange pickMadeWrong)

/-- 'letterlocklaw13.PickOld': WHATEVER THE INPUT: true; the input reads as it did. -/
def pickOldSpec : ChangeSpec := { name := "pickOld", fn := fun _ => fun
  | [d1, d2, d3] => { results := [.lit (.bool true)], args := [d1, d2, d3] }
  | _ => none }
def pickOldRow : OpenClaim := { program := "ytcalfjakgidhfaa", sum := "0450fe23563e34e9c7a33f66041fff810ccd6950423b70efc0045273ebd99b06", func := "letterlock/letterlocklaw13.PickOld", spec := "pickOld", unfollowed := true, recurses := true, apart := false }
def PickOldSaid : Prop := pickOldRow.holds Try.pinned (OpenSpec.ofChange pickOldSpec)

/-- ITS FALSE NEIGHBOUR: 'it returns false'. Refute it at one input. -/
def pickOldWrong : ChangeSpec := { name := "pickOld", fn := fun _ => fun
  | [d1, d2, d3] => { results := [.lit (.bool false)], args := [d1, d2, d3] }
  | _ => none }
def PickOldWrongFalsely : Prop := pickOldRow.holds Try.pinned (OpenSpec.ofChange pickOldWrong)

/-- 'letterlocklaw12.StoreFills': WHATEVER THE INPUT: true; the input reads as it did. -/
def storeFillsSpec : ChangeSpec := { name := "storeFills", fn := fun _ => fun
  | [d] => { results := [.lit (.bool true)], args := [d] }
  | _ => none }
def storeFillsRow : OpenClaim := { program := "ytcalfjakgidhfaa", sum := "0450fe23563e34e9c7a33f66041fff810ccd6950423b70efc0045273ebd99b06", func := "letterlock/letterlocklaw12.StoreFills", spec := "storeFills", unfollowed := true, recurses := true, apart := false }
def StoreFillsSaid : Prop := storeFillsRow.holds Try.pinned (OpenSpec.ofChange storeFillsSpec)

/-- ITS FALSE NEIGHBOUR: 'it returns false'. Refute it at one input. -/
def storeFillsWrong : ChangeSpec := { name := "storeFills", fn := fun _ => fun
  | [d] => { results := [.lit (.bool false)], args := [d] }
  | _ => none }
def StoreFillsWrongFalsely : Prop := storeFillsRow.holds Try.pinned (OpenSpec.ofChange storeFillsWrong)

/-- 'letterlocklaw12.StoreLast': WHATEVER THE INPUT: true; the input reads as it did. -/
def storeLastSpec : ChangeSpec := { name := "storeLast", fn := fun _ => fun
  | [d] => { results := [.lit (.bool true)], args := [d] }
  | _ => none }
def storeLastRow : OpenClaim := { program := "ytcalfjakgidhfaa", sum := "0450fe23563e34e9c7a33f66041fff810ccd6950423b70efc0045273ebd99b06", func := "letterlock/letterlocklaw12.StoreLast", spec := "storeLast", unfollowed := true, recurses := true, apart := false }
def StoreLastSaid : Prop := storeLastRow.holds Try.pinned (OpenSpec.ofChange storeLastSpec)

/-- ITS FALSE NEIGHBOUR: 'it returns false'. Refute it at one input. -/
def storeLastWrong : ChangeSpec := { name := "storeLast", fn := fun _ => fun
  | [d] => { results := [.lit (.bool false)], args := [d] }
  | _ => none }
def StoreLastWrongFalsely : Prop := storeLastRow.holds Try.pinned (OpenSpec.ofChange storeLastWrong)

/-- 'letterlocklaw12.StoreBounds': WHATEVER THE INPUT: true; the input reads as it did. -/
def storeBoundsSpec : ChangeSpec := { name := "storeBounds", fn := fun _ => fun
  | [d1, d2, d3] => { results := [.lit (.bool true)], args := [d1, d2, d3] }
  | _ => none }
def storeBoundsRow : OpenClaim := { program := "ytcalfjakgidhfaa", sum := "0450fe23563e34e9c7a33f66041fff810ccd6950423b70efc0045273ebd99b06", func := "letterlock/letterlocklaw12.StoreBounds", spec := "storeBounds", unfollowed := true, recurses := true, apart := false }
def StoreBoundsSaid : Prop := storeBoundsRow.holds Try.pinned (OpenSpec.ofChange storeBoundsSpec)

/-- ITS FALSE NEIGHBOUR: 'it returns false'. Refute it at one input. -/
def storeBoundsWrong : ChangeSpec := { name := "storeBounds", fn := fun _ => fun
  | [d1, d2, d3] => { results := [.lit (.bool false)], args := [d1, d2, d3] }
  | _ => none }
def StoreBoundsWrongFalsely : Prop := storeBoundsRow.holds Try.pinned (OpenSpec.ofChange storeBoundsWrong)

/-- 'letterlocklaw12.StoreLists': WHATEVER THE INPUT: true; the input reads as it did. -/
def storeListsSpec : ChangeSpec := { name := "storeLists", fn := fun _ => fun
  | [d1, d2] => { results := [.lit (.bool true)], args := [d1, d2] }
  | _ => none }
def storeListsRow : OpenClaim := { program := "ytcalfjakgidhfaa", sum := "0450fe23563e34e9c7a33f66041fff810ccd6950423b70efc0045273ebd99b06", func := "letterlock/letterlocklaw12.StoreLists", spec := "storeLists", unfollowed := true, recurses := true, apart := false }
def StoreListsSaid : Prop := storeListsRow.holds Try.pinned (OpenSpec.ofChange storeListsSpec)

/-- ITS FALSE NEIGHBOUR: 'it returns false'. Refute it at one input. -/
def storeListsWrong : ChangeSpec := { name := "storeLists", fn := fun _ => fun
  | [d1, d2] => { results := [.lit (.bool false)], args := [d1, d2] }
  | _ => none }
def StoreListsWrongFalsely : Prop := storeListsRow.holds Try.pinned (OpenSpec.ofChange storeListsWrong)

/-- 'letterlocklaw13.PickNil': WHATEVER THE INPUT: true; the input reads as it did. -/
def pickNilSpec : ChangeSpec := { name := "pickNil", fn := fun _ => fun
  | [d1, d2, d3] => { results := [.lit (.bool true)], args := [d1, d2, d3] }
  | _ => none }
def pickNilRow : OpenClaim := { program := "ytcalfjakgidhfaa", sum := "0450fe23563e34e9c7a33f66041fff810ccd6950423b70efc0045273ebd99b06", func := "letterlock/letterlocklaw13.PickNil", spec := "pickNil", unfollowed := true, recurses := true, apart := false }
def PickNilSaid : Prop := pickNilRow.holds Try.pinned (OpenSpec.ofChange pickNilSpec)

/-- ITS FALSE NEIGHBOUR: 'it returns false'. Refute it at one input. -/
def pickNilWrong : ChangeSpec := { name := "pickNil", fn := fun _ => fun
  | [d1, d2, d3] => { results := [.lit (.bool false)], args := [d1, d2, d3] }
  | _ => none }
def PickNilWrongFalsely : Prop := pickNilRow.holds Try.pinned (OpenSpec.ofChange pickNilWrong)

/-- 'letterlocklaw13.PickLists': WHATEVER THE INPUT: true; the input reads as it did. -/
def pickListsSpec : ChangeSpec := { name := "pickLists", fn := fun _ => fun
  | [d1, d2, d3] => { results := [.lit (.bool true)], args := [d1, d2, d3] }
  | _ => none }
def pickListsRow : OpenClaim := { program := "ytcalfjakgidhfaa", sum := "0450fe23563e34e9c7a33f66041fff810ccd6950423b70efc0045273ebd99b06", func := "letterlock/letterlocklaw13.PickLists", spec := "pickLists", unfollowed := true, recurses := true, apart := false }
def PickListsSaid : Prop := pickListsRow.holds Try.pinned (OpenSpec.ofChange pickListsSpec)

/-- ITS FALSE NEIGHBOUR: 'it returns false'. Refute it at one input. -/
def pickListsWrong : ChangeSpec := { name := "pickLists", fn := fun _ => fun
  | [d1, d2, d3] => { results := [.lit (.bool false)], args := [d1, d2, d3] }
  | _ => none }
def PickListsWrongFalsely : Prop := pickListsRow.holds Try.pinned (OpenSpec.ofChange pickListsWrong)

/-- 'letterlocklaw13.PickTells': WHATEVER THE INPUT: true; the input reads as it did. -/
def pickTellsSpec : ChangeSpec := { name := "pickTells", fn := fun _ => fun
  | [d1, d2, d3, d4] => { results := [.lit (.bool true)], args := [d1, d2, d3, d4] }
  | _ => none }
def pickTellsRow : OpenClaim := { program := "ytcalfjakgidhfaa", sum := "0450fe23563e34e9c7a33f66041fff810ccd6950423b70efc0045273ebd99b06", func := "letterlock/letterlocklaw13.PickTells", spec := "pickTells", unfollowed := true, recurses := true, apart := false }
def PickTellsSaid : Prop := pickTellsRow.holds Try.pinned (OpenSpec.ofChange pickTellsSpec)

/-- ITS FALSE NEIGHBOUR: 'it returns false'. Refute it at one input. -/
def pickTellsWrong : ChangeSpec := { name := "pickTells", fn := fun _ => fun
  | [d1, d2, d3, d4] => { results := [.lit (.bool false)], args := [d1, d2, d3, d4] }
  | _ => none }
def PickTellsWrongFalsely : Prop := pickTellsRow.holds Try.pinned (OpenSpec.ofChange pickTellsWrong)

/- THE SECOND FORM. 'bulk': how many values and letters a reading holds, each counted each time it is reached (what is shared counts as often as it is met; a slice's spare places count too). A statement '..UptoSaid' is the law's where the arguments, and the package variables that the reading takes, are together of bulk at most 1048576: NARROWER than '..Said'. Prove '..Said' where nothing that the law and all that it calls make is longer than what came in: it says more and counts as full. Else prove '..UptoSaid'. A law counts once. -/
mutual
def uptoBulk {H : Type} : DataW H → Nat
  | .lit (.string bytes) => bytes.length + 1
  | .lit _ => 1
  | .nil => 1
  | .ptr d => uptoBulk d + 1
  | .slice elems spare => uptoBulkAll elems + uptoBulkAll spare + 1
  | .agg parts => uptoBulkAll parts + 1
  | .iface _ d => uptoBulk d + 1
  | .map entries => uptoBulkEntries entries + 1
  | .held _ => 1
def uptoBulkAll {H : Type} : List (DataW H) → Nat
  | [] => 0
  | d :: r => uptoBulk d + uptoBulkAll r
def uptoBulkEntries {H : Type} : List (Lit × DataW H) → Nat
  | [] => 0
  | x :: r => uptoBulkEntry x + uptoBulkEntries r
def uptoBulkEntry {H : Type} : Lit × DataW H → Nat
  | (.string bytes, d) => bytes.length + uptoBulk d + 1
  | (_, d) => uptoBulk d + 1
 end
def uptoSmall : (H : Type) → List (DataW H) → Bool := fun _ ds => decide (uptoBulkAll ds ≤ 1048576)
def OpenSpec.upto (s : _root_.Go.ChangeSpec) : _root_.Go.OpenSpec := { _root_.Go.OpenSpec.ofChange s with cond := some uptoSmall }

/-- 'letterlocklaw12.StoreApart', WHERE WHAT IT READS IS OF BULK AT MOST 1048576: true; the input reads as it did. -/
def storeApartUptoRow : OpenClaim := { program := "ytcalfjakgidhfaa", sum := "0450fe23563e34e9c7a33f66041fff810ccd6950423b70efc0045273ebd99b06", func := "letterlock/letterlocklaw12.StoreApart", spec := "storeApart", apart := false, narrowed := true }
def StoreApartUptoSaid : Prop := storeApartUptoRow.holds Try.pinned (OpenSpec.upto storeApartSpec)

/-- 'letterlocklaw13.PickMade', WHERE WHAT IT READS IS OF BULK AT MOST 1048576: true; the input reads as it did. -/
def pickMadeUptoRow : OpenClaim := { program := "ytcalfjakgidhfaa", sum := "0450fe23563e34e9c7a33f66041fff810ccd6950423b70efc0045273ebd99b06", func := "letterlock/letterlocklaw13.PickMade", spec := "pickMade", unfollowed := true, recurses := true, apart := false, narrowed := true }
def PickMadeUptoSaid : Prop := pickMadeUptoRow.holds Try.pinned (OpenSpec.upto pickMadeSpec)

/-- 'letterlocklaw13.PickOld', WHERE WHAT IT READS IS OF BULK AT MOST 1048576: true; the input reads as it did. -/
def pickOldUptoRow : OpenClaim := { program := "ytcalfjakgidhfaa", sum := "0450fe23563e34e9c7a33f66041fff810ccd6950423b70efc0045273ebd99b06", func := "letterlock/letterlocklaw13.PickOld", spec := "pickOld", unfollowed := true, recurses := true, apart := false, narrowed := true }
def PickOldUptoSaid : Prop := pickOldUptoRow.holds Try.pinned (OpenSpec.upto pickOldSpec)

/-- 'letterlocklaw12.StoreFills', WHERE WHAT IT READS IS OF BULK AT MOST 1048576: true; the input reads as it did. -/
def storeFillsUptoRow : OpenClaim := { program := "ytcalfjakgidhfaa", sum := "0450fe23563e34e9c7a33f66041fff810ccd6950423b70efc0045273ebd99b06", func := "letterlock/letterlocklaw12.StoreFills", spec := "storeFills", unfollowed := true, recurses := true, apart := false, narrowed := true }
def StoreFillsUptoSaid : Prop := storeFillsUptoRow.holds Try.pinned (OpenSpec.upto storeFillsSpec)

/-- 'letterlocklaw12.StoreLast', WHERE WHAT IT READS IS OF BULK AT MOST 1048576: true; the input reads as it did. -/
def storeLastUptoRow : OpenClaim := { program := "ytcalfjakgidhfaa", sum := "0450fe23563e34e9c7a33f66041fff810ccd6950423b70efc0045273ebd99b06", func := "letterlock/letterlocklaw12.StoreLast", spec := "storeLast", unfollowed := true, recurses := true, apart := false, narrowed := true }
def StoreLastUptoSaid : Prop := storeLastUptoRow.holds Try.pinned (OpenSpec.upto storeLastSpec)

/-- 'letterlocklaw12.StoreBounds', WHERE WHAT IT READS IS OF BULK AT MOST 1048576: true; the input reads as it did. -/
def storeBoundsUptoRow : OpenClaim := { program := "ytcalfjakgidhfaa", sum := "0450fe23563e34e9c7a33f66041fff810ccd6950423b70efc0045273ebd99b06", func := "letterlock/letterlocklaw12.StoreBounds", spec := "storeBounds", unfollowed := true, recurses := true, apart := false, narrowed := true }
def StoreBoundsUptoSaid : Prop := storeBoundsUptoRow.holds Try.pinned (OpenSpec.upto storeBoundsSpec)

/-- 'letterlocklaw12.StoreLists', WHERE WHAT IT READS IS OF BULK AT MOST 1048576: true; the input reads as it did. -/
def storeListsUptoRow : OpenClaim := { program := "ytcalfjakgidhfaa", sum := "0450fe23563e34e9c7a33f66041fff810ccd6950423b70efc0045273ebd99b06", func := "letterlock/letterlocklaw12.StoreLists", spec := "storeLists", unfollowed := true, recurses := true, apart := false, narrowed := true }
def StoreListsUptoSaid : Prop := storeListsUptoRow.holds Try.pinned (OpenSpec.upto storeListsSpec)

/-- 'letterlocklaw13.PickNil', WHERE WHAT IT READS IS OF BULK AT MOST 1048576: true; the input reads as it did. -/
def pickNilUptoRow : OpenClaim := { program := "ytcalfjakgidhfaa", sum := "0450fe23563e34e9c7a33f66041fff810ccd6950423b70efc0045273ebd99b06", func := "letterlock/letterlocklaw13.PickNil", spec := "pickNil", unfollowed := true, recurses := true, apart := false, narrowed := true }
def PickNilUptoSaid : Prop := pickNilUptoRow.holds Try.pinned (OpenSpec.upto pickNilSpec)

/-- 'letterlocklaw13.PickLists', WHERE WHAT IT READS IS OF BULK AT MOST 1048576: true; the input reads as it did. -/
def pickListsUptoRow : OpenClaim := { program := "ytcalfjakgidhfaa", sum := "0450fe23563e34e9c7a33f66041fff810ccd6950423b70efc0045273ebd99b06", func := "letterlock/letterlocklaw13.PickLists", spec := "pickLists", unfollowed := true, recurses := true, apart := false, narrowed := true }
def PickListsUptoSaid : Prop := pickListsUptoRow.holds Try.pinned (OpenSpec.upto pickListsSpec)

/-- 'letterlocklaw13.PickTells', WHERE WHAT IT READS IS OF BULK AT MOST 1048576: true; the input reads as it did. -/
def pickTellsUptoRow : OpenClaim := { program := "ytcalfjakgidhfaa", sum := "0450fe23563e34e9c7a33f66041fff810ccd6950423b70efc0045273ebd99b06", func := "letterlock/letterlocklaw13.PickTells", spec := "pickTells", unfollowed := true, recurses := true, apart := false, narrowed := true }
def PickTellsUptoSaid : Prop := pickTellsUptoRow.holds Try.pinned (OpenSpec.upto pickTellsSpec)

end Rows
end Go.Proofs.Ytcalfjakgidhfaa
