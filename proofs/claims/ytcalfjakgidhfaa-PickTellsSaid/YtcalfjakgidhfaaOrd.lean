/- Go's order of strings, and lists in order. -/
import Derived.Test.YtcalfjakgidhfaaBMem
namespace Go.Proofs.Ytcalfjakgidhfaa
open Go.RowKit
set_option linter.unusedVariables false
set_option linter.unusedSimpArgs false

/-- Go's order of strings. -/
def bLt (x y : ByteArray) : Bool := decide (x.toList < y.toList)
def bLe (x y : ByteArray) : Bool := !bLt y x
def bcmp (x y : ByteArray) : Int := if bLt x y then -1 else if bLt y x then 1 else 0
def sortB (l : List ByteArray) : List ByteArray := l.mergeSort bLe

theorem blist_inj {a b : ByteArray} (h : a.toList = b.toList) : a = b := by
  rw [ByteArray.toList_eq, ByteArray.toList_eq] at h
  cases a; cases b; simp at h; rw [h]
theorem bLt_irrefl (x : ByteArray) : bLt x x = false := by simp [bLt, List.lt_irrefl]
theorem bLt_trans {x y z : ByteArray} (h1 : bLt x y = true) (h2 : bLt y z = true) : bLt x z = true := by
  simp only [bLt, decide_eq_true_eq] at *; exact List.lt_trans h1 h2
theorem bLt_ntrans {x y z : ByteArray} (h1 : bLt x y = false) (h2 : bLt y z = false) : bLt x z = false := by
  simp only [bLt, decide_eq_false_iff_not, List.not_lt] at *; exact List.le_trans h2 h1
theorem bLt_antisymm {x y : ByteArray} (h1 : bLt x y = false) (h2 : bLt y x = false) : x = y := by
  simp only [bLt, decide_eq_false_iff_not, List.not_lt] at *; exact blist_inj (List.le_antisymm h2 h1)
theorem bLt_asymm {x y : ByteArray} (h : bLt x y = true) : bLt y x = false := by
  cases e : bLt y x with
  | false => rfl
  | true => have := bLt_trans h e; rw [bLt_irrefl] at this; cases this
theorem bLe_total (x y : ByteArray) : (bLe x y || bLe y x) = true := by
  unfold bLe; cases h : bLt x y
  · simp
  · simp [bLt_asymm h]
theorem bLe_trans (x y z : ByteArray) (h1 : bLe x y = true) (h2 : bLe y z = true) : bLe x z = true := by
  unfold bLe at *; simp at *; exact bLt_ntrans h2 h1
theorem sortB_perm (l : List ByteArray) : (sortB l).Perm l := List.mergeSort_perm l _
theorem sortB_sorted (l : List ByteArray) : (sortB l).Pairwise (fun a b => bLe a b = true) := List.pairwise_mergeSort bLe_trans bLe_total l
theorem sortB_length (l : List ByteArray) : (sortB l).length = l.length := (sortB_perm l).length_eq
/-- two orders of one set of keys are sorted to one -/
theorem sortB_congr {l m : List ByteArray} (h : l.Perm m) : sortB l = sortB m := by
  refine List.Perm.eq_of_pairwise (le := fun a b => bLe a b = true) (fun a b _ _ h1 h2 => ?_) (sortB_sorted l) (sortB_sorted m) ((sortB_perm l).trans (h.trans (sortB_perm m).symm))
  unfold bLe at h1 h2; simp at h1 h2; exact bLt_antisymm h2 h1
theorem sortB_self {l : List ByteArray} (h : l.Pairwise (fun a b => bLe a b = true)) : sortB l = l := List.mergeSort_of_pairwise h
theorem sortB_nil : sortB [] = [] := by simp [sortB]
end Go.Proofs.Ytcalfjakgidhfaa
