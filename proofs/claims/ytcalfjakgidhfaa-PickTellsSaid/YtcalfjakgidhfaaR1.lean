/- The document's store: its cells in memory. -/
import Derived.Test.YtcalfjakgidhfaaL12
import Derived.Laws.OwnMore
import Derived.Deep.Onto
import Derived.Deep.LoopGhost
import Derived.Handy
namespace Go.Proofs.Ytcalfjakgidhfaa
open Go.RowKit
set_option linter.unusedVariables false
set_option linter.unusedSimpArgs false

theorem info_cell : (Try.prog.info? 89).map (fun i => (i.zero, i.size, i.bytes)) = some (some (.agg #[.string ⟨#[]⟩, .slice none 0 0, .bool false]), 3, 48) := by kernel_rfl

/-- a cell's place: the key, the slice of blobs, what it holds, whether the last is there -/
structure RR where
  key : ByteArray
  v : Value
  l : List ByteArray
  is : Bool
def rrV (r : RR) : List Value := [.string r.key, r.v, .bool r.is]
def flatR (R : List RR) : List Value := R.flatMap rrV
theorem flatR_length (R : List RR) : (flatR R).length = R.length * 3 := by
  induction R with
  | nil => rfl
  | cons r R ih => simp only [flatR, List.flatMap_cons, List.length_append, List.length_cons] at *; rw [ih]; simp [rrV]; omega
theorem flatR_get {R : List RR} {i : Nat} {r : RR} (h : R[i]? = some r) : (flatR R)[i * 3]? = some (.string r.key) ∧ (flatR R)[i * 3 + 1]? = some r.v ∧ (flatR R)[i * 3 + 2]? = some (.bool r.is) := by
  induction R generalizing i with
  | nil => simp at h
  | cons x R ih =>
    cases i with
    | zero => simp at h; subst h; simp [flatR, rrV]
    | succ i =>
      simp at h
      have := ih h
      have e : flatR (x :: R) = .string x.key :: x.v :: .bool x.is :: flatR R := by simp [flatR, rrV]
      rw [e, show (i + 1) * 3 = i * 3 + 1 + 1 + 1 by omega, show i * 3 + 1 + 1 + 1 + 1 = (i * 3 + 1) + 1 + 1 + 1 by omega, show i * 3 + 1 + 1 + 1 + 2 = (i * 3 + 2) + 1 + 1 + 1 by omega]
      simpa using this
theorem flatR_set {R : List RR} {i : Nat} (h : i < R.length) (r : RR) : flatR (R.set i r) = (((flatR R).set (i * 3) (.string r.key)).set (i * 3 + 1) r.v).set (i * 3 + 2) (.bool r.is) := by
  induction R generalizing i with
  | nil => simp at h
  | cons x R ih =>
    have e : ∀ (x : RR) (R : List RR), flatR (x :: R) = .string x.key :: x.v :: .bool x.is :: flatR R := fun x R => by simp [flatR, rrV]
    cases i with
    | zero => simp [e]
    | succ i =>
      simp at h
      rw [List.set_cons_succ, e, e, ih h, show (i + 1) * 3 = i * 3 + 1 + 1 + 1 by omega, show i * 3 + 1 + 1 + 1 + 1 = (i * 3 + 1) + 1 + 1 + 1 by omega, show i * 3 + 1 + 1 + 1 + 2 = (i * 3 + 2) + 1 + 1 + 1 by omega]
      simp
theorem flatR_append (R : List RR) (r : RR) : flatR (R ++ [r]) = flatR R ++ rrV r := by simp [flatR]

structure RS where
  c : List (ByteArray × List ByteArray × Bool)
  n : Nat
def RR.un (r : RR) : ByteArray × List ByteArray × Bool := (r.key, r.l, r.is)
def RS.new : RS := ⟨[], 0⟩
def RS.find (R : RS) (k : ByteArray) : Option Nat := R.c.findIdx? fun x => decide (x.1 = k)
def RS.putErr (R : RS) (k v : ByteArray) : Int := if k.size = 0 ∨ k.size > 200 then 1 else if v.size > 40000 then 10 else if R.n = 2000 then 11 else 0
def RS.put (R : RS) (k v : ByteArray) : RS :=
  if R.putErr k v = 0 then (match R.find k with
    | some i => ⟨R.c.set i (k, ((R.c[i]?).map (·.2.1)).getD [] ++ [v], true), R.n + 1⟩
    | none => ⟨R.c ++ [(k, [v], true)], R.n + 1⟩) else R

/-- v points to the document's store R; its blocks are those of G -/
def IsRef (w : World) (v : Value) (R : RS) (G : Nat → Prop) : Prop :=
  ∃ b Cv, ∃ rows : List RR, v = .pointer (some ⟨b, 0, none⟩) ∧ w.heap[b]? = some (.cells #[Cv, .int .i64 R.n] 86 (0, 0)) ∧ w.ownsRow 0 89 3 Cv rows.length (flatR rows) ∧
    (∀ (i : Nat) (r : RR), rows[i]? = some r → w.ownsRow 0 9 1 r.v r.l.length (strV r.l)) ∧
    (∀ (i j : Nat) (r r' : RR), rows[i]? = some r → rows[j]? = some r' → i ≠ j → r.v.ownBlock = none ∨ r.v.ownBlock ≠ r'.v.ownBlock) ∧
    R.c = rows.map RR.un ∧ R.n ≤ 2000 ∧ rows.length ≤ R.n ∧ (∀ (i : Nat) (r : RR), rows[i]? = some r → r.l.length ≤ R.n) ∧
    G b ∧ (∀ g, Cv.ownBlock = some g → G g) ∧ (∀ (i : Nat) (r : RR) (g : Nat), rows[i]? = some r → r.v.ownBlock = some g → G g) ∧ (∀ k, G k → k < w.heap.size)

theorem IsRef.keep {w w' : World} {v : Value} {R : RS} {F G : Nat → Prop} (h : IsRef w v R G) (k : Keep F w w') (hd : ∀ i, G i → ¬ F i) : IsRef w' v R G := by
  obtain ⟨b, Cv, rows, h1, h2, h3, h4, h5, h6, h7, h8, h9, g1, g2, g3, g4⟩ := h
  exact ⟨b, Cv, rows, h1, k.at h2 (hd _ g1), k.own h3 (fun g hg => hd _ (g2 g hg)), fun i r hr => k.own (h4 i r hr) (fun g hg => hd _ (g3 i r g hr hg)), h5, h6, h7, h8, h9, g1, g2, g3, fun i hi => Nat.lt_of_lt_of_le (g4 i hi) k.size⟩
theorem IsRef.ptr {w : World} {v : Value} {R : RS} {G : Nat → Prop} (h : IsRef w v R G) : ∃ b, v = .pointer (some ⟨b, 0, none⟩) := by
  obtain ⟨b, Cv, rows, h1, _⟩ := h; exact ⟨b, h1⟩

/-- one cell more behind the cells -/
theorem append_cell {w : World} {v : Value} {rows : List RR} (ho : w.ownsRow 0 89 3 v rows.length (flatR rows)) (r : RR) (hr : r.v.oneCell' = true) (hl : rows.length ≤ 2000) :
    ∃ A c w', (Builtin.append_ #[84, 84] 84 #[v, .slice (some ⟨w.heap.size, 0, none⟩) 1 1]).run Try.prog (w.alloc (.cells #[.string r.key, r.v, .bool r.is] 89)) = .ok (.slice A (rows.length + 1) c) w' ∧
      w'.ownsRow 0 89 3 (.slice A (rows.length + 1) c) (rows ++ [r]).length (flatR (rows ++ [r])) ∧ Keep (fun i => v.ownBlock = some i) w w' ∧ ((Value.slice A (rows.length + 1) c).ownBlock = v.ownBlock ∨ (Value.slice A (rows.length + 1) c).ownBlock = some (w.heap.size + 1)) ∧ w.heap.size < w'.heap.size := by
  obtain ⟨i0, hi, hz0, hz1, hz2⟩ := info_parts info_cell
  have hg := MapKept.heap_alloc w (.cells #[.string r.key, r.v, .bool r.is] 89)
  obtain ⟨v', w', hr, h2, h3, h4, h5⟩ := run_append_own_at (P := Try.prog) (w.alloc (.cells #[.string r.key, r.v, .bool r.is] 89)) 0 84 84 89 i0 (.agg #[.string ⟨#[]⟩, .slice none 0 0, .bool false]) 3 48 Try.underlying84 hi hz0 hz1 hz2 rfl (by decide) v rows.length (flatR rows) (ho.alloc _)
    ⟨w.heap.size, 0, none⟩ 1 1 (rrV r) rfl (fun j u hu => by
      rw [add_at, cell_of_row _ _ _ _ _ _ hg.1]
      rcases j with _ | _ | _ | j <;> simp_all [rrV]) (by intro u hu; simp [rrV] at hu; rcases hu with rfl | rfl | rfl <;> first | exact hr | rfl) (by unfold maxLen; omega) (by omega) (Nat.zero_le _)
  have hex : ∃ A c, v' = .slice A (rows.length + 1) c := by
    rcases h2.2 with ⟨rfl, h0⟩ | ⟨g, cap, cur, hv, _⟩
    · omega
    · exact ⟨_, _, hv⟩
  obtain ⟨A, c, rfl⟩ := hex
  refine ⟨A, c, w', hr, by rw [flatR_append]; simpa using h2, (Keep.alloc _ w _).same (Keep.of_grown h3 fun i e => e), by simpa [size_alloc] using h5, by have := h3.size; rw [size_alloc] at this; exact this⟩
end Go.Proofs.Ytcalfjakgidhfaa
