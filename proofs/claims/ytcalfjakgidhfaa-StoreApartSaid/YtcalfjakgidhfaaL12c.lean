/- The law StoreApart: two stores side by side, walked. -/
import Derived.Test.YtcalfjakgidhfaaL12b
import Derived.Deep.RegionHeld3
namespace Go.Proofs.Ytcalfjakgidhfaa
open Go.RowKit
set_option linter.unusedVariables false
set_option linter.unusedSimpArgs false

/-- Two stores of the call's own, that share nothing; blocks of X are of neither. -/
def Apart2 (w0 : World) (B : Nat) (va vb : Value) (SA SB : St) (X : Nat → Prop) (w : World) : Prop :=
  ∃ FA FB, IsStore w va SA FA ∧ IsStore w vb SB FB ∧ (∀ i, FA i → ¬ FB i) ∧ (∀ i, FA i → B ≤ i) ∧ (∀ i, FB i → B ≤ i) ∧ (∀ i, X i → ¬ FA i ∧ ¬ FB i ∧ i < w.heap.size) ∧ Keep (fun k => B ≤ k) w0 w ∧ B ≤ w.heap.size

section
variable {w0 w w' : World} {B : Nat} {va vb : Value} {SA SB : St} {X : Nat → Prop}
theorem Apart2.keep (h : Apart2 w0 B va vb SA SB X w) (k : Below w.heap.size w w') : Apart2 w0 B va vb SA SB X w' := by
  obtain ⟨FA, FB, h1, h2, h3, h4, h5, h6, h7, h8⟩ := h
  exact ⟨FA, FB, h1.keep (Keep.of_below k (F := fun _ => False)) fun _ _ e => e, h2.keep (Keep.of_below k (F := fun _ => False)) fun _ _ e => e, h3, h4, h5, fun i hi => ⟨(h6 i hi).1, (h6 i hi).2.1, Nat.lt_of_lt_of_le (h6 i hi).2.2 k.size⟩, h7.same (Keep.of_below k), Nat.le_trans h8 k.size⟩
theorem Apart2.less (h : Apart2 w0 B va vb SA SB X w) : Apart2 w0 B va vb SA SB (fun _ => False) w := by
  obtain ⟨FA, FB, h1, h2, h3, h4, h5, h6, h7, h8⟩ := h
  exact ⟨FA, FB, h1, h2, h3, h4, h5, fun _ e => e.elim, h7, h8⟩
/-- a block more that is neither's -/
theorem Apart2.alloc (h : Apart2 w0 B va vb SA SB X w) (o : Obj) : Apart2 w0 B va vb SA SB (fun i => i = w.heap.size) (w.alloc o) := by
  obtain ⟨FA, FB, h1, h2, h3, h4, h5, h6, h7, h8⟩ := h
  refine ⟨FA, FB, h1.keep (Keep.alloc (fun _ => False) w o) fun _ _ e => e, h2.keep (Keep.alloc (fun _ => False) w o) fun _ _ e => e, h3, h4, h5, fun i hi => ?_, h7.same (Keep.alloc _ w o), by rw [size_alloc]; omega⟩
  subst hi
  exact ⟨fun e => by have := h1.lt _ e; omega, fun e => by have := h2.lt _ e; omega, by rw [size_alloc]; omega⟩
theorem Apart2.swap (h : Apart2 w0 B va vb SA SB X w) : Apart2 w0 B vb va SB SA X w := by
  obtain ⟨FA, FB, h1, h2, h3, h4, h5, h6, h7, h8⟩ := h
  exact ⟨FB, FA, h2, h1, fun i hb ha => h3 i ha hb, h5, h4, fun i hi => ⟨(h6 i hi).2.1, (h6 i hi).1, (h6 i hi).2.2⟩, h7, h8⟩
theorem Apart2.kept (h : Apart2 w0 B va vb SA SB X w) : Keep (fun k => B ≤ k) w0 w := by obtain ⟨FA, FB, h1, h2, h3, h4, h5, h6, h7, h8⟩ := h; exact h7
theorem Apart2.ptr (h : Apart2 w0 B va vb SA SB X w) : ∃ b, va = .pointer (some ⟨b, 0, none⟩) := by obtain ⟨FA, FB, h1, _⟩ := h; exact h1.ptr

theorem apart_put (h : Apart2 w0 B va vb SA SB X w) (key blob : ByteArray) : Calls Try.prog 19 #[va, .string key, .string blob] w fun e w' => e = .returned (.int .i64 (SA.putErr key blob)) ∧ Apart2 w0 B va vb (SA.put key blob) SB X w' ∧ ∀ i, X i → w'.heap[i]? = w.heap[i]? := by
  obtain ⟨FA, FB, h1, h2, h3, h4, h5, h6, h7, h8⟩ := h
  refine (store_put h1 key blob).mono ?_
  rintro e w' ⟨rfl, g1, g2⟩
  refine ⟨rfl, ⟨_, FB, g1, h2.keep g2 fun i hb ha => h3 i ha hb, fun i hi hb => ?_, fun i hi => ?_, h5, fun i hi => ⟨fun e => ?_, (h6 i hi).2.1, Nat.lt_of_lt_of_le (h6 i hi).2.2 g2.size⟩, h7.trans g2 fun i hi => Or.inl (h4 i hi), Nat.le_trans h8 g2.size⟩, fun i hi => g2.block i (h6 i hi).2.2 (h6 i hi).1⟩
  · rcases hi with hi | hi
    · exact h3 i hi hb
    · have := h2.lt i hb; omega
  · rcases hi with hi | hi
    · exact h4 i hi
    · omega
  · rcases e with e | e
    · exact (h6 i hi).1 e
    · have := (h6 i hi).2.2; omega
theorem apart_delete (h : Apart2 w0 B va vb SA SB X w) (key : ByteArray) : Calls Try.prog 18 #[va, .string key] w fun e w' => e = .returned (.int .i64 (SA.delErr key)) ∧ Apart2 w0 B va vb (SA.del key) SB X w' ∧ ∀ i, X i → w'.heap[i]? = w.heap[i]? := by
  obtain ⟨FA, FB, h1, h2, h3, h4, h5, h6, h7, h8⟩ := h
  refine (store_delete h1 key).mono ?_
  rintro e w' ⟨rfl, g1, g2⟩
  exact ⟨rfl, ⟨FA, FB, g1, h2.keep g2 fun i hb ha => h3 i ha hb, h3, h4, h5, fun i hi => ⟨(h6 i hi).1, (h6 i hi).2.1, Nat.lt_of_lt_of_le (h6 i hi).2.2 g2.size⟩, h7.trans g2 fun i hi => Or.inl (h4 i hi), Nat.le_trans h8 g2.size⟩, fun i hi => g2.block i (h6 i hi).2.2 (h6 i hi).1⟩
theorem apart_get (h : Apart2 w0 B va vb SA SB X w) (key : ByteArray) : Calls Try.prog 20 #[va, .string key] w fun e w' => e = .returned (.tuple #[.string (SA.get key), .int .i64 (SA.getErr key)]) ∧ w = w' := by
  obtain ⟨FA, FB, h1, _⟩ := h; exact store_get h1 key
theorem apart_puts (h : Apart2 w0 B va vb SA SB X w) : Calls Try.prog 23 #[va] w fun e w' => e = .returned (.int .i64 SA.puts) ∧ w = w' := by
  obtain ⟨FA, FB, h1, _⟩ := h; exact store_puts h1
theorem apart_versions (h : Apart2 w0 B va vb SA SB X w) (key : ByteArray) : Calls Try.prog 22 #[va, .string key] w fun e w' => ∃ v', e = .returned v' ∧ strs w' v' (SA.versions key) ∧ Below w.heap.size w w' := by
  obtain ⟨FA, FB, h1, _⟩ := h
  exact (store_versions h1 key).mono fun e w' ⟨v', h1, h2, h3⟩ => ⟨v', h1, strs_own h2, h3⟩
end

/-! ### the plain side -/
def ActV.it (x : ActV) : ByteArray := keyOf x.k x.key
def St.act (S : St) (x : ActV) (k : ByteArray) : St := if pickZ x.op 4 = 3 then S.del k else S.put k x.blob
def runA (l : List ActV) : St := l.foldl (fun S x => S.act x x.it) St.new
def runB (one : ByteArray) (l : List ActV) : St := l.foldl (fun S x => if x.it = one then S.act x one else S) St.new
theorem runA_succ {l : List ActV} {k : Nat} {x : ActV} (h : l[k]? = some x) : runA (l.take (k + 1)) = (runA (l.take k)).act x x.it := by rw [take_succ_get h]; simp [runA]
theorem runB_succ {one : ByteArray} {l : List ActV} {k : Nat} {x : ActV} (h : l[k]? = some x) : runB one (l.take (k + 1)) = if x.it = one then (runB one (l.take k)).act x one else runB one (l.take k) := by rw [take_succ_get h]; simp [runB]

theorem putErr_bounds {S : St} (h : S.puts < 2000) (k v : ByteArray) : S.putErr k v = if k.size = 0 ∨ k.size > 200 then 1 else if v.size > 40000 then 10 else 0 := by
  unfold St.putErr; rw [if_neg (show ¬ S.puts = 2000 by omega)]
theorem puts_act (S : St) (x : ActV) (k : ByteArray) : (S.act x k).puts ≤ S.puts + 1 := by
  unfold St.act St.put St.del; split; · simp
  split <;> simp

/-- what the two stores have in common at one key -/
structure Alike (one : ByteArray) (A B : St) : Prop where
  ever : aget A.ever one = aget B.ever one
  there : aget A.there one = aget B.there one
  puts : B.puts = (B.versions one).length
  le : B.puts ≤ A.puts

theorem alike_run (one : ByteArray) (h1 : ¬ one.size = 0) (l : List ActV) : l.length ≤ 100 → Alike one (runA l) (runB one l) ∧ (runA l).puts ≤ l.length := by
  refine snoc_ind (P := fun l => l.length ≤ 100 → Alike one (runA l) (runB one l) ∧ (runA l).puts ≤ l.length) (fun _ => ⟨⟨rfl, rfl, rfl, Nat.le_refl _⟩, Nat.le_refl _⟩) (fun l x ih => ?_) l
  · intro hl
    simp only [List.length_append, List.length_singleton] at hl ⊢
    obtain ⟨⟨a1, a2, a3, a4⟩, a5⟩ := ih (by omega)
    have eA : runA (l ++ [x]) = (runA l).act x x.it := by simp [runA]
    have eB : runB one (l ++ [x]) = if x.it = one then (runB one l).act x one else runB one l := by simp [runB]
    rw [eA, eB]
    refine ⟨?_, Nat.le_trans (puts_act _ _ _) (by omega)⟩
    generalize runA l = A at *
    generalize runB one l = S at *
    have pAS : ∀ k v, A.putErr k v = S.putErr k v := fun k v => by rw [putErr_bounds (S := A) (by omega), putErr_bounds (S := S) (by omega)]
    by_cases hk : x.it = one
    · rw [if_pos hk, hk]
      unfold St.act
      split
      · exact ⟨a1, by simp only [St.del]; rw [aget_adel, aget_adel]; simp, by simpa [St.del, St.versions] using a3, a4⟩
      · unfold St.put
        rw [pAS]
        by_cases h0 : S.putErr one x.blob = 0
        · rw [if_pos h0, if_pos h0]
          have ev : A.versions one = S.versions one := by unfold St.versions; rw [a1]
          refine ⟨?_, ?_, ?_, ?_⟩
          · simp only; rw [aget_aput, aget_aput, if_pos rfl, if_pos rfl, ev]
          · simp only; rw [aget_aput, aget_aput, if_pos rfl, if_pos rfl, ev]
          · simp only [St.versions]; rw [aget_aput, if_pos rfl]; simp; rw [a3]; rfl
          · simp only; omega
        · rw [if_neg h0, if_neg h0]; exact ⟨a1, a2, a3, a4⟩
    · rw [if_neg hk]
      have hk' : ¬ one = x.it := fun e => hk e.symm
      unfold St.act
      split
      · exact ⟨a1, by simp only [St.del]; rw [aget_adel, if_neg hk']; exact a2, a3, a4⟩
      · unfold St.put
        split
        · exact ⟨by simp only; rw [aget_aput, if_neg hk']; exact a1, by simp only; rw [aget_aput, if_neg hk']; exact a2, a3, by simp only; omega⟩
        · exact ⟨a1, a2, a3, a4⟩
theorem Alike.get {one : ByteArray} {A B : St} (h : Alike one A B) : A.get one = B.get one ∧ A.getErr one = B.getErr one ∧ A.versions one = B.versions one := by
  refine ⟨?_, ?_, ?_⟩
  · unfold St.get St.versions; rw [h.there, h.ever]
  · unfold St.getErr; rw [h.there]
  · unfold St.versions; rw [h.ever]
end Go.Proofs.Ytcalfjakgidhfaa
