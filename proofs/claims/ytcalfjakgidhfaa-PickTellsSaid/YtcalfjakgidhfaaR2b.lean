/- The document's store: what is there when a blob was put. -/
import Derived.Test.YtcalfjakgidhfaaR2
namespace Go.Proofs.Ytcalfjakgidhfaa
open Go.RowKit
set_option linter.unusedVariables false
set_option linter.unusedSimpArgs false

theorem append_str2 {w : World} {v : Value} {l : List ByteArray} (ho : w.ownsRow 0 9 1 v l.length (strV l)) (k : ByteArray) (hl : l.length ≤ 1000000000) :
    ∃ A c w', (Builtin.append_ #[37, 37] 37 #[v, .slice (some ⟨w.heap.size, 0, none⟩) 1 1]).run Try.prog (w.alloc (.cells #[.string k] 9)) = .ok (.slice A (l.length + 1) c) w' ∧
      w'.ownsRow 0 9 1 (.slice A (l.length + 1) c) (l ++ [k]).length (strV (l ++ [k])) ∧ Keep (fun i => v.ownBlock = some i) w w' ∧ ((Value.slice A (l.length + 1) c).ownBlock = v.ownBlock ∨ (Value.slice A (l.length + 1) c).ownBlock = some (w.heap.size + 1)) ∧ w.heap.size < w'.heap.size := by
  obtain ⟨i0, hi, hz0, hz1, hz2⟩ := info_parts info9
  obtain ⟨v', w', hr, h2, h3, h4, h5⟩ := run_append_own_at (P := Try.prog) (w.alloc (.cells #[.string k] 9)) 0 37 37 9 i0 (.string ⟨#[]⟩) 1 16 Try.underlying37 hi hz0 hz1 hz2 rfl (by decide) v l.length (strV l) (ho.alloc _)
    ⟨w.heap.size, 0, none⟩ 1 1 [.string k] rfl (cell_one_new w _ _) (by simp [Value.oneCell']) (by unfold maxLen; omega) (by omega) (Nat.zero_le _)
  have hex : ∃ A c, v' = .slice A (l.length + 1) c := by
    rcases h2.2 with ⟨rfl, h0⟩ | ⟨g, cap, cur, hv, _⟩
    · omega
    · exact ⟨_, _, hv⟩
  obtain ⟨A, c, rfl⟩ := hex
  exact ⟨A, c, w', hr, by simpa [strV] using h2, (Keep.alloc _ w _).same (Keep.of_grown h3 fun i e => e), by simpa [size_alloc] using h5, by have := h3.size; rw [size_alloc] at this; exact this⟩

theorem own_type {w : World} {b : Nat} {cs : Array Value} {t : TypeId} (h : w.heap[b]? = some (.cells cs t (0, 0))) {e : TypeId} {size n : Nat} {v : Value} {xs : List Value} (ho : w.ownsRow 0 e size v n xs) (hne : t ≠ e) : ¬ v.ownBlock = some b := row_ne_own h ho hne
theorem own_at {w : World} {e : TypeId} {size n g cap : Nat} {xs : List Value} (ho : w.ownsRow 0 e size (.slice (some ⟨g, 0, none⟩) n cap) n xs) : ∃ cs, w.heap[g]? = some (.cells cs e (0, 0)) := by
  rcases ho.2 with ⟨e', _⟩ | ⟨g', cp, cur, e', _, hg, _⟩
  · cases e'
  · cases e'; exact ⟨cur, hg⟩

theorem ref_done {w2 : World} {b g a i cap n : Nat} {rows : List RR} {x : RR} {v' : Value} {blob : ByteArray} {cs : Array Value} {G : Nat → Prop}
    (h2 : w2.heap[b]? = some (.cells #[.slice (some ⟨g, 0, none⟩) rows.length cap, .int .i64 n] 86 (0, 0)))
    (h3 : w2.ownsRow 0 89 3 (.slice (some ⟨g, 0, none⟩) rows.length cap) rows.length (flatR rows))
    (ha : w2.heap[a]? = some (.cells cs 89 (0, 0))) (hx : rows[i]? = some x)
    (h4 : ∀ (j : Nat) (r : RR), rows[j]? = some r → j ≠ i → w2.ownsRow 0 9 1 r.v r.l.length (strV r.l))
    (hown : w2.ownsRow 0 9 1 v' (x.l ++ [blob]).length (strV (x.l ++ [blob])))
    (h5 : ∀ (j k : Nat) (r r' : RR), rows[j]? = some r → rows[k]? = some r' → j ≠ k → r.v.ownBlock = none ∨ r.v.ownBlock ≠ r'.v.ownBlock)
    (h6 : ∀ (j : Nat) (r : RR), rows[j]? = some r → j ≠ i → r.v.ownBlock = none ∨ r.v.ownBlock ≠ v'.ownBlock)
    (hab : a ≠ b) (hag : a ≠ g) (hn : n < 2000) (hl : rows.length ≤ n + 1) (h9 : ∀ (j : Nat) (r : RR), rows[j]? = some r → r.l.length ≤ n)
    (g1 : G b) (g2 : G g) (g3 : ∀ (j : Nat) (r : RR) (k : Nat), rows[j]? = some r → j ≠ i → r.v.ownBlock = some k → G k) (g5 : ∀ k, v'.ownBlock = some k → G k) (g4 : ∀ k, G k → k < w2.heap.size) :
    IsRef (((((((w2.setCell ⟨a, 1, none⟩ v').setCell ⟨a, 2, none⟩ (.bool true)).setCell ⟨g, i * 3, none⟩ (.string x.key)).setCell ⟨g, i * 3 + 1, none⟩ v').setCell ⟨g, i * 3 + 2, none⟩ (.bool true)).setCell ⟨b, 1, none⟩ (.int .i64 ((n : Int) + 1))).drew) (.pointer (some ⟨b, 0, none⟩)) ⟨(rows.map RR.un).set i (x.key, x.l ++ [blob], true), n + 1⟩ G ∧
    Keep (fun k => k = a ∨ k = g ∨ k = b) w2 (((((((w2.setCell ⟨a, 1, none⟩ v').setCell ⟨a, 2, none⟩ (.bool true)).setCell ⟨g, i * 3, none⟩ (.string x.key)).setCell ⟨g, i * 3 + 1, none⟩ v').setCell ⟨g, i * 3 + 2, none⟩ (.bool true)).setCell ⟨b, 1, none⟩ (.int .i64 ((n : Int) + 1))).drew) := by
  have hlt : i < rows.length := (List.getElem?_eq_some_iff.1 hx).1
  obtain ⟨cg, hg⟩ := own_at h3
  have hbg : ¬ b = g := by intro e; subst e; rw [h2] at hg; cases hg
  obtain ⟨wa, hwa⟩ : ∃ wa, (w2.setCell ⟨a, 1, none⟩ v').setCell ⟨a, 2, none⟩ (.bool true) = wa := ⟨_, rfl⟩
  have ka : Keep (fun k => k = a) w2 wa := by rw [← hwa]; exact (Keep.setCell (fun k => k = a) w2 (p := ⟨a, 1, none⟩) rfl _).same (Keep.setCell (fun k => k = a) _ (p := ⟨a, 2, none⟩) rfl _)
  rw [hwa]
  have h3a := ka.own h3 (fun k hk e => by cases hk; exact hag e.symm)
  have s1 := (h3a.stored (i * 3) (.string x.key)).1
  have s2 := (s1.stored (i * 3 + 1) v').1
  have s3 := (s2.stored (i * 3 + 2) (.bool true)).1
  obtain ⟨wg, hwg⟩ : ∃ wg, ((wa.setCell ⟨g, i * 3, none⟩ (.string x.key)).setCell ⟨g, i * 3 + 1, none⟩ v').setCell ⟨g, i * 3 + 2, none⟩ (.bool true) = wg := ⟨_, rfl⟩
  have kg : Keep (fun k => k = g) wa wg := by
    rw [← hwg]; exact ((Keep.setCell (fun k => k = g) wa (p := ⟨g, i * 3, none⟩) rfl _).same (Keep.setCell (fun k => k = g) _ (p := ⟨g, i * 3 + 1, none⟩) rfl _)).same (Keep.setCell (fun k => k = g) _ (p := ⟨g, i * 3 + 2, none⟩) rfl _)
  rw [hwg] at s3 ⊢
  have hfl := flatR_set hlt ⟨x.key, v', x.l ++ [blob], true⟩
  dsimp only at hfl
  rw [← hfl] at s3
  have s4 : wg.ownsRow 0 89 3 (.slice (some ⟨g, 0, none⟩) rows.length cap) rows.length (flatR (rows.set i ⟨x.key, v', x.l ++ [blob], true⟩)) := s3
  have h2g := kg.at (ka.at h2 (fun e => hab e.symm)) hbg
  have kb : Keep (fun k => k = b) wg (wg.setCell ⟨b, 1, none⟩ (.int .i64 ((n : Int) + 1))).drew := (Keep.setCell (fun k => k = b) _ (p := ⟨b, 1, none⟩) rfl _).same (Keep.drew _ _)
  have kall : Keep (fun k => k = a ∨ k = g ∨ k = b) w2 (wg.setCell ⟨b, 1, none⟩ (.int .i64 ((n : Int) + 1))).drew :=
    ((ka.mono fun k e => Or.inl e).same (kg.mono fun k e => Or.inr (Or.inl e))).same (kb.mono fun k e => Or.inr (Or.inr e))
  -- a row of strings of w2 is one of the end
  have keep1 : ∀ (v : Value) (m : Nat) (xs : List Value), w2.ownsRow 0 9 1 v m xs → (wg.setCell ⟨b, 1, none⟩ (.int .i64 ((n : Int) + 1))).drew.ownsRow 0 9 1 v m xs := fun v m xs ho =>
    kall.own ho fun k hk e => by
      rcases e with rfl | rfl | rfl
      · exact own_type ha ho (by decide) hk
      · exact own_type hg ho (by decide) hk
      · exact own_type h2 ho (by decide) hk
  have hget : ∀ (j : Nat) (r : RR), (rows.set i ⟨x.key, v', x.l ++ [blob], true⟩)[j]? = some r → (j = i ∧ r = ⟨x.key, v', x.l ++ [blob], true⟩) ∨ (j ≠ i ∧ rows[j]? = some r) := fun j r hr => by
    rw [List.getElem?_set] at hr
    split at hr
    · rename_i e; subst e; simp [hlt] at hr; exact Or.inl ⟨rfl, hr.symm⟩
    · rename_i e; exact Or.inr ⟨fun e' => e e'.symm, hr⟩
  refine ⟨⟨b, .slice (some ⟨g, 0, none⟩) rows.length cap, rows.set i ⟨x.key, v', x.l ++ [blob], true⟩, rfl, ?_, ?_, ?_, ?_, ?_, ?_, ?_, ?_, g1, ?_, ?_, ?_⟩, kall⟩
  · show (wg.setCell ⟨b, 1, none⟩ (.int .i64 ((n : Int) + 1))).heap[b]? = _
    have := set_at h2g 1 (.int .i64 ((n : Int) + 1)); simpa using this
  · rw [List.length_set]; exact kb.own s4 (fun k hk e => by cases hk; exact hbg e.symm)
  · intro j r hr
    rcases hget j r hr with ⟨rfl, rfl⟩ | ⟨hj, hr⟩
    · exact keep1 _ _ _ hown
    · exact keep1 _ _ _ (h4 j r hr hj)
  · intro j k r r' hr hr' hjk
    rcases hget j r hr with ⟨ej, er⟩ | ⟨hj, hr2⟩ <;> rcases hget k r' hr' with ⟨ek, er'⟩ | ⟨hk, hr2'⟩
    · exact absurd (ej.trans ek.symm) hjk
    · subst er
      rcases h6 k r' hr2' hk with e | e
      · by_cases e0 : v'.ownBlock = none
        · exact Or.inl e0
        · exact Or.inr (by rw [e]; exact e0)
      · exact Or.inr (fun e' => e e'.symm)
    · subst er'; exact h6 j r hr2 hj
    · exact h5 j k r r' hr2 hr2' hjk
  · simp only; rw [List.map_set]; rfl
  · simp only; omega
  · simp only [List.length_set]; exact hl
  · intro j r hr
    rcases hget j r hr with ⟨rfl, rfl⟩ | ⟨hj, hr⟩
    · have := h9 j x hx; simp; omega
    · have := h9 j r hr; simp only; omega
  · intro k hk; cases hk; exact g2
  · intro j r k hr hk
    rcases hget j r hr with ⟨rfl, rfl⟩ | ⟨hj, hr⟩
    · exact g5 k hk
    · exact g3 j r k hr hj hk
  · intro k hk; exact Nat.lt_of_lt_of_le (g4 k hk) kall.size
end Go.Proofs.Ytcalfjakgidhfaa
