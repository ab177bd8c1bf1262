/- Words of my own: a loop over a map, in whatever order. No program in sight. -/
import Derived.Test.YtckblcfkajpofaaGreatDoorZA1
namespace Go.Proofs.YtckblcfkajpofaaGreatDoor
open Go.RowKit
open Go.ChangeMaps (setBlock heap_setBlock_same heap_setBlock_other)
open Go.MapKept (Stamped)
set_option linter.unusedVariables false
set_option linter.unusedSimpArgs false

section
variable {κ : Type}

/-- Block r of w is a loop over the map in block b, whose entries are l; those of left are still to come. -/
def sranges (w : World) (mk : κ → Value) (b r : Nat) (l left : List (κ × Value)) : Prop :=
  ∃ es clock since seen c0, w.heap[b]? = some (.map es clock) ∧ Stamped es clock ∧ es.toList.map (fun e => (e.key, e.val)) = l.map (fun p => (mk p.1, p.2)) ∧ (akeys l).Nodup ∧
    w.heap[r]? = some (.mapIter (some b) since seen c0) ∧ (∀ x ∈ es.toList, x.born < since) ∧ since ≤ c0 ∧ since ≤ clock ∧ (leftOf es seen).toList.map (fun e => (e.key, e.val)) = left.map (fun p => (mk p.1, p.2)) ∧ left.Sublist l

variable {mk : κ → Value} {w w' : World} {b r : Nat} {l left : List (κ × Value)} {P : Program}

theorem sranges.map (h : sranges w mk b r l left) : smap w mk b l := by
  obtain ⟨es, clock, since, seen, c0, h1, h2, h3, h4, _⟩ := h; exact ⟨es, clock, h1, h2, h3, h4⟩
theorem sranges.lt (h : sranges w mk b r l left) : r < w.heap.size := by
  obtain ⟨es, clock, since, seen, c0, h1, h2, h3, h4, h5, _⟩ := h; exact (Array.getElem?_eq_some_iff.1 h5).1
theorem sranges.keep (h : sranges w mk b r l left) (e1 : w'.heap[b]? = w.heap[b]?) (e2 : w'.heap[r]? = w.heap[r]?) : sranges w' mk b r l left := by
  obtain ⟨es, clock, since, seen, c0, h1, h2, h3, h4, h5, h6⟩ := h; exact ⟨es, clock, since, seen, c0, e1.trans h1, h2, h3, h4, e2.trans h5, h6⟩
theorem sranges.kept {F : Nat → Prop} (h : sranges w mk b r l left) (k : Keep F w w') (hb : ¬ F b) (hr : ¬ F r) : sranges w' mk b r l left := h.keep (k.block b h.map.lt hb) (k.block r h.lt hr)

theorem nodup_of_map {α β : Type} {f : α → β} (hf : ∀ {a b}, f a = f b → a = b) {m : List α} (h : m.Nodup) : (m.map f).Nodup := by
  unfold List.Nodup at *; rw [List.pairwise_map]; exact h.imp fun hne e => hne (hf e)
theorem filter_pairs {α β γ : Type} {f : α → γ} {g : β → γ} {p : α → Bool} {q : β → Bool} : ∀ {L : List α} {M : List β}, L.map f = M.map g → (∀ x y, x ∈ L → f x = g y → p x = q y) → (L.filter p).map f = (M.filter q).map g
  | [], [], _, _ => rfl
  | [], _ :: _, h, _ => by simp at h
  | _ :: _, [], h, _ => by simp at h
  | x :: L, y :: M, h, hpq => by
    simp only [List.map_cons, List.cons.injEq] at h
    have ih := filter_pairs (p := p) (q := q) h.2 fun a b ha => hpq a b (List.mem_cons_of_mem _ ha)
    have e := hpq x y List.mem_cons_self h.1
    rw [List.filter_cons, List.filter_cons, ← e]
    split
    · rw [List.map_cons, List.map_cons, ih, h.1]
    · exact ih

theorem leftOf_push (es : Array MapEntry) (seen : Array Nat) (n : Nat) : (leftOf es (seen.push n)).toList = (leftOf es seen).toList.filter (fun e => !(e.born == n)) := by
  simp only [leftOf, Array.toList_filter, List.filter_filter]
  apply List.filter_congr; intro x _
  rw [Array.contains_push]; cases seen.contains x.born <;> cases (x.born == n) <;> rfl

/-- 'range m' -/
theorem smap.range (h : smap w mk b l) {t kt et : TypeId} (ht : P.underlying t = some (.map kt et)) :
    ∃ w', (Instr.range t (.map (some b))).run P w = .ok (.pointer (some ⟨w.heap.size, 0, none⟩)) w' ∧ sranges w' mk b w.heap.size l l ∧ Keep (fun _ => False) w w' ∧ w'.heap.size = w.heap.size + 1 := by
  have hlt := h.lt
  obtain ⟨es, clock, hb, hs, he, hn⟩ := h
  refine ⟨_, run_range_map w t kt et b es clock ht hb, ⟨es, clock, clock, #[], clock, ((MapKept.heap_alloc w _).2 b hlt).trans hb, hs, he, hn, (MapKept.heap_alloc w _).1, hs.1, Nat.le_refl _, Nat.le_refl _, ?_, List.Sublist.refl l⟩, Keep.alloc _ w _, by rw [size_alloc]⟩
  have e0 : leftOf es #[] = es := by unfold leftOf; rw [Array.filter_eq_self]; simp
  rw [e0]; exact he

/-- the step -/
theorem sranges.next [DecidableEq κ] (h : sranges w mk b r l left) (K : ∀ {a c : κ}, mk a = mk c → a = c) (ty : TypeId) :
    (left = [] ∧ (Instr.next (.pointer (some ⟨r, 0, none⟩)) false ty).run P w = .ok (.tuple #[.bool false]) w) ∨
    ∃ k v w', (k, v) ∈ left ∧ (Instr.next (.pointer (some ⟨r, 0, none⟩)) false ty).run P w = .ok (.tuple #[.bool true, mk k, v]) w' ∧ sranges w' mk b r l (adel left k) ∧ Keep (fun i => i = r) w w' ∧ w'.heap.size = w.heap.size ∧
      (Instr.entry (.pointer (some ⟨r, 0, none⟩))).run P w' = .ok (.tuple #[mk k, v]) w' := by
  have hrl := h.lt
  have hrb : r ≠ b := fun e => by
    obtain ⟨es, clock, since, seen, c0, hb, hs, he, hn, hr, _⟩ := h
    rw [e, hb] at hr; cases hr
  obtain ⟨es, clock, since, seen, c0, hb, hs, he, hn, hr, hold, hsc, hscl, hl, hsub⟩ := h
  rcases run_next_at (P := P) w ty r b since c0 seen es clock hr hb hold hsc with ⟨h0, hrun⟩ | ⟨e, hem, w1, hw1, hrun⟩
  · left
    have h1 : (leftOf es seen).toList = [] := by
      apply List.eq_nil_of_length_eq_zero; rw [Array.length_toList]; exact h0
    rw [h1] at hl
    exact ⟨by cases left with | nil => rfl | cons x y => simp at hl, hrun⟩
  · right
    have hx : (e.key, e.val) ∈ (leftOf es seen).toList.map (fun e => (e.key, e.val)) := List.mem_map.2 ⟨e, hem, rfl⟩
    rw [hl] at hx
    obtain ⟨⟨k, v⟩, hkv, hke⟩ := List.mem_map.1 hx
    simp only [Prod.mk.injEq] at hke
    have hees : e ∈ es.toList := by
      have := hem; simp [leftOf] at this; simpa using this.1
    have hb1 : w1.heap[b]? = some (.map es clock) := by rcases hw1 with rfl | rfl <;> exact hb
    have hr1 : w1.heap[r]? = some (.mapIter (some b) since seen c0) := by rcases hw1 with rfl | rfl <;> exact hr
    have hbs : (setBlock w1 r (.mapIter (some b) since (seen.push e.born) clock)).heap[b]? = some (.map es clock) := by
      show (w1.heap.setIfInBounds r _)[b]? = _
      rw [Array.getElem?_setIfInBounds_ne hrb]; exact hb1
    have hlt1 : r < w1.heap.size := (Array.getElem?_eq_some_iff.1 hr1).1
    have hrs : (setBlock w1 r (.mapIter (some b) since (seen.push e.born) clock)).heap[r]? = some (.mapIter (some b) since (seen.push e.born) clock) := by
      show (w1.heap.setIfInBounds r _)[r]? = _
      rw [Array.getElem?_setIfInBounds_self_of_lt hlt1]
    have hst := (MapKept.stamped_iff es clock).1 hs
    refine ⟨k, v, _, hkv, by rw [hrun, hke.1, hke.2], ⟨es, clock, since, seen.push e.born, clock, hbs, hs, he, hn, hrs, hold, hscl, hscl, ?_, List.filter_sublist.trans hsub⟩, ?_, ?_, ?_⟩
    · rw [leftOf_push]
      refine filter_pairs hl fun x y hx hxy => ?_
      simp only [Prod.mk.injEq] at hxy
      have hxes : x ∈ es.toList := by
        have := hx; simp [leftOf] at this; simpa using this.1
      by_cases hbe : x.born = e.born
      · have hxe : x = e := born_inj hst.2.1 hxes hees hbe
        have : y.1 = k := K (by rw [← hxy.1, hxe, ← hke.1])
        simp [hbe, this]
      · have : y.1 ≠ k := fun e' => hbe (by
          have h3 : x.key = e.key := by rw [hxy.1, e', hke.1]
          rw [entry_eq_of_key hst.2.2 hxes hees h3])
        simp [hbe, this]
    · refine ⟨?_, ?_, ?_, ?_, fun i hi hne => ?_⟩
      · rcases hw1 with rfl | rfl <;> rfl
      · rcases hw1 with rfl | rfl <;> rfl
      · rcases hw1 with rfl | rfl <;> rfl
      · show w.heap.size ≤ (w1.heap.setIfInBounds r _).size
        rw [Array.size_setIfInBounds]; rcases hw1 with rfl | rfl <;> exact Nat.le_refl _
      · show (w1.heap.setIfInBounds r _)[i]? = _
        rw [Array.getElem?_setIfInBounds_ne (fun e => hne e.symm)]
        rcases hw1 with rfl | rfl <;> rfl
    · show (w1.heap.setIfInBounds r _).size = w.heap.size
      rw [Array.size_setIfInBounds]; rcases hw1 with rfl | rfl <;> rfl
    · rw [run_entry_at _ r b since seen es clock e hrs hbs hees hst.2.1, hke.1, hke.2]

/-- how many are still to come, read off the world -/
def leftN (w : World) (b r : Nat) : Nat := w.rangeLeft b r
theorem sranges.left_eq (h : sranges w mk b r l left) : leftN w b r = left.length := by
  obtain ⟨es, clock, since, seen, c0, hb, _, _, _, hr, _, _, _, hl, _⟩ := h
  have := congrArg List.length hl
  simp only [List.length_map, Array.length_toList] at this
  simp only [leftN, World.rangeLeft, hb, hr]; exact this
theorem sranges.nodup (h : sranges w mk b r l left) : (akeys left).Nodup := by
  obtain ⟨es, clock, since, seen, c0, hb, _, _, hn, hr, _, _, _, hl, hs⟩ := h
  exact (hs.map _).nodup hn
theorem iter_ne_own {base : Nat} {e : TypeId} {size n : Nat} {v : Value} {xs : List Value} (h : sranges w mk b r l left) (ho : w.ownsRow base e size v n xs) : v.ownBlock ≠ some r := by
  obtain ⟨es, clock, since, seen, c0, hb, _, _, _, hr, _⟩ := h
  rcases ho.2 with ⟨rfl, _⟩ | ⟨g, cap, cur, rfl, _, hg, _⟩
  · simp [Value.ownBlock]
  · intro e'; simp [Value.ownBlock] at e'; subst e'; rw [hr] at hg; cases hg
theorem filter_ne_length [DecidableEq κ] {m : List (κ × Value)} {k : κ} {v : Value} (h : (k, v) ∈ m) : (adel m k).length < m.length := by
  unfold adel
  induction m with
  | nil => cases h
  | cons x m ih =>
    rw [List.filter_cons]
    rcases List.mem_cons.1 h with rfl | h'
    · simp only [ne_eq, not_true_eq_false, decide_false, Bool.false_eq_true, if_false, List.length_cons]
      exact Nat.lt_succ_of_le (List.length_filter_le _ m)
    · have := ih h'
      split <;> simp only [List.length_cons] <;> omega
/-- a key taken out of a list of keys in which none stands twice: the rest, and it -/
theorem perm_take [DecidableEq κ] {m : List (κ × Value)} {k : κ} {v : Value} (hn : (akeys m).Nodup) (h : (k, v) ∈ m) : m.Perm ((k, v) :: adel m k) := by
  unfold adel
  induction m with
  | nil => cases h
  | cons x m ih =>
    simp only [akeys, List.map_cons, List.nodup_cons] at hn
    rw [List.filter_cons]
    rcases List.mem_cons.1 h with rfl | h'
    · simp only [ne_eq, not_true_eq_false, decide_false, Bool.false_eq_true, if_false]
      rw [List.filter_eq_self.2]
      intro q hq; simp; intro e; exact hn.1 (by rw [← e]; exact List.mem_map.2 ⟨q, hq, rfl⟩)
    · have hne : x.1 ≠ k := fun e => hn.1 (by rw [e]; exact List.mem_map.2 ⟨_, h', rfl⟩)
      simp only [ne_eq, hne, not_false_eq_true, decide_true, if_true]
      exact ((ih hn.2 h').cons x).trans (List.Perm.swap _ _ _)
end

/-! ### at the operation, for the walk -/
section
variable {κ : Type} {P : Program} {w : World} {ops : Array Oper} {rest : List Oper} {o : Oper} {a : Act} {Q : Exit → Act → World → Prop} {mk : κ → Value}

theorem wp_range (hg : o.guard = none) (m : Operand) (t : TypeId) (hop : o.op = Op.range t m) (kt et : TypeId) (ht : P.underlying t = some (.map kt et)) (b : Nat) (l : List (κ × Value))
    (hm : a.eval m = .map (some b)) (h : smap w mk b l)
    (hK : ∀ w', sranges w' mk b w.heap.size l l → Keep (fun _ => False) w w' → w'.heap.size = w.heap.size + 1 → wpList P ops Q rest (a.put o.dst (.pointer (some ⟨w.heap.size, 0, none⟩))) w') : wpList P ops Q (o :: rest) a w := by
  refine wpList_plain hg fun K' hK' => ?_
  obtain ⟨w', hrun, r1, r2, r3⟩ := h.range ht
  unfold Oper.wp
  simp [execOp, hop, hm, hrun, Result.andThen]
  exact hK' _ _ (hK w' r1 r2 r3)

theorem wp_next [DecidableEq κ] (hg : o.guard = none) (it : Operand) (hop : o.op = Op.next it false) (b r : Nat) (l left : List (κ × Value)) (hit : a.eval it = .pointer (some ⟨r, 0, none⟩)) (h : sranges w mk b r l left) (K : ∀ {a c : κ}, mk a = mk c → a = c)
    (hDone : left = [] → wpList P ops Q rest (a.put o.dst (.tuple #[.bool false])) w)
    (hMore : ∀ k v w', (k, v) ∈ left → sranges w' mk b r l (adel left k) → Keep (fun i => i = r) w w' → w'.heap.size = w.heap.size → (Instr.entry (.pointer (some ⟨r, 0, none⟩))).run P w' = .ok (.tuple #[mk k, v]) w' → wpList P ops Q rest (a.put o.dst (.tuple #[.bool true, mk k, v])) w') :
    wpList P ops Q (o :: rest) a w := by
  refine wpList_plain hg fun K' hK' => ?_
  unfold Oper.wp
  rcases h.next (P := P) K o.type with ⟨h0, hrun⟩ | ⟨k, v, w', hm, hrun, h1, h2, h3, h4⟩
  · simp [execOp, hop, hit, hrun, Result.andThen]
    exact hK' _ _ (hDone h0)
  · simp [execOp, hop, hit, hrun, Result.andThen]
    exact hK' _ _ (hMore k v w' hm h1 h2 h3 h4)
end
end Go.Proofs.YtckblcfkajpofaaGreatDoor
