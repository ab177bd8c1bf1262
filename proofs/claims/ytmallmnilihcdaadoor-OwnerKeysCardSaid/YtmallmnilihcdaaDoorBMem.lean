/- Words of my own on memory: what a call keeps, rows of strings. No program in sight. -/
import Derived.Test.YtmallmnilihcdaaDoorBMap
import Derived.Maps.AppendAt
import Derived.Lib.Hide
import Derived.Deep.Draws
import Derived.Deep.RegionLaw
namespace Go.Proofs.YtmallmnilihcdaaDoor
open Go.RowKit
set_option linter.unusedVariables false
set_option linter.unusedSimpArgs false

/-- Outside F all that was there is as it was. -/
structure Keep (F : Nat → Prop) (w w' : World) : Prop where
  os : w'.os = w.os
  tape : w'.tape = w.tape
  output : w'.output = w.output
  size : w.heap.size ≤ w'.heap.size
  block : ∀ k, k < w.heap.size → ¬ F k → w'.heap[k]? = w.heap[k]?

section
variable {F G : Nat → Prop} {w w1 w2 w' : World}
theorem Keep.refl (F : Nat → Prop) (w : World) : Keep F w w := ⟨rfl, rfl, rfl, Nat.le_refl _, fun _ _ _ => rfl⟩
theorem Keep.mono (h : Keep F w w') (hF : ∀ k, F k → G k) : Keep G w w' := ⟨h.os, h.tape, h.output, h.size, fun k hk hn => h.block k hk (fun e => hn (hF k e))⟩
/-- two steps: what the second may write is what the first may, or new -/
theorem Keep.trans (h : Keep F w w1) (k : Keep G w1 w2) (hG : ∀ i, G i → F i ∨ w.heap.size ≤ i) : Keep F w w2 :=
  ⟨k.os.trans h.os, k.tape.trans h.tape, k.output.trans h.output, Nat.le_trans h.size k.size, fun i hi hn =>
    (k.block i (Nat.lt_of_lt_of_le hi h.size) (fun g => (hG i g).elim hn (by omega))).trans (h.block i hi hn)⟩
theorem Keep.same (h : Keep F w w1) (k : Keep F w1 w2) : Keep F w w2 := h.trans k fun _ g => Or.inl g
theorem Keep.of_below (h : Below w.heap.size w w') : Keep F w w' := ⟨h.os, h.tape, h.output, h.size, fun k hk _ => h.block k hk⟩
theorem Keep.below (h : Keep (fun _ => False) w w') : Below w.heap.size w w' := ⟨h.os, h.tape, h.output, h.size, fun k hk => h.block k hk (fun e => e)⟩
theorem Keep.of_grown {row : Option Nat} (h : w.grownBy w' row) (hr : ∀ k, row = some k → F k) : Keep F w w' := ⟨h.os, h.tape, h.output, h.size, fun k hk hn => h.block k hk (fun e => hn (hr k e.symm))⟩
theorem Keep.new (h : Keep (fun k => w.heap.size ≤ k) w w') : Below w.heap.size w w' := ⟨h.os, h.tape, h.output, h.size, fun k hk => h.block k hk (by omega)⟩
theorem Keep.alloc (F : Nat → Prop) (w : World) (o : Obj) : Keep F w (w.alloc o) := Keep.of_below ((Below.refl _ _).alloc (Nat.le_refl _) o)
theorem Keep.drewN (F : Nat → Prop) (w : World) (n : Nat) : Keep F w (w.drewN n) := ⟨rfl, rfl, rfl, Nat.le_refl _, fun _ _ _ => rfl⟩
theorem Keep.drew (F : Nat → Prop) (w : World) : Keep F w w.drew := ⟨rfl, rfl, rfl, Nat.le_refl _, fun _ _ _ => rfl⟩
theorem Keep.setCell (F : Nat → Prop) (w : World) {p : Addr} (hp : F p.block) (u : Value) : Keep F w (w.setCell p u) :=
  ⟨rfl, rfl, rfl, by simp [World.setCell], fun k hk hn => Below.heap_setCell _ _ _ _ (fun e => hn (by rw [e]; exact hp))⟩
theorem Keep.at (h : Keep F w w') {k : Nat} {o : Obj} (hk : w.heap[k]? = some o) (hn : ¬ F k) : w'.heap[k]? = some o :=
  (h.block k (Array.getElem?_eq_some_iff.1 hk).1 hn).trans hk
theorem Keep.cell (h : Keep F w w') {p : Addr} {v : Value} (hc : w.cell? p = some v) (hn : ¬ F p.block) : w'.cell? p = some v :=
  (World.cell?_of_block (h.block p.block (World.block_lt_of_cell? w p hc) hn)).trans hc
theorem Keep.smap (h : Keep F w w') {κ : Type} {mk : κ → Value} {b : Nat} {l : List (κ × Value)} (hm : smap w mk b l) (hn : ¬ F b) : smap w' mk b l := hm.keep (h.block b hm.lt hn)
theorem Keep.own (h : Keep F w w') {base : Nat} {e : TypeId} {size n : Nat} {v : Value} {xs : List Value} (ho : w.ownsRow base e size v n xs) (hn : ∀ k, v.ownBlock = some k → ¬ F k) : w'.ownsRow base e size v n xs := by
  refine ⟨ho.1, ?_⟩
  rcases ho.2 with h2 | ⟨g, cap, cur, hv, hg, hh, r⟩
  · exact Or.inl h2
  · exact Or.inr ⟨g, cap, cur, hv, hg, h.at hh (hn g (by rw [hv]; rfl)), r⟩
end

/-- Some draws, and nothing else. -/
def Drawn (w w' : World) : Prop := ∃ n, w' = w.drewN n
theorem Drawn.refl (w : World) : Drawn w w := ⟨0, rfl⟩
theorem Drawn.drewN {w w' : World} (h : Drawn w w') (n : Nat) : Drawn w (w'.drewN n) := by
  obtain ⟨m, rfl⟩ := h; exact ⟨m + n, by simp [World.drewN, Nat.add_assoc]⟩
theorem Drawn.drew {w w' : World} (h : Drawn w w') : Drawn w w'.drew := h.drewN 1
theorem Drawn.trans {w w1 w2 : World} (h : Drawn w w1) (k : Drawn w1 w2) : Drawn w w2 := by obtain ⟨n, rfl⟩ := k; exact h.drewN n
theorem Drawn.keep {w w' : World} (h : Drawn w w') (F : Nat → Prop) : Keep F w w' := by obtain ⟨n, rfl⟩ := h; exact Keep.drewN F w n
theorem Drawn.below {w w' : World} (h : Drawn w w') : Below w.heap.size w w' := (h.keep _).below
theorem Drawn.size {w w' : World} (h : Drawn w w') : w'.heap.size = w.heap.size := by obtain ⟨n, rfl⟩ := h; rfl
theorem add_at (g o j : Nat) : (⟨g, o, none⟩ : Addr).add j = ⟨g, o + j, none⟩ := by unfold Addr.add; split <;> simp_all
theorem get_alloc (w : World) (o : Obj) (k : Nat) : (w.alloc o).heap[k]? = if k = w.heap.size then some o else w.heap[k]? := by
  show (w.heap.push o)[k]? = _
  rw [Array.getElem?_push]
theorem size_alloc (w : World) (o : Obj) : (w.alloc o).heap.size = w.heap.size + 1 := by show (w.heap.push o).size = _; simp
theorem smap.alloc {w : World} {κ : Type} {mk : κ → Value} {b : Nat} {l : List (κ × Value)} (h : smap w mk b l) (o : Obj) : smap (w.alloc o) mk b l := (Keep.alloc (fun _ => False) w o).smap h fun e => e

/-- append, in a region that draws its order, by an equation on its run -/
theorem step_append_run {P : Program} {ops : Array Oper} {o : Oper} {a : Act} {w w' : World} {K : Act → World → Prop} {Q : Exit → Act → World → Prop} {E : Prop} {v v' u : Value}
    (hg : o.guard = none) (s x : Operand) (t : TypeId) (hop : o.op = Op.call { callee := Callee.builtin Builtin.append, args := #[s, x], argTypes := #[t, t] })
    (hs : a.eval s = v) (hx : a.eval x = u) (hrun : (Builtin.append_ #[t, t] o.type #[v, u]).run P w = .ok v' w') (hK : K (a.put o.dst v') w') :
    if Region.wanted o (yielded ops a.tmps) = true then Oper.wp P o a w K Q else E := by
  have hw : Region.wanted o (yielded ops a.tmps) = true := by simp [Region.wanted, hg]
  rw [if_pos hw]
  unfold Oper.wp
  simp [execOp, hop, resolve, invoke, builtin, hs, hx, hrun, Result.andThen]
  exact hK
theorem wp_append_run {P : Program} {ops : Array Oper} {rest : List Oper} {o : Oper} {a : Act} {w w' : World} {Q : Exit → Act → World → Prop} {v v' u : Value}
    (hg : o.guard = none) (s x : Operand) (t : TypeId) (hop : o.op = Op.call { callee := Callee.builtin Builtin.append, args := #[s, x], argTypes := #[t, t] })
    (hs : a.eval s = v) (hx : a.eval x = u) (hrun : (Builtin.append_ #[t, t] o.type #[v, u]).run P w = .ok v' w') (hK : wpList P ops Q rest (a.put o.dst v') w') : wpList P ops Q (o :: rest) a w := by
  refine wpList_plain hg fun K' hK' => ?_
  unfold Oper.wp
  simp [execOp, hop, resolve, invoke, builtin, hs, hx, hrun, Result.andThen]
  exact hK' _ _ hK
theorem frozen_of_row {w : World} {b : Nat} {cs : Array Value} {t : TypeId} (h : w.heap[b]? = some (.cells cs t (0, 0))) (i : Nat) : w.frozen? ⟨b, i, none⟩ = false := by simp [World.frozen?, h]
theorem set_at {w : World} {b : Nat} {cs : Array Value} {t : TypeId} (h : w.heap[b]? = some (.cells cs t (0, 0))) (i : Nat) (u : Value) : (w.setCell ⟨b, i, none⟩ u).heap[b]? = some (.cells (cs.setIfInBounds i u) t (0, 0)) := by
  have hl : b < w.heap.size := (Array.getElem?_eq_some_iff.1 h).1
  simp only [World.setCell, Array.getElem?_modify, if_true]
  rw [h]; rfl

theorem own_slice {w : World} {base : Nat} {e : TypeId} {size n : Nat} {v : Value} {xs : List Value} (h : w.ownsRow base e size v n xs) : ∃ A c, v = .slice A n c ∧ n ≤ c ∧ c ≤ maxLen := by
  rcases h.2 with ⟨rfl, h0⟩ | ⟨g, cap, cur, rfl, _, _, h1, h2, _⟩
  · exact ⟨none, 0, by rw [h0], by omega, by decide⟩
  · exact ⟨_, _, rfl, h1, h2⟩
theorem own_block {w : World} {base : Nat} {e : TypeId} {size n : Nat} {v : Value} {xs : List Value} (h : w.ownsRow base e size v n xs) (hn : 0 < n) : ∃ g c, v = .slice (some ⟨g, 0, none⟩) n c ∧ n ≤ c ∧ ∀ j u, xs[j]? = some u → w.cell? ⟨g, j, none⟩ = some u ∧ w.frozen? ⟨g, j, none⟩ = false := by
  rcases h.2 with ⟨rfl, h0⟩ | ⟨g, cap, cur, rfl, _, hg, h1, h2, h3, h4⟩
  · omega
  · refine ⟨g, cap, rfl, h1, fun j u hu => ⟨?_, frozen_of_row hg j⟩⟩
    rw [cell_of_row w g _ _ _ _ hg, ← Array.getElem?_toList]
    rw [← h4, List.getElem?_take] at hu
    split at hu
    · exact hu
    · cases hu

/-! ### rows of strings -/
def strV (l : List ByteArray) : List Value := l.map Value.string
theorem strV_length (l : List ByteArray) : (strV l).length = l.length := by simp [strV]
theorem strV_append (l m : List ByteArray) : strV (l ++ m) = strV l ++ strV m := by simp [strV]
theorem strV_one (l : List ByteArray) : ∀ u ∈ strV l, u.oneCell' = true := by intro u hu; obtain ⟨s, _, rfl⟩ := List.mem_map.1 hu; rfl
theorem strV_get (l : List ByteArray) (i : Nat) : (strV l)[i]? = (l[i]?).map Value.string := by simp [strV]

/-- The slice v reads as the strings l. -/
def strs (w : World) (v : Value) (l : List ByteArray) : Prop :=
  ∃ A c, v = .slice A l.length c ∧ l.length ≤ c ∧ l.length ≤ 9223372036854775807 ∧ (0 < l.length → ∃ b off, A = some ⟨b, off, none⟩ ∧ ∀ i s, l[i]? = some s → w.cell? ⟨b, off + i, none⟩ = some (.string s))

theorem strs.keep {F : Nat → Prop} {w w' : World} {v : Value} {l : List ByteArray} (h : strs w v l) (k : Keep F w w') (hn : ∀ b, v.ownBlock = some b → ¬ F b) : strs w' v l := by
  obtain ⟨A, c, rfl, h1, h2, h3⟩ := h
  refine ⟨A, c, rfl, h1, h2, fun h0 => ?_⟩
  obtain ⟨b, off, rfl, hc⟩ := h3 h0
  exact ⟨b, off, rfl, fun i s hs => k.cell (hc i s hs) (hn b rfl)⟩
theorem strs.below {w w' : World} {v : Value} {l : List ByteArray} (h : strs w v l) (k : Below w.heap.size w w') : strs w' v l := h.keep (F := fun _ => False) (Keep.of_below k) fun _ _ e => e
theorem strs_nil (w : World) : strs w (.slice none 0 0) [] := ⟨none, 0, rfl, Nat.le_refl _, by simp, fun h => absurd h (Nat.lt_irrefl 0)⟩
theorem strs_own {w : World} {base : Nat} {e : TypeId} {v : Value} {n : Nat} {l : List ByteArray} (h : w.ownsRow base e 1 v n (strV l)) : strs w v l := by
  have hn : n = l.length := by have := h.1; rw [strV_length] at this; omega
  subst hn
  rcases h.2 with ⟨rfl, h0⟩ | ⟨g, cap, cur, rfl, hb, hg, hnc, hcm, hcs, htake⟩
  · have : l = [] := List.eq_nil_of_length_eq_zero h0
    subst this; exact strs_nil w
  · refine ⟨_, cap, rfl, hnc, by unfold maxLen at hcm; omega, fun h0 => ⟨g, 0, rfl, fun i s hs => ?_⟩⟩
    rw [Nat.zero_add, cell_of_row w g i cur e (0, 0) hg]
    have h1 : (strV l)[i]? = some (.string s) := by rw [strV_get, hs]; rfl
    rw [← htake, List.getElem?_take] at h1
    split at h1
    · simpa using h1
    · cases h1
theorem strs_lit (w : World) (t : TypeId) (l : List ByteArray) (h : l.length ≤ 9223372036854775807) : strs (w.alloc (.cells (strV l).toArray t)) (.slice (some ⟨w.heap.size, 0, none⟩) l.length l.length) l :=
  ⟨_, l.length, rfl, Nat.le_refl _, h, fun _ => ⟨w.heap.size, 0, rfl, fun i s hs => by
    have hh : (w.alloc (.cells (strV l).toArray t)).heap[w.heap.size]? = some (.cells (strV l).toArray t (0, 0)) := by rw [get_alloc]; simp
    rw [cell_of_row _ _ _ _ _ _ hh, Nat.zero_add]; simp [strV, hs]⟩⟩

/-! ### rows of anything: each element is so many cells -/
def rowsOf {α : Type} (size : Nat) (f : α → List Value) (w : World) (v : Value) (l : List α) : Prop :=
  ∃ A c, v = .slice A l.length c ∧ l.length ≤ c ∧ l.length ≤ 9223372036854775807 ∧ (0 < l.length → ∃ b off, A = some ⟨b, off, none⟩ ∧ ∀ i a, l[i]? = some a → ∀ j u, (f a)[j]? = some u → w.cell? ⟨b, off + i * size + j, none⟩ = some u)
theorem rowsOf.keep {α : Type} {size : Nat} {f : α → List Value} {F : Nat → Prop} {w w' : World} {v : Value} {l : List α} (h : rowsOf size f w v l) (k : Keep F w w') (hn : ∀ b, v.ownBlock = some b → ¬ F b) : rowsOf size f w' v l := by
  obtain ⟨A, c, rfl, h1, h2, h3⟩ := h
  refine ⟨A, c, rfl, h1, h2, fun h0 => ?_⟩
  obtain ⟨b, off, rfl, hc⟩ := h3 h0
  exact ⟨b, off, rfl, fun i a ha j u hu => k.cell (hc i a ha j u hu) (hn b rfl)⟩
theorem rowsOf.below {α : Type} {size : Nat} {f : α → List Value} {w w' : World} {v : Value} {l : List α} (h : rowsOf size f w v l) (k : Below w.heap.size w w') : rowsOf size f w' v l := h.keep (F := fun _ => False) (Keep.of_below k) fun _ _ e => e
end Go.Proofs.YtmallmnilihcdaaDoor
