/- Arguments of a law, opened: a slice whose elements are so many cells each. -/
import Derived.Test.YtckblcfkajpofaaGreatDoorZA1
import Derived.Deep.Slices
import Derived.ProofKit
import Derived.OpenShut
import Derived.SizedLaws
import Derived.ChangeOld
namespace Go.Proofs.YtckblcfkajpofaaGreatDoor
open Go.RowKit Go.ChangeShapes Go.WideShapes Go.Deep
set_option linter.unusedVariables false
set_option linter.unusedSimpArgs false

section
variable {H : Type} {enc : TypeId × Value → H} {P : Program} {w : World}

theorem list_choose {α β : Type} {p : Nat → α → β → Prop} : ∀ (l : List α), (∀ i a, l[i]? = some a → ∃ b, p i a b) → ∃ m : List β, m.length = l.length ∧ ∀ i a b, l[i]? = some a → m[i]? = some b → p i a b
  | [], _ => ⟨[], rfl, fun i a b h => by simp at h⟩
  | x :: l, h => by
    obtain ⟨b, hb⟩ := h 0 x rfl
    obtain ⟨m, hm, hp⟩ := list_choose (p := fun i a b => p (i + 1) a b) l fun i a ha => h (i + 1) a (by simpa using ha)
    refine ⟨b :: m, by simp [hm], fun i a b' ha hb' => ?_⟩
    cases i with
    | zero => simp at ha hb'; subst ha; subst hb'; exact hb
    | succ i => exact hp i a b' (by simpa using ha) (by simpa using hb')

theorem spot_none {a : Addr} {v : Value} (h : w.cell? a = some v) : a.spot = none := by
  unfold World.cell? at h
  split at h
  · split at h
    · cases h
    · rename_i hs; cases e : a.spot <;> simp_all
  · cases h

/-- A slice that came in, of elements of so many cells each: the list that it reads as. -/
theorem open_rows {α : Type} {size : Nat} {f : α → List Value} {g : α → DataW H} {Wf : α → Prop} {t e : TypeId} (hsize : 0 < size) (ht : P.underlying t = some (.slice e)) (hC : P.cellsOf e = size) (hfl : ∀ a, (f a).length = size)
    (hel : ∀ n cs d p, DataW.trod enc P w 0 (fun _ => true) true n e cs = some (d, p) → ∃ a, cs = f a ∧ d = g a ∧ Wf a) {A : Option Addr} {len cap : Nat} {d : DataW H} {p : List MemPlace}
    (h : DataW.Trod enc P w 0 (fun _ => true) true t (.slice A len cap) d p) :
    ∃ l : List α, len = l.length ∧ rowsOf size f w (.slice A len cap) l ∧ (∀ a ∈ l, Wf a) ∧ (d = .nil ∧ l = [] ∨ ∃ sp, d = .slice (l.map g) sp) := by
  obtain ⟨fuel, hf⟩ := h
  rcases open_slice ht hf with ⟨hcs, hx⟩ | ⟨a, len', cap', m, n, D, Pl, hcs, hb, hl, hm, hmm, hx, hi⟩
  · simp [Value.cells] at hcs
    obtain ⟨rfl, rfl, rfl⟩ := hcs
    simp only [Prod.mk.injEq] at hx
    exact ⟨[], rfl, ⟨none, 0, rfl, Nat.le_refl _, by simp, fun h => absurd h (Nat.lt_irrefl 0)⟩, by simp, Or.inl ⟨hx.1, rfl⟩⟩
  · simp [Value.cells] at hcs
    obtain ⟨rfl, rfl, rfl⟩ := hcs
    rw [if_pos rfl] at hmm
    subst hmm
    rw [hC] at hi
    have hall : ∀ i, i < len → ∃ a', w.cells? 0 (a.add (i * size)) size = some (f a') ∧ D i = g a' ∧ Wf a' := fun i hl' => by
      obtain ⟨cs', h1, h2⟩ := hi i (by omega)
      obtain ⟨a', rfl, hd, hw⟩ := hel n cs' _ _ h2
      exact ⟨a', h1, hd, hw⟩
    obtain ⟨l, hll, hp⟩ := list_choose (p := fun i (_ : Nat) a' => w.cells? 0 (a.add (i * size)) size = some (f a') ∧ D i = g a' ∧ Wf a') (List.range len) (fun i j hj => by
      have := (List.getElem?_eq_some_iff.1 hj).1
      exact hall i (by simpa using this))
    rw [List.length_range] at hll
    have hget : ∀ i a', l[i]? = some a' → w.cells? 0 (a.add (i * size)) size = some (f a') ∧ D i = g a' ∧ Wf a' := fun i a' ha => by
      have hlt := (List.getElem?_eq_some_iff.1 ha).1
      exact hp i i a' (by rw [List.getElem?_range (by omega)]) ha
    refine ⟨l, hll.symm, ⟨some a, m, by rw [hll], by omega, by unfold maxLen at hm; omega, fun h0 => ?_⟩, fun a' ha' => ?_, Or.inr ?_⟩
    · have hsp : a.spot = none := by
        obtain ⟨a0, ha0⟩ : ∃ a0, l[0]? = some a0 := ⟨_, List.getElem?_eq_getElem h0⟩
        obtain ⟨_, _, hat⟩ := World.cells?_some (hget 0 a0 ha0).1
        have h0' := hat 0 hsize
        rw [List.getElem?_eq_getElem (by rw [hfl]; exact hsize)] at h0'
        have := spot_none h0'
        simpa [Addr.add] using this
      refine ⟨a.block, a.off, by cases a; simp at hsp; subst hsp; rfl, fun i a' ha j u hu => ?_⟩
      obtain ⟨_, _, hat⟩ := World.cells?_some (hget i a' ha).1
      have hj : j < size := by rw [← hfl a']; exact (List.getElem?_eq_some_iff.1 hu).1
      have h1 := (hat j hj).trans hu
      rw [Go.Deep.add_add] at h1
      have e1 : a.add (i * size + j) = ⟨a.block, a.off + i * size + j, none⟩ := by
        cases a; simp at hsp; subst hsp; rw [add_at, Nat.add_assoc]
      rw [e1] at h1; exact h1
    · obtain ⟨i, hi'⟩ := List.getElem?_of_mem ha'
      exact (hget i a' hi').2.2
    · simp only [Prod.mk.injEq] at hx
      refine ⟨(List.range (m - len)).map fun j => D (len + j), ?_⟩
      rw [hx.1]
      congr 1
      apply List.ext_getElem?
      intro i
      by_cases hi' : i < len
      · obtain ⟨a', ha'⟩ : ∃ a', l[i]? = some a' := ⟨_, List.getElem?_eq_getElem (by omega)⟩
        rw [List.getElem?_map, List.getElem?_map, ha', List.getElem?_range hi']
        simp [(hget i a' ha').2.1]
      · rw [List.getElem?_map, List.getElem?_map, List.getElem?_eq_none (by simp; omega), List.getElem?_eq_none (by omega)]; rfl

theorem weightsAll_mem {e : TypeId} {n : Nat} : ∀ {l : List (DataW H)} {d : DataW H}, d ∈ l → n ∈ d.weights P e → n ∈ DataW.weightsAll P e l
  | x :: l, d, hd, hn => by
    rw [DataW.weightsAll, List.mem_append]
    rcases List.mem_cons.1 hd with rfl | h
    · exact Or.inl hn
    · exact Or.inr (weightsAll_mem h hn)
  | [], d, hd, _ => by cases hd

/-- what is known of the sizes of an argument is known of each element -/
theorem sized_elem {ts : List TypeId} {ds : List (DataW H)} (h : (DataW.weightsEach P ts ds).all (· ≤ reachBytes) = true) {j : Nat} {t e : TypeId} {elems spare : List (DataW H)} (ht : ts[j]? = some t) (hd : ds[j]? = some (.slice elems spare)) (hu : P.underlying t = some (.slice e))
    {d : DataW H} (hm : d ∈ elems) {n : Nat} (hn : n ∈ d.weights P e) : n ≤ 140737488351232 := by
  have := List.all_eq_true.1 h n (DataW.weights_mem_each ht hd n (by rw [DataW.weights, hu]; simp only [List.mem_cons, List.mem_append]; exact Or.inr (Or.inl (weightsAll_mem hm hn))))
  exact of_decide_eq_true this
theorem sized_arg {ts : List TypeId} {ds : List (DataW H)} (h : (DataW.weightsEach P ts ds).all (· ≤ reachBytes) = true) {j : Nat} {t : TypeId} {d : DataW H} (ht : ts[j]? = some t) (hd : ds[j]? = some d) {n : Nat} (hn : n ∈ d.weights P t) : n ≤ 140737488351232 := by
  have := List.all_eq_true.1 h n (DataW.weights_mem_each ht hd n hn)
  exact of_decide_eq_true this

/-- a struct that came in, field by field, each of one cell -/
theorem trod_fields {t : TypeId} {fs : Array Field} {n : Nat} {cs : List Value} {x : DataW H × List MemPlace} (ht : P.underlying t = some (.struct fs)) (h : DataW.trod enc P w 0 (fun _ => true) true n t cs = some x) :
    ∃ (xs : List (DataW H × List MemPlace)) (m : Nat), x.1 = .agg (xs.map (·.1)) ∧ cs.length = P.cellsOf t ∧ xs.length = fs.size ∧
      ∀ (i : Nat) (f : Field) (v : Value), fs[i]? = some f → P.cellsOf f.type = 1 → cs[f.offset]? = some v → ∃ y, xs[i]? = some y ∧ DataW.trod enc P w 0 (fun _ => true) true m f.type [v] = some y := by
  obtain ⟨xs, m, _, hx, hl, hxl, hf⟩ := DataW.trod_struct ht h
  refine ⟨xs, m, by rw [hx], hl, hxl, fun i f v hi h1 hv => ?_⟩
  have h2 := hf i f hi
  have hlt := (List.getElem?_eq_some_iff.1 hv).1
  have h3 : (cs.drop f.offset).take 1 = [v] := by
    rw [List.drop_eq_getElem_cons hlt]
    have := (List.getElem?_eq_some_iff.1 hv).2
    simp [this]
  rw [h1, h3] at h2
  have hil : i < xs.length := by rw [hxl]; exact (Array.getElem?_eq_some_iff.1 hi).1
  exact ⟨xs[i], List.getElem?_eq_getElem hil, by rw [h2, List.getElem?_eq_getElem hil]⟩
theorem four_of {α : Type} {l : List α} (h : l.length = 4) : ∃ a b c d, l = [a, b, c, d] := by
  match l, h with
  | [a, b, c, d], _ => exact ⟨a, b, c, d, rfl⟩
theorem three_of {α : Type} {l : List α} (h : l.length = 3) : ∃ a b c, l = [a, b, c] := by
  match l, h with
  | [a, b, c], _ => exact ⟨a, b, c, rfl⟩
theorem two_of {α : Type} {l : List α} (h : l.length = 2) : ∃ a b, l = [a, b] := by
  match l, h with
  | [a, b], _ => exact ⟨a, b, rfl⟩
end
end Go.Proofs.YtckblcfkajpofaaGreatDoor
