/- Words of my own: a block that is a map, as a list of keys and values, and what Go's operations on it do. No program in sight. Words of my own on memory: what a call keeps, rows of strings. No program in sight. Go's order of strings, and lists in order. What a name is: plain law, no program in sight. for k, v := range m, over a map as an association list. No program in sight. A region that draws its order, step by step: what only reads is taken first, in worlds that meet a condition S; behind the first operation of the tail, which waits for all that reads, S is asked no more. -/
import Derived.Maps.OwnSet
import Derived.Maps.RangeWalk
import Derived.WalkKit
import Derived.Carry
import Derived.Maps.AppendAt
import Derived.Lib.Hide
import Derived.Deep.Draws
import Derived.Deep.RegionLaw
import Derived.Lib.ValidLaws
import Derived.Lib.MapLaws
import Derived.Lib.ValidU
import Derived.StillTail
import Derived.OrdersHeld
namespace Go.Proofs.YtgacfkenndhcnaaDoor
set_option linter.unusedVariables false
set_option linter.unusedSimpArgs false
open Go.ChangeMaps (setBlock heap_setBlock_same heap_setBlock_other)
open Go.MapKept (Stamped stamped_empty stamped_push stamped_erase stamped_modify IsKey)

theorem snoc_ind {α : Type} {P : List α → Prop} (h0 : P []) (hs : ∀ l x, P l → P (l ++ [x])) (l : List α) : P l := by
  have h : ∀ n (l : List α), l.length = n → P l := by
    intro n
    induction n with
    | zero => intro l hl; rw [List.eq_nil_of_length_eq_zero hl]; exact h0
    | succ n ih =>
      intro l hl
      rcases List.eq_nil_or_concat l with e | ⟨m, x, e⟩
      · rw [e] at hl; cases hl
      · rw [List.concat_eq_append] at e; rw [e]; exact hs m x (ih m (by rw [e] at hl; simpa using hl))
  exact h _ l rfl

/-! ### lists of keys and values -/
section
variable {κ α β : Type}

def aget [DecidableEq κ] (l : List (κ × α)) (k : κ) : Option α := (l.find? (fun p => decide (p.1 = k))).map (·.2)
def aput [DecidableEq κ] (l : List (κ × α)) (k : κ) (v : α) : List (κ × α) := if (aget l k).isSome then l.map (fun p => if p.1 = k then (k, v) else p) else l ++ [(k, v)]
def adel [DecidableEq κ] (l : List (κ × α)) (k : κ) : List (κ × α) := l.filter (fun p => decide (p.1 ≠ k))
def amap (f : α → β) (l : List (κ × α)) : List (κ × β) := l.map fun p => (p.1, f p.2)
def akeys (l : List (κ × α)) : List κ := l.map (·.1)

theorem aget_nil [DecidableEq κ] (k : κ) : aget ([] : List (κ × α)) k = none := rfl
theorem aget_cons [DecidableEq κ] (p : κ × α) (l : List (κ × α)) (k : κ) : aget (p :: l) k = if p.1 = k then some p.2 else aget l k := by
  unfold aget; by_cases h : p.1 = k <;> simp [List.find?_cons, h]
theorem aget_none [DecidableEq κ] {l : List (κ × α)} {k : κ} : aget l k = none ↔ k ∉ akeys l := by
  induction l with
  | nil => simp [aget_nil, akeys]
  | cons p l ih =>
    rw [aget_cons]; by_cases h : p.1 = k
    · simp [h, akeys]
    · simp only [h, if_false, ih, akeys, List.map_cons, List.mem_cons, not_or]
      exact ⟨fun h' => ⟨fun e => h e.symm, h'⟩, fun h' => h'.2⟩
theorem aget_isSome [DecidableEq κ] {l : List (κ × α)} {k : κ} : (aget l k).isSome = true ↔ k ∈ akeys l := by
  cases h : aget l k with
  | none => simp [aget_none.1 h]
  | some v => simp; exact Classical.byContradiction fun hn => by rw [aget_none.2 hn] at h; cases h
theorem aget_mem [DecidableEq κ] {l : List (κ × α)} {k : κ} {v : α} (h : aget l k = some v) : (k, v) ∈ l := by
  induction l with
  | nil => cases h
  | cons p l ih =>
    rw [aget_cons] at h; by_cases e : p.1 = k
    · rw [if_pos e] at h; cases h; subst e; exact List.mem_cons_self
    · rw [if_neg e] at h; exact List.mem_cons_of_mem _ (ih h)
theorem aget_of_mem [DecidableEq κ] {l : List (κ × α)} (hn : (akeys l).Nodup) {k : κ} {v : α} (h : (k, v) ∈ l) : aget l k = some v := by
  induction l with
  | nil => cases h
  | cons p l ih =>
    simp only [akeys, List.map_cons, List.nodup_cons] at hn
    rw [aget_cons]
    rcases List.mem_cons.1 h with rfl | h'
    · simp
    · have : p.1 ≠ k := fun e => hn.1 (by rw [e]; exact List.mem_map.2 ⟨_, h', rfl⟩)
      rw [if_neg this]; exact ih hn.2 h'
theorem aget_amap [DecidableEq κ] (f : α → β) (l : List (κ × α)) (k : κ) : aget (amap f l) k = (aget l k).map f := by
  induction l with
  | nil => rfl
  | cons p l ih => rw [amap, List.map_cons, aget_cons, aget_cons]; by_cases h : p.1 = k <;> simp [h]; exact ih
theorem akeys_amap (f : α → β) (l : List (κ × α)) : akeys (amap f l) = akeys l := by simp [akeys, amap, Function.comp_def]
theorem aput_amap [DecidableEq κ] (f : α → β) (l : List (κ × α)) (k : κ) (v : α) : aput (amap f l) k (f v) = amap f (aput l k v) := by
  unfold aput; rw [aget_amap]; simp only [Option.isSome_map]
  split
  · simp only [amap, List.map_map]; apply List.map_congr_left; intro p _; simp only [Function.comp]; split <;> rfl
  · simp [amap]
theorem adel_amap [DecidableEq κ] (f : α → β) (l : List (κ × α)) (k : κ) : adel (amap f l) k = amap f (adel l k) := by
  unfold adel amap; rw [List.filter_map]; rfl
theorem akeys_aput [DecidableEq κ] (l : List (κ × α)) (k : κ) (v : α) : akeys (aput l k v) = if k ∈ akeys l then akeys l else akeys l ++ [k] := by
  unfold aput
  by_cases h : k ∈ akeys l
  · rw [if_pos (aget_isSome.2 h), if_pos h]; simp only [akeys, List.map_map]; apply List.map_congr_left
    intro p _; simp only [Function.comp]; split <;> simp_all
  · rw [if_neg (fun e => h (aget_isSome.1 e)), if_neg h]; simp [akeys]
theorem akeys_adel [DecidableEq κ] (l : List (κ × α)) (k : κ) : akeys (adel l k) = (akeys l).filter (fun x => decide (x ≠ k)) := by
  unfold akeys adel; rw [List.filter_map]; rfl
theorem aput_length [DecidableEq κ] (l : List (κ × α)) (k : κ) (v : α) : (aput l k v).length ≤ l.length + 1 := by unfold aput; split <;> simp
theorem nodup_aput [DecidableEq κ] {l : List (κ × α)} (h : (akeys l).Nodup) (k : κ) (v : α) : (akeys (aput l k v)).Nodup := by
  rw [akeys_aput]; split
  · exact h
  · rename_i hk; refine List.nodup_append.2 ⟨h, by simp, ?_⟩; intro a ha b hb; simp at hb; subst hb; exact fun e => hk (e ▸ ha)
theorem nodup_adel [DecidableEq κ] {l : List (κ × α)} (h : (akeys l).Nodup) (k : κ) : (akeys (adel l k)).Nodup := by
  rw [akeys_adel]; exact h.filter _
theorem aget_aput [DecidableEq κ] (l : List (κ × α)) (k : κ) (v : α) (j : κ) : aget (aput l k v) j = if j = k then some v else aget l j := by
  unfold aput
  by_cases h : (aget l k).isSome = true
  · rw [if_pos h]
    induction l with
    | nil => simp [aget_nil] at h
    | cons p l ih =>
      rw [List.map_cons, aget_cons, aget_cons]
      rw [aget_cons] at h
      by_cases e : p.1 = k
      · rw [if_pos e]
        by_cases ej : j = k
        · simp [ej]
        · have e1 : ¬ k = j := fun e => ej e.symm
          have e2 : ¬ p.1 = j := by rw [e]; exact e1
          simp only [e1, e2, ej, if_false]
          clear ih h
          induction l with
          | nil => rfl
          | cons q l ih' =>
            rw [List.map_cons, aget_cons, aget_cons, ih']
            by_cases eq : q.1 = k
            · rw [if_pos eq]; have e3 : ¬ q.1 = j := by rw [eq]; exact e1
              simp [e1, e3]
            · rw [if_neg eq]
      · rw [if_neg e] at h
        rw [if_neg e, ih h]
        by_cases ej : j = k
        · subst ej; simp [e]
        · simp [ej]
  · rw [if_neg h]
    have hn : aget l k = none := by cases g : aget l k <;> simp_all
    clear h
    induction l with
    | nil => rw [List.nil_append, aget_cons, aget_nil]; by_cases ej : j = k <;> simp [ej]; intro e; exact absurd e.symm ej
    | cons p l ih =>
      rw [aget_cons] at hn
      have e : ¬ p.1 = k := fun e => by rw [if_pos e] at hn; cases hn
      rw [if_neg e] at hn
      rw [List.cons_append, aget_cons, aget_cons, ih hn]
      by_cases ej : j = k
      · subst ej; simp [e]
      · simp [ej]
theorem aget_adel [DecidableEq κ] (l : List (κ × α)) (k j : κ) : aget (adel l k) j = if j = k then none else aget l j := by
  unfold adel
  induction l with
  | nil => simp [aget_nil]
  | cons p l ih =>
    rw [List.filter_cons, aget_cons]
    by_cases e : p.1 = k
    · simp only [e, ne_eq, not_true_eq_false, decide_false, Bool.false_eq_true, if_false]
      rw [ih]; by_cases ej : j = k
      · simp [ej]
      · have : ¬ k = j := fun e => ej e.symm
        simp [ej, this]
    · simp only [ne_eq, e, not_false_eq_true, decide_true, if_true]
      rw [aget_cons, ih]; by_cases ej : j = k
      · subst ej; simp [e]
      · simp [ej]
theorem adel_of_none [DecidableEq κ] {l : List (κ × α)} {a : κ} (h : aget l a = none) : adel l a = l := by
  unfold adel; rw [List.filter_eq_self]; intro p hp; simp; intro e
  exact (aget_none.1 h) (by rw [← e]; exact List.mem_map.2 ⟨p, hp, rfl⟩)

end

/-! ### a key's type -/
structure MK (P : Program) (kt : TypeId) {κ : Type} (mk : κ → Value) : Prop where
  inj : ∀ {a b : κ}, mk a = mk b → a = b
  check : ∀ (w : World) (em : Bool) (a : κ), (Instr.checkKey em 10000 kt (mk a)).run P w = .ok () w
  find : ∀ (w : World) (a : κ) (es : List MapEntry), (∀ e ∈ es, ∃ b, e.key = mk b) →
    ((Instr.findKey kt (mk a) es).run P w = .ok none w ∧ ∀ e ∈ es, e.key ≠ mk a) ∨ ∃ j e, (Instr.findKey kt (mk a) es).run P w = .ok (some (j, e.val)) w ∧ es[j]? = some e ∧ e.key = mk a
  stays : ∀ (w : World) (a : κ), (Instr.keyThatStays (mk a) (mk a)).run P w = .ok (mk a) w

theorem mk_string {P : Program} {kt : TypeId} (hk : P.underlying kt = some .string) : MK P kt Value.string where
  inj h := by cases h; rfl
  check w em a := Go.MapKept.run_checkKey hk (by trivial) em 9999
  find w a es hes := by
    have hks : ∀ y ∈ es, IsKey .string y.key := fun y hy => by obtain ⟨l, hl⟩ := hes y hy; rw [hl]; trivial
    rcases Go.MapKept.findNow_spec (d := .string) (k := .string a) (by trivial) es 0 hks with ⟨h1, h2⟩ | ⟨j, e0, h1, h2, h3⟩
    · exact Or.inl ⟨Go.MapKept.run_findKey hk h1, h2⟩
    · exact Or.inr ⟨j, e0, by simpa using Go.MapKept.run_findKey hk h1, h2, h3⟩
  stays w a := Go.MapKept.run_keyThatStays (d := .string) (by trivial)

/-! ### a block that is a map -/
section
variable {κ : Type}

/-- Block b of w is a map whose entries are l, keys told by mk. -/
def smap (w : World) (mk : κ → Value) (b : Nat) (l : List (κ × Value)) : Prop :=
  ∃ es clock, w.heap[b]? = some (.map es clock) ∧ Stamped es clock ∧ es.toList.map (fun e => (e.key, e.val)) = l.map (fun p => (mk p.1, p.2)) ∧ (akeys l).Nodup

variable {P : Program} {kt : TypeId} {mk : κ → Value} {w w' : World} {b : Nat} {l : List (κ × Value)}

theorem smap.lt (h : smap w mk b l) : b < w.heap.size := by obtain ⟨es, c, hb, _⟩ := h; exact (Array.getElem?_eq_some_iff.1 hb).1
theorem smap.nodup (h : smap w mk b l) : (akeys l).Nodup := by obtain ⟨es, c, _, _, _, h⟩ := h; exact h
theorem smap.keep (h : smap w mk b l) (e : w'.heap[b]? = w.heap[b]?) : smap w' mk b l := by
  obtain ⟨es, c, hb, r⟩ := h; exact ⟨es, c, e.trans hb, r⟩
theorem smap_made (w : World) (mk : κ → Value) : smap (w.alloc (.map #[] 0)) mk w.heap.size [] :=
  ⟨#[], 0, (MapKept.heap_alloc w _).1, stamped_empty 0, rfl, by simp [akeys]⟩

theorem map_pairs_get {es : List MapEntry} (he : es.map (fun e => (e.key, e.val)) = l.map (fun p => (mk p.1, p.2))) {j : Nat} {e : MapEntry} (hj : es[j]? = some e) : ∃ p, l[j]? = some p ∧ e.key = mk p.1 ∧ e.val = p.2 := by
  have h1 : (es.map (fun e => (e.key, e.val)))[j]? = some (e.key, e.val) := by rw [List.getElem?_map, hj]; rfl
  rw [he, List.getElem?_map] at h1
  cases g : l[j]? with
  | none => rw [g] at h1; cases h1
  | some p => rw [g] at h1; simp only [Option.map_some, Option.some.injEq, Prod.mk.injEq] at h1; exact ⟨p, rfl, h1.1.symm, h1.2.symm⟩
theorem map_pairs_mem {es : List MapEntry} (he : es.map (fun e => (e.key, e.val)) = l.map (fun p => (mk p.1, p.2))) {p : κ × Value} (hp : p ∈ l) : ∃ e ∈ es, e.key = mk p.1 ∧ e.val = p.2 := by
  have h1 : (mk p.1, p.2) ∈ es.map (fun e => (e.key, e.val)) := by rw [he]; exact List.mem_map.2 ⟨p, hp, rfl⟩
  obtain ⟨e, he, h2⟩ := List.mem_map.1 h1
  simp only [Prod.mk.injEq] at h2; exact ⟨e, he, h2.1, h2.2⟩

/-- what finding a key comes to -/
theorem smap_find [DecidableEq κ] (K : MK P kt mk) {es : List MapEntry} (he : es.map (fun e => (e.key, e.val)) = l.map (fun p => (mk p.1, p.2))) (hn : (akeys l).Nodup) (w : World) (a : κ) :
    ((Instr.findKey kt (mk a) es).run P w = .ok none w ∧ aget l a = none ∧ ∀ e ∈ es, e.key ≠ mk a) ∨ ∃ j e v, (Instr.findKey kt (mk a) es).run P w = .ok (some (j, v)) w ∧ es[j]? = some e ∧ e.key = mk a ∧ l[j]? = some (a, v) ∧ aget l a = some v := by
  have hk : ∀ e ∈ es, ∃ c, e.key = mk c := by
    intro e hm
    obtain ⟨j, hj⟩ := List.getElem?_of_mem hm
    obtain ⟨p, _, h1, _⟩ := map_pairs_get he hj
    exact ⟨p.1, h1⟩
  rcases K.find w a es hk with ⟨h1, h2⟩ | ⟨j, e, h1, h2, h3⟩
  · left; refine ⟨h1, aget_none.2 fun hm => ?_, h2⟩
    obtain ⟨p, hp, e1⟩ := List.mem_map.1 hm
    obtain ⟨e, hm', h3, _⟩ := map_pairs_mem he hp
    exact h2 e hm' (by rw [h3, e1])
  · right
    obtain ⟨p, hp, e1, e2⟩ := map_pairs_get he h2
    obtain ⟨pk, pv⟩ := p
    have ek : a = pk := K.inj (by rw [← h3, e1])
    subst ek
    exact ⟨j, e, e.val, h1, h2, h3, by rw [hp]; simp at e2; rw [e2], by simp at e2; rw [e2]; exact aget_of_mem hn (List.mem_of_getElem? hp)⟩

theorem smap.look [DecidableEq κ] (h : smap w mk b l) (K : MK P kt mk) {t et : TypeId} (ht : P.underlying t = some (.map kt et)) {z : Value} (hz : (zeroValue et).run P w = .ok z w) (a : κ) (ok : Bool) :
    (Instr.lookup t (.map (some b)) (mk a) ok).run P w = .ok (if ok then .tuple #[(aget l a).getD z, .bool (aget l a).isSome] else (aget l a).getD z) w := by
  obtain ⟨es, c, hb, hs, he, hn⟩ := h
  rcases smap_find K he hn w a with ⟨h1, h2, _⟩ | ⟨j, e, v, h1, _, _, _, h2⟩
  · simp [Instr.lookup, run_underlying ht, MapKept.run_getObj_map hb, K.check, h1, Result.andThen, hz, h2]
  · simp [Instr.lookup, run_underlying ht, MapKept.run_getObj_map hb, K.check, h1, Result.andThen, h2]

theorem nil_look (K : MK P kt mk) {t et : TypeId} (ht : P.underlying t = some (.map kt et)) {z : Value} (hz : (zeroValue et).run P w = .ok z w) (a : κ) (ok : Bool) :
    (Instr.lookup t (.map none) (mk a) ok).run P w = .ok (if ok then .tuple #[z, .bool false] else z) w := by
  rcases K.find w a [] (by simp) with ⟨h1, _⟩ | ⟨j, e, _, h, _⟩
  · simp [Instr.lookup, run_underlying ht, K.check, h1, Result.andThen, hz]
  · simp at h

theorem map_modify_pairs [DecidableEq κ] {es : Array MapEntry} (he : es.toList.map (fun e => (e.key, e.val)) = l.map (fun p => (mk p.1, p.2))) (hn : (akeys l).Nodup) {j : Nat} {e : MapEntry} {a : κ} {u : Value} (hj : es.toList[j]? = some e) (hl : l[j]? = some (a, u)) (v : Value) :
    (es.modify j fun e => { e with key := mk a, val := v }).toList.map (fun e => (e.key, e.val)) = (l.map (fun p => if p.1 = a then (a, v) else p)).map (fun p => (mk p.1, p.2)) := by
  apply List.ext_getElem?
  intro i
  have hi : (es.toList.map (fun e => (e.key, e.val)))[i]? = (l.map (fun p => (mk p.1, p.2)))[i]? := by rw [he]
  simp only [List.getElem?_map, Array.getElem?_toList, Array.getElem?_modify] at hi ⊢
  by_cases hij : j = i
  · subst hij
    rw [Array.getElem?_toList] at hj
    simp [hj, hl]
  · simp only [if_neg hij]
    rw [hi]
    cases g : l[i]? with
    | none => rfl
    | some p =>
      have hne : p.1 ≠ a := fun e => by
        have h1 : (akeys l)[i]? = some a := by simp [akeys, g, e]
        have h2 : (akeys l)[j]? = some a := by simp [akeys, hl]
        have l1 := (List.getElem?_eq_some_iff.1 h1).1
        exact hij ((List.getElem?_inj l1 hn).1 (h1.trans h2.symm)).symm
      simp [hne]

theorem smap.upd [DecidableEq κ] (h : smap w mk b l) (K : MK P kt mk) {t et : TypeId} (ht : P.underlying t = some (.map kt et)) (a : κ) (v : Value) :
    ∃ w', (Instr.mapUpdate t (.map (some b)) (mk a) v).run P w = .ok () w' ∧ smap w' mk b (aput l a v) ∧ w.grownBy w' (some b) ∧ w'.heap.size = w.heap.size := by
  obtain ⟨es, c, hb, hs, he, hn⟩ := h
  rcases smap_find K he hn w a with ⟨h1, h2, h2'⟩ | ⟨j, e, u, h1, hj, hek, hl, h2⟩
  · refine ⟨setBlock w b (.map (es.push { key := mk a, val := v, born := c }) (c + 1)), ?_, ⟨_, _, heap_setBlock_same hb _, stamped_push hs h2', ?_, nodup_aput hn a v⟩, ⟨rfl, rfl, rfl, by simp [setBlock], fun i _ hi => heap_setBlock_other hb _ (fun e => hi (by rw [e]))⟩, by simp [setBlock]⟩
    · simp [Instr.mapUpdate, run_underlying ht, MapKept.run_getObj_map hb, K.check, h1, MapKept.run_setObj_map _ hb, Result.andThen, setBlock]
    · simp [aput, h2, he]
  · have hkey : (((es[j]?).map (·.key)).getD (mk a)) = mk a := by rw [Array.getElem?_toList] at hj; rw [hj]; exact hek
    refine ⟨setBlock w b (.map (es.modify j fun e => { e with key := mk a, val := v }) c), ?_, ⟨_, _, heap_setBlock_same hb _, stamped_modify hs j _ (fun _ _ => rfl) (fun e' _ he' => ?_), ?_, nodup_aput hn a v⟩, ⟨rfl, rfl, rfl, by simp [setBlock], fun i _ hi => heap_setBlock_other hb _ (fun e => hi (by rw [e]))⟩, by simp [setBlock]⟩
    · simp [Instr.mapUpdate, run_underlying ht, MapKept.run_getObj_map hb, K.check, h1, hkey, K.stays, MapKept.run_setObj_map _ hb, Result.andThen, setBlock]
    · rw [Array.getElem?_toList] at hj; rw [hj] at he'; cases he'; exact hek.symm
    · rw [map_modify_pairs he hn hj hl v]; simp [aput, h2]

theorem filter_of_get [DecidableEq κ] {j : Nat} {a : κ} {u : Value} (hn : (akeys l).Nodup) (hl : l[j]? = some (a, u)) : adel l a = l.eraseIdx j := by
  induction l generalizing j with
  | nil => simp at hl
  | cons p l ih =>
    simp only [akeys, List.map_cons, List.nodup_cons] at hn
    cases j with
    | zero =>
      simp at hl; subst hl
      simp only [adel, List.filter_cons, List.eraseIdx_cons_zero]
      simp only [ne_eq, not_true_eq_false, decide_false, Bool.false_eq_true, if_false]
      rw [List.filter_eq_self]
      intro q hq; simp; intro e; exact hn.1 (by rw [← e]; exact List.mem_map.2 ⟨q, hq, rfl⟩)
    | succ j =>
      simp at hl
      have hpa : p.1 ≠ a := fun e => hn.1 (by rw [e]; exact List.mem_map.2 ⟨_, List.mem_of_getElem? hl, rfl⟩)
      simp only [adel, List.filter_cons, List.eraseIdx_cons_succ]
      simp only [ne_eq, hpa, not_false_eq_true, decide_true, if_true]
      rw [← ih hn.2 hl]; rfl

theorem smap.del [DecidableEq κ] (h : smap w mk b l) (K : MK P kt mk) {t et : TypeId} (ht : P.underlying t = some (.map kt et)) (a : κ) (argTypes : Array TypeId) (ty : TypeId) (hat : argTypes[0]? = some t) :
    ∃ w', (Builtin.delete_ argTypes ty #[.map (some b), mk a]).run P w = .ok (.tuple #[]) w' ∧ smap w' mk b (adel l a) ∧ w.grownBy w' (some b) ∧ w'.heap.size = w.heap.size := by
  obtain ⟨es, c, hb, hs, he, hn⟩ := h
  rcases smap_find K he hn w a with ⟨h1, h2, h2'⟩ | ⟨j, e, u, h1, hj, hek, hl, h2⟩
  · refine ⟨setBlock w b (.map es c), ?_, ⟨_, _, heap_setBlock_same hb _, hs, ?_, nodup_adel hn a⟩, ⟨rfl, rfl, rfl, by simp [setBlock], fun i _ hi => heap_setBlock_other hb _ (fun e => hi (by rw [e]))⟩, by simp [setBlock]⟩
    · simp [Builtin.delete_, hat, run_underlying ht, MapKept.run_getObj_map hb, K.check, h1, MapKept.run_setObj_map _ hb, Result.andThen, setBlock]
    · rw [adel_of_none h2]; exact he
  · refine ⟨setBlock w b (.map (es.eraseIdxIfInBounds j) c), ?_, ⟨_, _, heap_setBlock_same hb _, stamped_erase hs j, ?_, nodup_adel hn a⟩, ⟨rfl, rfl, rfl, by simp [setBlock], fun i _ hi => heap_setBlock_other hb _ (fun e => hi (by rw [e]))⟩, by simp [setBlock]⟩
    · simp [Builtin.delete_, hat, run_underlying ht, MapKept.run_getObj_map hb, K.check, h1, MapKept.run_setObj_map _ hb, Result.andThen, setBlock]
    · rw [filter_of_get hn hl]
      have hlt : j < es.size := by have := (List.getElem?_eq_some_iff.1 hj).1; simpa using this
      unfold Array.eraseIdxIfInBounds
      rw [dif_pos hlt, Array.toList_eraseIdx]
      have em : ∀ {α β : Type} (f : α → β) (l : List α) (i : Nat), (l.eraseIdx i).map f = (l.map f).eraseIdx i := fun f l => by
        induction l with
        | nil => intro i; rfl
        | cons x l ih => intro i; cases i with
          | zero => rfl
          | succ i => simp [ih]
      rw [em, he, em]
end

/-! ### at the operation, for the walk -/
section
variable {κ : Type} [DecidableEq κ] {P : Program} {w : World} {ops : Array Oper} {rest : List Oper} {o : Oper} {a : Act} {Q : Exit → Act → World → Prop} {mk : κ → Value} {kt : TypeId}

theorem wp_look (hg : o.guard = none) (m x : Operand) (t : TypeId) (ok : Bool) (hop : o.op = Op.lookup t m x ok) (K : MK P kt mk) (et : TypeId) (ht : P.underlying t = some (.map kt et)) (z : Value) (hz : (zeroValue et).run P w = .ok z w) (b : Nat) (l : List (κ × Value))
    (hm : a.eval m = .map (some b)) (h : smap w mk b l) (k : κ) (hx : a.eval x = mk k)
    (hK : wpList P ops Q rest (a.put o.dst (if ok then .tuple #[(aget l k).getD z, .bool (aget l k).isSome] else (aget l k).getD z)) w) : wpList P ops Q (o :: rest) a w := by
  refine wpList_plain hg fun K' hK' => ?_
  have hrun := h.look K ht hz k ok
  unfold Oper.wp
  simp [execOp, hop, hm, hx, hrun, Result.andThen]
  exact hK' _ _ hK

theorem wp_upd (hg : o.guard = none) (m x v : Operand) (t : TypeId) (hop : o.op = Op.mapUpdate t m x v) (K : MK P kt mk) (et : TypeId) (ht : P.underlying t = some (.map kt et)) (b : Nat) (l : List (κ × Value))
    (hm : a.eval m = .map (some b)) (h : smap w mk b l) (k : κ) (hx : a.eval x = mk k) (val : Value) (hv : a.eval v = val)
    (hK : ∀ w', smap w' mk b (aput l k val) → w.grownBy w' (some b) → w'.heap.size = w.heap.size → wpList P ops Q rest (a.put o.dst undef) w') : wpList P ops Q (o :: rest) a w := by
  refine wpList_plain hg fun K' hK' => ?_
  obtain ⟨w', hrun, r1, r2, r3⟩ := h.upd K ht k val
  unfold Oper.wp
  simp [execOp, hop, hm, hx, hv, hrun, Result.andThen]
  exact hK' _ _ (hK w' r1 r2 r3)
end
end Go.Proofs.YtgacfkenndhcnaaDoor
namespace Go.Proofs.YtgacfkenndhcnaaDoor
open Go.RowKit
set_option linter.unusedVariables false
set_option linter.unusedSimpArgs false

/-- Outside F all that was there is as it was. -/
structure Keep (F : Nat → Prop) (w w' : World) : Prop where
  os : w'.os = w.os
  tape : w'.tape = w.tape
  output : w'.output = w.output
  size : w.heap.size ≤ w'.heap.size
  block : ∀ k, k < w.heap.size → ¬ F k → w'.heap[k]? = w.heap[k]?

section
variable {F G : Nat → Prop} {w w1 w2 w' : World}
theorem Keep.refl (F : Nat → Prop) (w : World) : Keep F w w := ⟨rfl, rfl, rfl, Nat.le_refl _, fun _ _ _ => rfl⟩
theorem Keep.mono (h : Keep F w w') (hF : ∀ k, F k → G k) : Keep G w w' := ⟨h.os, h.tape, h.output, h.size, fun k hk hn => h.block k hk (fun e => hn (hF k e))⟩
/-- two steps: what the second may write is what the first may, or new -/
theorem Keep.trans (h : Keep F w w1) (k : Keep G w1 w2) (hG : ∀ i, G i → F i ∨ w.heap.size ≤ i) : Keep F w w2 :=
  ⟨k.os.trans h.os, k.tape.trans h.tape, k.output.trans h.output, Nat.le_trans h.size k.size, fun i hi hn =>
    (k.block i (Nat.lt_of_lt_of_le hi h.size) (fun g => (hG i g).elim hn (by omega))).trans (h.block i hi hn)⟩
theorem Keep.same (h : Keep F w w1) (k : Keep F w1 w2) : Keep F w w2 := h.trans k fun _ g => Or.inl g
theorem Keep.of_below (h : Below w.heap.size w w') : Keep F w w' := ⟨h.os, h.tape, h.output, h.size, fun k hk _ => h.block k hk⟩
theorem Keep.below (h : Keep (fun _ => False) w w') : Below w.heap.size w w' := ⟨h.os, h.tape, h.output, h.size, fun k hk => h.block k hk (fun e => e)⟩
theorem Keep.of_grown {row : Option Nat} (h : w.grownBy w' row) (hr : ∀ k, row = some k → F k) : Keep F w w' := ⟨h.os, h.tape, h.output, h.size, fun k hk hn => h.block k hk (fun e => hn (hr k e.symm))⟩
theorem Keep.new (h : Keep (fun k => w.heap.size ≤ k) w w') : Below w.heap.size w w' := ⟨h.os, h.tape, h.output, h.size, fun k hk => h.block k hk (by omega)⟩
theorem Keep.alloc (F : Nat → Prop) (w : World) (o : Obj) : Keep F w (w.alloc o) := Keep.of_below ((Below.refl _ _).alloc (Nat.le_refl _) o)
theorem Keep.drewN (F : Nat → Prop) (w : World) (n : Nat) : Keep F w (w.drewN n) := ⟨rfl, rfl, rfl, Nat.le_refl _, fun _ _ _ => rfl⟩
theorem Keep.drew (F : Nat → Prop) (w : World) : Keep F w w.drew := ⟨rfl, rfl, rfl, Nat.le_refl _, fun _ _ _ => rfl⟩
theorem Keep.setCell (F : Nat → Prop) (w : World) {p : Addr} (hp : F p.block) (u : Value) : Keep F w (w.setCell p u) :=
  ⟨rfl, rfl, rfl, by simp [World.setCell], fun k hk hn => Below.heap_setCell _ _ _ _ (fun e => hn (by rw [e]; exact hp))⟩
theorem Keep.at (h : Keep F w w') {k : Nat} {o : Obj} (hk : w.heap[k]? = some o) (hn : ¬ F k) : w'.heap[k]? = some o :=
  (h.block k (Array.getElem?_eq_some_iff.1 hk).1 hn).trans hk
theorem Keep.cell (h : Keep F w w') {p : Addr} {v : Value} (hc : w.cell? p = some v) (hn : ¬ F p.block) : w'.cell? p = some v :=
  (World.cell?_of_block (h.block p.block (World.block_lt_of_cell? w p hc) hn)).trans hc
theorem Keep.smap (h : Keep F w w') {κ : Type} {mk : κ → Value} {b : Nat} {l : List (κ × Value)} (hm : smap w mk b l) (hn : ¬ F b) : smap w' mk b l := hm.keep (h.block b hm.lt hn)
theorem Keep.own (h : Keep F w w') {base : Nat} {e : TypeId} {size n : Nat} {v : Value} {xs : List Value} (ho : w.ownsRow base e size v n xs) (hn : ∀ k, v.ownBlock = some k → ¬ F k) : w'.ownsRow base e size v n xs := by
  refine ⟨ho.1, ?_⟩
  rcases ho.2 with h2 | ⟨g, cap, cur, hv, hg, hh, r⟩
  · exact Or.inl h2
  · exact Or.inr ⟨g, cap, cur, hv, hg, h.at hh (hn g (by rw [hv]; rfl)), r⟩
end

/-- Some draws, and nothing else. -/
def Drawn (w w' : World) : Prop := ∃ n, w' = w.drewN n
theorem Drawn.refl (w : World) : Drawn w w := ⟨0, rfl⟩
theorem Drawn.drewN {w w' : World} (h : Drawn w w') (n : Nat) : Drawn w (w'.drewN n) := by
  obtain ⟨m, rfl⟩ := h; exact ⟨m + n, by simp [World.drewN, Nat.add_assoc]⟩
theorem Drawn.drew {w w' : World} (h : Drawn w w') : Drawn w w'.drew := h.drewN 1
theorem Drawn.trans {w w1 w2 : World} (h : Drawn w w1) (k : Drawn w1 w2) : Drawn w w2 := by obtain ⟨n, rfl⟩ := k; exact h.drewN n
theorem Drawn.keep {w w' : World} (h : Drawn w w') (F : Nat → Prop) : Keep F w w' := by obtain ⟨n, rfl⟩ := h; exact Keep.drewN F w n
theorem Drawn.below {w w' : World} (h : Drawn w w') : Below w.heap.size w w' := (h.keep _).below
theorem Drawn.size {w w' : World} (h : Drawn w w') : w'.heap.size = w.heap.size := by obtain ⟨n, rfl⟩ := h; rfl
theorem add_at (g o j : Nat) : (⟨g, o, none⟩ : Addr).add j = ⟨g, o + j, none⟩ := by unfold Addr.add; split <;> simp_all
theorem get_alloc (w : World) (o : Obj) (k : Nat) : (w.alloc o).heap[k]? = if k = w.heap.size then some o else w.heap[k]? := by
  show (w.heap.push o)[k]? = _
  rw [Array.getElem?_push]
theorem size_alloc (w : World) (o : Obj) : (w.alloc o).heap.size = w.heap.size + 1 := by show (w.heap.push o).size = _; simp
theorem smap.alloc {w : World} {κ : Type} {mk : κ → Value} {b : Nat} {l : List (κ × Value)} (h : smap w mk b l) (o : Obj) : smap (w.alloc o) mk b l := (Keep.alloc (fun _ => False) w o).smap h fun e => e

/-- append, in a region that draws its order, by an equation on its run -/
theorem step_append_run {P : Program} {ops : Array Oper} {o : Oper} {a : Act} {w w' : World} {K : Act → World → Prop} {Q : Exit → Act → World → Prop} {E : Prop} {v v' u : Value}
    (hg : o.guard = none) (s x : Operand) (t : TypeId) (hop : o.op = Op.call { callee := Callee.builtin Builtin.append, args := #[s, x], argTypes := #[t, t] })
    (hs : a.eval s = v) (hx : a.eval x = u) (hrun : (Builtin.append_ #[t, t] o.type #[v, u]).run P w = .ok v' w') (hK : K (a.put o.dst v') w') :
    if Region.wanted o (yielded ops a.tmps) = true then Oper.wp P o a w K Q else E := by
  have hw : Region.wanted o (yielded ops a.tmps) = true := by simp [Region.wanted, hg]
  rw [if_pos hw]
  unfold Oper.wp
  simp [execOp, hop, resolve, invoke, builtin, hs, hx, hrun, Result.andThen]
  exact hK
theorem wp_append_run {P : Program} {ops : Array Oper} {rest : List Oper} {o : Oper} {a : Act} {w w' : World} {Q : Exit → Act → World → Prop} {v v' u : Value}
    (hg : o.guard = none) (s x : Operand) (t : TypeId) (hop : o.op = Op.call { callee := Callee.builtin Builtin.append, args := #[s, x], argTypes := #[t, t] })
    (hs : a.eval s = v) (hx : a.eval x = u) (hrun : (Builtin.append_ #[t, t] o.type #[v, u]).run P w = .ok v' w') (hK : wpList P ops Q rest (a.put o.dst v') w') : wpList P ops Q (o :: rest) a w := by
  refine wpList_plain hg fun K' hK' => ?_
  unfold Oper.wp
  simp [execOp, hop, resolve, invoke, builtin, hs, hx, hrun, Result.andThen]
  exact hK' _ _ hK
theorem frozen_of_row {w : World} {b : Nat} {cs : Array Value} {t : TypeId} (h : w.heap[b]? = some (.cells cs t (0, 0))) (i : Nat) : w.frozen? ⟨b, i, none⟩ = false := by simp [World.frozen?, h]
theorem set_at {w : World} {b : Nat} {cs : Array Value} {t : TypeId} (h : w.heap[b]? = some (.cells cs t (0, 0))) (i : Nat) (u : Value) : (w.setCell ⟨b, i, none⟩ u).heap[b]? = some (.cells (cs.setIfInBounds i u) t (0, 0)) := by
  have hl : b < w.heap.size := (Array.getElem?_eq_some_iff.1 h).1
  simp only [World.setCell, Array.getElem?_modify, if_true]
  rw [h]; rfl

theorem own_slice {w : World} {base : Nat} {e : TypeId} {size n : Nat} {v : Value} {xs : List Value} (h : w.ownsRow base e size v n xs) : ∃ A c, v = .slice A n c ∧ n ≤ c ∧ c ≤ maxLen := by
  rcases h.2 with ⟨rfl, h0⟩ | ⟨g, cap, cur, rfl, _, _, h1, h2, _⟩
  · exact ⟨none, 0, by rw [h0], by omega, by decide⟩
  · exact ⟨_, _, rfl, h1, h2⟩
theorem own_block {w : World} {base : Nat} {e : TypeId} {size n : Nat} {v : Value} {xs : List Value} (h : w.ownsRow base e size v n xs) (hn : 0 < n) : ∃ g c, v = .slice (some ⟨g, 0, none⟩) n c ∧ n ≤ c ∧ ∀ j u, xs[j]? = some u → w.cell? ⟨g, j, none⟩ = some u ∧ w.frozen? ⟨g, j, none⟩ = false := by
  rcases h.2 with ⟨rfl, h0⟩ | ⟨g, cap, cur, rfl, _, hg, h1, h2, h3, h4⟩
  · omega
  · refine ⟨g, cap, rfl, h1, fun j u hu => ⟨?_, frozen_of_row hg j⟩⟩
    rw [cell_of_row w g _ _ _ _ hg, ← Array.getElem?_toList]
    rw [← h4, List.getElem?_take] at hu
    split at hu
    · exact hu
    · cases hu

/-! ### rows of strings -/
def strV (l : List ByteArray) : List Value := l.map Value.string
theorem strV_length (l : List ByteArray) : (strV l).length = l.length := by simp [strV]
theorem strV_append (l m : List ByteArray) : strV (l ++ m) = strV l ++ strV m := by simp [strV]
theorem strV_one (l : List ByteArray) : ∀ u ∈ strV l, u.oneCell' = true := by intro u hu; obtain ⟨s, _, rfl⟩ := List.mem_map.1 hu; rfl
theorem strV_get (l : List ByteArray) (i : Nat) : (strV l)[i]? = (l[i]?).map Value.string := by simp [strV]

/-- The slice v reads as the strings l. -/
def strs (w : World) (v : Value) (l : List ByteArray) : Prop :=
  ∃ A c, v = .slice A l.length c ∧ l.length ≤ c ∧ l.length ≤ 9223372036854775807 ∧ (0 < l.length → ∃ b off, A = some ⟨b, off, none⟩ ∧ ∀ i s, l[i]? = some s → w.cell? ⟨b, off + i, none⟩ = some (.string s))

theorem strs.keep {F : Nat → Prop} {w w' : World} {v : Value} {l : List ByteArray} (h : strs w v l) (k : Keep F w w') (hn : ∀ b, v.ownBlock = some b → ¬ F b) : strs w' v l := by
  obtain ⟨A, c, rfl, h1, h2, h3⟩ := h
  refine ⟨A, c, rfl, h1, h2, fun h0 => ?_⟩
  obtain ⟨b, off, rfl, hc⟩ := h3 h0
  exact ⟨b, off, rfl, fun i s hs => k.cell (hc i s hs) (hn b rfl)⟩
theorem strs.below {w w' : World} {v : Value} {l : List ByteArray} (h : strs w v l) (k : Below w.heap.size w w') : strs w' v l := h.keep (F := fun _ => False) (Keep.of_below k) fun _ _ e => e
theorem strs_nil (w : World) : strs w (.slice none 0 0) [] := ⟨none, 0, rfl, Nat.le_refl _, by simp, fun h => absurd h (Nat.lt_irrefl 0)⟩
theorem strs_own {w : World} {base : Nat} {e : TypeId} {v : Value} {n : Nat} {l : List ByteArray} (h : w.ownsRow base e 1 v n (strV l)) : strs w v l := by
  have hn : n = l.length := by have := h.1; rw [strV_length] at this; omega
  subst hn
  rcases h.2 with ⟨rfl, h0⟩ | ⟨g, cap, cur, rfl, hb, hg, hnc, hcm, hcs, htake⟩
  · have : l = [] := List.eq_nil_of_length_eq_zero h0
    subst this; exact strs_nil w
  · refine ⟨_, cap, rfl, hnc, by unfold maxLen at hcm; omega, fun h0 => ⟨g, 0, rfl, fun i s hs => ?_⟩⟩
    rw [Nat.zero_add, cell_of_row w g i cur e (0, 0) hg]
    have h1 : (strV l)[i]? = some (.string s) := by rw [strV_get, hs]; rfl
    rw [← htake, List.getElem?_take] at h1
    split at h1
    · simpa using h1
    · cases h1
theorem strs_lit (w : World) (t : TypeId) (l : List ByteArray) (h : l.length ≤ 9223372036854775807) : strs (w.alloc (.cells (strV l).toArray t)) (.slice (some ⟨w.heap.size, 0, none⟩) l.length l.length) l :=
  ⟨_, l.length, rfl, Nat.le_refl _, h, fun _ => ⟨w.heap.size, 0, rfl, fun i s hs => by
    have hh : (w.alloc (.cells (strV l).toArray t)).heap[w.heap.size]? = some (.cells (strV l).toArray t (0, 0)) := by rw [get_alloc]; simp
    rw [cell_of_row _ _ _ _ _ _ hh, Nat.zero_add]; simp [strV, hs]⟩⟩

/-! ### rows of anything: each element is so many cells -/
def rowsOf {α : Type} (size : Nat) (f : α → List Value) (w : World) (v : Value) (l : List α) : Prop :=
  ∃ A c, v = .slice A l.length c ∧ l.length ≤ c ∧ l.length ≤ 9223372036854775807 ∧ (0 < l.length → ∃ b off, A = some ⟨b, off, none⟩ ∧ ∀ i a, l[i]? = some a → ∀ j u, (f a)[j]? = some u → w.cell? ⟨b, off + i * size + j, none⟩ = some u)
theorem rowsOf.keep {α : Type} {size : Nat} {f : α → List Value} {F : Nat → Prop} {w w' : World} {v : Value} {l : List α} (h : rowsOf size f w v l) (k : Keep F w w') (hn : ∀ b, v.ownBlock = some b → ¬ F b) : rowsOf size f w' v l := by
  obtain ⟨A, c, rfl, h1, h2, h3⟩ := h
  refine ⟨A, c, rfl, h1, h2, fun h0 => ?_⟩
  obtain ⟨b, off, rfl, hc⟩ := h3 h0
  exact ⟨b, off, rfl, fun i a ha j u hu => k.cell (hc i a ha j u hu) (hn b rfl)⟩
theorem rowsOf.below {α : Type} {size : Nat} {f : α → List Value} {w w' : World} {v : Value} {l : List α} (h : rowsOf size f w v l) (k : Below w.heap.size w w') : rowsOf size f w' v l := h.keep (F := fun _ => False) (Keep.of_below k) fun _ _ e => e
end Go.Proofs.YtgacfkenndhcnaaDoor
namespace Go.Proofs.YtgacfkenndhcnaaDoor
open Go.RowKit
set_option linter.unusedVariables false
set_option linter.unusedSimpArgs false

/-- Go's order of strings. -/
def bLt (x y : ByteArray) : Bool := decide (x.toList < y.toList)
def bLe (x y : ByteArray) : Bool := !bLt y x
def bcmp (x y : ByteArray) : Int := if bLt x y then -1 else if bLt y x then 1 else 0
def sortB (l : List ByteArray) : List ByteArray := l.mergeSort bLe

theorem blist_inj {a b : ByteArray} (h : a.toList = b.toList) : a = b := by
  rw [ByteArray.toList_eq, ByteArray.toList_eq] at h
  cases a; cases b; simp at h; rw [h]
theorem bLt_irrefl (x : ByteArray) : bLt x x = false := by simp [bLt, List.lt_irrefl]
theorem bLt_trans {x y z : ByteArray} (h1 : bLt x y = true) (h2 : bLt y z = true) : bLt x z = true := by
  simp only [bLt, decide_eq_true_eq] at *; exact List.lt_trans h1 h2
theorem bLt_ntrans {x y z : ByteArray} (h1 : bLt x y = false) (h2 : bLt y z = false) : bLt x z = false := by
  simp only [bLt, decide_eq_false_iff_not, List.not_lt] at *; exact List.le_trans h2 h1
theorem bLt_antisymm {x y : ByteArray} (h1 : bLt x y = false) (h2 : bLt y x = false) : x = y := by
  simp only [bLt, decide_eq_false_iff_not, List.not_lt] at *; exact blist_inj (List.le_antisymm h2 h1)
theorem bLt_asymm {x y : ByteArray} (h : bLt x y = true) : bLt y x = false := by
  cases e : bLt y x with
  | false => rfl
  | true => have := bLt_trans h e; rw [bLt_irrefl] at this; cases this
theorem bLe_total (x y : ByteArray) : (bLe x y || bLe y x) = true := by
  unfold bLe; cases h : bLt x y
  · simp
  · simp [bLt_asymm h]
theorem bLe_trans (x y z : ByteArray) (h1 : bLe x y = true) (h2 : bLe y z = true) : bLe x z = true := by
  unfold bLe at *; simp at *; exact bLt_ntrans h2 h1
theorem sortB_perm (l : List ByteArray) : (sortB l).Perm l := List.mergeSort_perm l _
theorem sortB_sorted (l : List ByteArray) : (sortB l).Pairwise (fun a b => bLe a b = true) := List.pairwise_mergeSort bLe_trans bLe_total l
theorem sortB_length (l : List ByteArray) : (sortB l).length = l.length := (sortB_perm l).length_eq
/-- two orders of one set of keys are sorted to one -/
theorem sortB_congr {l m : List ByteArray} (h : l.Perm m) : sortB l = sortB m := by
  refine List.Perm.eq_of_pairwise (le := fun a b => bLe a b = true) (fun a b _ _ h1 h2 => ?_) (sortB_sorted l) (sortB_sorted m) ((sortB_perm l).trans (h.trans (sortB_perm m).symm))
  unfold bLe at h1 h2; simp at h1 h2; exact bLt_antisymm h2 h1
theorem sortB_self {l : List ByteArray} (h : l.Pairwise (fun a b => bLe a b = true)) : sortB l = l := List.mergeSort_of_pairwise h
theorem sortB_nil : sortB [] = [] := by simp [sortB]
end Go.Proofs.YtgacfkenndhcnaaDoor
namespace Go.Proofs.YtgacfkenndhcnaaDoor
open Go.Lib
set_option linter.unusedVariables false
set_option linter.unusedSimpArgs false

def isLetter (r : Nat) : Bool := (97 ≤ r && r ≤ 122) || (48 ≤ r && r ≤ 57) || r == 45 || (223 ≤ r && r ≤ 246) || (248 ≤ r && r ≤ 255) || (945 ≤ r && r ≤ 969) || (1072 ≤ r && r ≤ 1103)
def lettersGo : Nat → List UInt8 → Option Nat
  | 0, l => if l = [] then some 0 else none
  | n + 1, l => if l = [] then some 0 else if isLetter (decodeL l).1 = true then (lettersGo n (l.drop (decodeL l).2)).map (· + 1) else none
theorem lettersGo_fuel : ∀ (n m : Nat) (l : List UInt8), l.length ≤ n → l.length ≤ m → lettersGo n l = lettersGo m l
  | 0, 0, _, _, _ => rfl
  | 0, m + 1, l, h, _ => by
    have : l = [] := List.eq_nil_of_length_eq_zero (by omega)
    subst this; simp [lettersGo]
  | n + 1, 0, l, _, h => by
    have : l = [] := List.eq_nil_of_length_eq_zero (by omega)
    subst this; simp [lettersGo]
  | n + 1, m + 1, l, h1, h2 => by
    unfold lettersGo
    by_cases hl : l = []
    · simp [hl]
    · have hw := decodeL_width l
      have hlen : (l.drop (decodeL l).2).length = l.length - (decodeL l).2 := List.length_drop
      have h0 : 0 < l.length := List.length_pos_iff.2 hl
      rw [lettersGo_fuel n m (l.drop (decodeL l).2) (by omega) (by omega)]
/-- how many letters a text has, if it has letters alone -/
def letters (l : List UInt8) : Option Nat := lettersGo l.length l
theorem letters_step (l : List UInt8) (hl : l ≠ []) : letters l = if isLetter (decodeL l).1 = true then (letters (l.drop (decodeL l).2)).map (· + 1) else none := by
  have h0 : 0 < l.length := List.length_pos_iff.2 hl
  have hw := decodeL_width l
  obtain ⟨n, hn⟩ : ∃ n, l.length = n + 1 := ⟨l.length - 1, by omega⟩
  unfold letters
  rw [hn]
  have hlen : (l.drop (decodeL l).2).length = l.length - (decodeL l).2 := List.length_drop
  rw [lettersGo_fuel (l.drop (decodeL l).2).length n _ (Nat.le_refl _) (by omega)]
  simp only [lettersGo, if_neg hl]
theorem letters_nil : letters [] = some 0 := by simp [letters, lettersGo]
def nameR (s : ByteArray) : Bool := match letters s.data.toList with
  | some n => decide (1 ≤ n) && decide (n ≤ 32)
  | none => false

theorem letter_valid {r : Nat} (h : isLetter r = true) : r ≠ 65533 := by
  intro e; subst e; simp [isLetter] at h
theorem letters_valid : ∀ (n : Nat) (l : List UInt8), l.length ≤ n → ∀ c, letters l = some c → validD l = true
  | 0, l, h, c, _ => by
    have : l = [] := List.eq_nil_of_length_eq_zero (by omega)
    subst this; rfl
  | n + 1, l, h, c, hc => by
    by_cases hl : l = []
    · subst hl; rfl
    · have h0 : 0 < l.length := List.length_pos_iff.2 hl
      have hw := decodeL_width l
      rw [letters_step l hl] at hc
      split at hc
      · rename_i hL
        rw [validD_step l hl, if_neg (fun e => letter_valid hL e.1)]
        cases hr : letters (l.drop (decodeL l).2) with
        | none => rw [hr] at hc; cases hc
        | some d => exact letters_valid n _ (by rw [List.length_drop]; omega) d hr
      · cases hc
theorem nameR_invalid {s : ByteArray} (h : validD s.data.toList = false) : nameR s = false := by
  unfold nameR
  cases hl : letters s.data.toList with
  | none => rfl
  | some n => have := letters_valid _ _ (Nat.le_refl _) n hl; rw [h] at this; cases this

/-- a letter's bytes are no stroke -/
theorem letter_bytes_all : ((List.range 1104).all fun r => !isLetter r || !(encodeRune (r : Int)).contains 47) = true := by decide +kernel
theorem letter_bytes {r : Nat} (h : isLetter r = true) : (47 : UInt8) ∉ encodeRune (r : Int) := by
  have hr : r < 1104 := by simp [isLetter] at h; omega
  have := List.all_eq_true.1 letter_bytes_all r (List.mem_range.2 hr)
  rw [h] at this
  simpa using this
theorem take_succ_get' {α : Type} {l : List α} {i : Nat} {x : α} (h : l[i]? = some x) : l.take (i + 1) = l.take i ++ [x] := by
  rw [List.take_add_one, h]; rfl
theorem letters_free : ∀ (n : Nat) (l : List UInt8), l.length ≤ n → ∀ c, letters l = some c → (47 : UInt8) ∉ l
  | 0, l, h, c, _ => by
    have : l = [] := List.eq_nil_of_length_eq_zero (by omega)
    subst this; simp
  | n + 1, l, h, c, hc => by
    by_cases hl : l = []
    · subst hl; simp
    · have h0 : 0 < l.length := List.length_pos_iff.2 hl
      have hw := decodeL_width l
      rw [letters_step l hl] at hc
      split at hc
      · rename_i hL
        cases hr : letters (l.drop (decodeL l).2) with
        | none => rw [hr] at hc; cases hc
        | some d =>
          have ih := letters_free n _ (by rw [List.length_drop]; omega) d hr
          have he := encode_decode l hl (fun e => letter_valid hL e.1)
          rw [← List.take_append_drop (decodeL l).2 l, List.mem_append]
          intro hm
          rcases hm with hm | hm
          · rw [← he] at hm; exact letter_bytes hL hm
          · exact ih hm
      · cases hc
theorem nameR_free {s : ByteArray} (h : nameR s = true) : (47 : UInt8) ∉ s.data.toList := by
  unfold nameR at h
  cases hl : letters s.data.toList with
  | none => rw [hl] at h; cases h
  | some n => exact letters_free _ _ (Nat.le_refl _) n hl
end Go.Proofs.YtgacfkenndhcnaaDoor
namespace Go.Proofs.YtgacfkenndhcnaaDoor
open Go.RowKit
open Go.ChangeMaps Go.MapKept
set_option linter.unusedVariables false
set_option linter.unusedSimpArgs false

section
variable {κ : Type}
/-- The loop over block b by the iterator in block r: 'left' are the keys still to come, so many. -/
def srange (w : World) (mk : κ → Value) (b r : Nat) (l : List (κ × Value)) (left : κ → Bool) (cnt : Nat) : Prop :=
  ∃ es clock since seen c0, w.heap[b]? = some (.map es clock) ∧ Stamped es clock ∧ es.toList.map (fun e => (e.key, e.val)) = l.map (fun p => (mk p.1, p.2)) ∧ (akeys l).Nodup ∧
    w.heap[r]? = some (.mapIter (some b) since seen c0) ∧ (∀ x ∈ es.toList, x.born < since) ∧ (leftOf es seen).size = cnt ∧
    (∀ x ∈ es.toList, ∀ a, x.key = mk a → left a = !seen.contains x.born) ∧ (∀ a, left a = true → a ∈ akeys l) ∧ since ≤ c0 ∧ since ≤ clock

variable {P : Program} {kt : TypeId} {mk : κ → Value} {w w' : World} {b r : Nat} {l : List (κ × Value)} {left : κ → Bool} {cnt : Nat}
theorem srange.map (h : srange w mk b r l left cnt) : smap w mk b l := by
  obtain ⟨es, clock, since, seen, c0, hb, hs, hp, hn, _⟩ := h
  exact ⟨es, clock, hb, hs, hp, hn⟩
theorem srange.lt (h : srange w mk b r l left cnt) : r < w.heap.size := by
  obtain ⟨es, clock, since, seen, c0, _, _, _, _, hr, _⟩ := h
  exact (Array.getElem?_eq_some_iff.1 hr).1
theorem srange.ne (h : srange w mk b r l left cnt) : r ≠ b := by
  obtain ⟨es, clock, since, seen, c0, hb, _, _, _, hr, _⟩ := h
  intro e; rw [e, hb] at hr; cases hr
theorem srange.keep {F : Nat → Prop} (h : srange w mk b r l left cnt) (k : Keep F w w') (hb' : ¬ F b) (hr' : ¬ F r) : srange w' mk b r l left cnt := by
  obtain ⟨es, clock, since, seen, c0, hb, hs, hp, hn, hr, rest⟩ := h
  exact ⟨es, clock, since, seen, c0, k.at hb hb', hs, hp, hn, k.at hr hr', rest⟩

variable [DecidableEq κ]
theorem smap.range (h : smap w mk b l) {t e : TypeId} (ht : P.underlying t = some (.map kt e)) (inj : ∀ {a c : κ}, mk a = mk c → a = c) :
    ∃ w', (Instr.range t (.map (some b))).run P w = .ok (.pointer (some ⟨w.heap.size, 0, none⟩)) w' ∧ srange w' mk b w.heap.size l (fun a => (aget l a).isSome) l.length ∧ w.grownBy w' none ∧ w'.heap.size = w.heap.size + 1 := by
  have hlt := h.lt
  obtain ⟨es, clock, hb, hs, hp, hn⟩ := h
  have hst := (stamped_iff es clock).1 hs
  refine ⟨_, run_range_map w t kt e b es clock ht hb, ⟨es, clock, clock, #[], clock, ((MapKept.heap_alloc w _).2 b hlt).trans hb, hs, hp, hn, (MapKept.heap_alloc w _).1, hst.1, ?_, fun x hx a ha => ?_, fun a ha => aget_isSome.1 ha, Nat.le_refl _, Nat.le_refl _⟩, World.grownBy_alloc w _ none, by simp⟩
  · have : es.toList.length = l.length := by have := congrArg List.length hp; simpa using this
    have h2 : (Array.filter (fun e : MapEntry => true) es) = es := by simp
    simp [leftOf]; rw [h2]; simpa using this
  · have hm : (x.key, x.val) ∈ es.toList.map (fun e => (e.key, e.val)) := List.mem_map.2 ⟨x, hx, rfl⟩
    rw [hp] at hm
    obtain ⟨p, hp1, hp2⟩ := List.mem_map.1 hm
    simp only [Prod.mk.injEq] at hp2
    have : a = p.1 := inj (by rw [← ha, hp2.1])
    subst this
    have hk : (aget l p.1).isSome = true := aget_isSome.2 (List.mem_map.2 ⟨p, hp1, rfl⟩)
    simp [hk]

theorem srange.next (h : srange w mk b r l left cnt) (inj : ∀ {a c : κ}, mk a = mk c → a = c) (ty : TypeId) :
    (cnt = 0 ∧ (∀ a, left a = false) ∧ (Instr.next (.pointer (some ⟨r, 0, none⟩)) false ty).run P w = .ok (.tuple #[.bool false]) w) ∨
    ∃ a v w' cnt', aget l a = some v ∧ left a = true ∧ (Instr.next (.pointer (some ⟨r, 0, none⟩)) false ty).run P w = .ok (.tuple #[.bool true, mk a, v]) w' ∧
      srange w' mk b r l (fun x => left x && !decide (x = a)) cnt' ∧ cnt' < cnt ∧ w.grownBy w' (some r) ∧ w'.heap.size = w.heap.size ∧ (Instr.entry (.pointer (some ⟨r, 0, none⟩))).run P w' = .ok (.tuple #[mk a, v]) w' := by
  have hne := h.ne
  obtain ⟨es, clock, since, seen, c0, hb, hs, hp, hn, hr, hold, rfl, hl1, hl2, hsc, hsk⟩ := h
  have hst := (stamped_iff es clock).1 hs
  have hof : ∀ x ∈ es.toList, ∃ p ∈ l, x.key = mk p.1 ∧ x.val = p.2 := fun x hx => by
    have hm : (x.key, x.val) ∈ es.toList.map (fun e => (e.key, e.val)) := List.mem_map.2 ⟨x, hx, rfl⟩
    rw [hp] at hm
    obtain ⟨p, hp1, hp2⟩ := List.mem_map.1 hm
    simp only [Prod.mk.injEq] at hp2
    exact ⟨p, hp1, hp2.1.symm, hp2.2.symm⟩
  have hin : ∀ a, a ∈ akeys l → ∃ x ∈ es.toList, x.key = mk a := fun a ha => by
    obtain ⟨p, hp1, hp2⟩ := List.mem_map.1 ha
    obtain ⟨e, he, h1, _⟩ := map_pairs_mem hp hp1
    exact ⟨e, he, by rw [h1, hp2]⟩
  rcases run_next_at (P := P) w ty r b since c0 seen es clock hr hb hold hsc with ⟨h0, hrun⟩ | ⟨e, he, w1, hal, hrun⟩
  · refine Or.inl ⟨h0, fun a => ?_, hrun⟩
    cases hk : left a with
    | false => rfl
    | true =>
      obtain ⟨x, hx, hxa⟩ := hin a (hl2 a hk)
      rw [hl1 x hx a hxa, all_seen es seen h0 x hx] at hk
      cases hk
  · obtain ⟨hem, hes⟩ := mem_left he
    obtain ⟨p, hpl, hpk, hpv⟩ := hof e hem
    have hr1 : w1.heap[r]? = some (.mapIter (some b) since seen c0) := by rcases hal with rfl | rfl <;> exact hr
    have hb1 : w1.heap[b]? = some (.map es clock) := by rcases hal with rfl | rfl <;> exact hb
    have hset := heap_set (o' := .mapIter (some b) since (seen.push e.born) clock) hr1
    have hb' : (setBlock w1 r (.mapIter (some b) since (seen.push e.born) clock)).heap[b]? = some (.map es clock) := (hset.2 b (fun e1 => hne e1.symm)).trans hb1
    rw [hpk, hpv] at hrun
    have hent := run_entry_at (P := P) (setBlock w1 r (.mapIter (some b) since (seen.push e.born) clock)) r b since seen es clock e hset.1 hb' hem hst.2.1
    rw [hpk, hpv] at hent
    refine Or.inr ⟨p.1, p.2, _, _, aget_of_mem hn hpl, by rw [hl1 e hem p.1 hpk, hes]; rfl, hrun,
      ⟨es, clock, since, seen.push e.born, clock, hb', hs, hp, hn, hset.1, hold, rfl, fun x hx a ha => ?_, fun a ha => hl2 a (by simp at ha; exact ha.1), hsk, hsk⟩, left_shrinks es seen e he, ?_, ?_, hent⟩
    · show (left a && !decide (a = p.1)) = _
      rw [hl1 x hx a ha, contains_push]
      by_cases hap : a = p.1
      · subst hap
        have hxe : x = e := by
          have hpw := hst.2.2
          exact entry_eq_of_key hpw hx hem (by rw [ha, hpk])
        subst hxe
        simp
      · have hbe : (x.born == e.born) = false := by
          rw [beq_eq_false_iff_ne]
          intro hbb
          have := born_inj hst.2.1 hx hem hbb
          subst this
          exact hap (inj (by rw [← ha, hpk]))
        rw [hbe]; simp [hap]
    · rcases hal with rfl | rfl <;> exact ⟨rfl, rfl, rfl, by simp [setBlock], fun i _ hi => hset.2 i (fun e1 => hi (by rw [e1]))⟩
    · rcases hal with rfl | rfl <;> simp [setBlock]

variable {ops : Array Oper} {rest : List Oper} {o : Oper} {a : Act} {Q : Exit → Act → World → Prop}
theorem wp_srange (hg : o.guard = none) (m : Operand) (t : TypeId) (hop : o.op = Op.range t m) (e : TypeId) (ht : P.underlying t = some (.map kt e)) (inj : ∀ {a c : κ}, mk a = mk c → a = c)
    (hm : a.eval m = .map (some b)) (h : smap w mk b l)
    (hK : ∀ w', srange w' mk b w.heap.size l (fun a => (aget l a).isSome) l.length → w.grownBy w' none → w'.heap.size = w.heap.size + 1 → wpList P ops Q rest (a.put o.dst (.pointer (some ⟨w.heap.size, 0, none⟩))) w') :
    wpList P ops Q (o :: rest) a w := by
  refine wpList_plain hg fun K' hK' => ?_
  obtain ⟨w', hrun, r1, r2, r3⟩ := h.range ht inj
  unfold Oper.wp
  simp [execOp, hop, hm, hrun, Result.andThen]
  exact hK' _ _ (hK w' r1 r2 r3)
theorem wp_snext (hg : o.guard = none) (it : Operand) (hop : o.op = Op.next it false) (inj : ∀ {a c : κ}, mk a = mk c → a = c)
    (hit : a.eval it = .pointer (some ⟨r, 0, none⟩)) (h : srange w mk b r l left cnt)
    (hDone : cnt = 0 → (∀ k, left k = false) → wpList P ops Q rest (a.put o.dst (.tuple #[.bool false])) w)
    (hMore : ∀ (k : κ) (v : Value) (w' : World) (cnt' : Nat), aget l k = some v → left k = true → srange w' mk b r l (fun x => left x && !decide (x = k)) cnt' → cnt' < cnt →
      w.grownBy w' (some r) → w'.heap.size = w.heap.size → (Instr.entry (.pointer (some ⟨r, 0, none⟩))).run P w' = .ok (.tuple #[mk k, v]) w' → wpList P ops Q rest (a.put o.dst (.tuple #[.bool true, mk k, v])) w') :
    wpList P ops Q (o :: rest) a w := by
  refine wpList_plain hg fun K' hK' => ?_
  unfold Oper.wp
  rcases h.next (P := P) inj o.type with ⟨h0, hl, hrun⟩ | ⟨k, v, w', cnt', hkv, hlk, hrun, hrg, hlt, hgr, hsz, hen⟩
  · simp [execOp, hop, hit, hrun, Result.andThen]
    exact hK' _ _ (hDone h0 hl)
  · simp [execOp, hop, hit, hrun, Result.andThen]
    exact hK' _ _ (hMore k v w' cnt' hkv hlk hrg hlt hgr hsz hen)
end
end Go.Proofs.YtgacfkenndhcnaaDoor
namespace Go.Proofs.YtgacfkenndhcnaaDoor
open Go Go.RowKit
section
variable {P : Program} {ops : Array Oper} {md : Region.Mode} {Q : Exit → Act → World → Prop} {S : World → Prop} {ts : List Nat}

/-- has one of the tail come up? -/
def tailed (ts : List Nat) (listed : Array Bool) : Bool := ts.any fun t => listed.getD t false
/-- what has come up has all ahead of it that it waits for -/
def closedB (md : Region.Mode) (ops : Array Oper) (listed : Array Bool) : Bool :=
  (List.range ops.size).all fun j => !listed.getD j false || ((ops[j]?).map fun o => o.after.all fun e => !Region.binds md e || listed.getD e.on false).getD true
/-- each of the list is waited for by a later one, or by t -/
def sunk (md : Region.Mode) (ops : Array Oper) (t : Nat) : List Nat → Bool
  | [] => true
  | i :: l => (Region.waitsFor md ops t i || l.any fun j => Region.waitsFor md ops j i) && sunk md ops t l
/-- each of the list waits for one of those ahead -/
def chained (md : Region.Mode) (ops : Array Oper) : List Nat → List Nat → Bool
  | _, [] => true
  | ah, t :: l => (ah.any fun s => Region.waitsFor md ops t s) && chained md ops (t :: ah) l

structure Inv (md : Region.Mode) (ops : Array Oper) (listed : Array Bool) : Prop where
  closed : ∀ j oj, ops[j]? = some oj → listed.getD j false = true → ∀ e ∈ oj.after, Region.binds md e = true → listed.getD e.on false = true
theorem Inv.of {listed : Array Bool} (h : closedB md ops listed = true) : Inv md ops listed := by
  refine ⟨fun j oj hj hl e he hb => ?_⟩
  have hlt : j < ops.size := (Array.getElem?_eq_some_iff.1 hj).1
  have := List.all_eq_true.1 h j (List.mem_range.2 hlt)
  rw [hl, hj] at this
  simp only [Bool.not_true, Bool.false_or, Option.map_some, Option.getD_some] at this
  have h2 := Array.all_eq_true'.1 this e he
  rw [hb] at h2
  simpa using h2
theorem Inv.set {i : Nat} {listed : Array Bool} (inv : Inv md ops listed) (hi : i ∈ Region.ready md ops listed) : Inv md ops (listed.setIfInBounds i true) := by
  obtain ⟨_, oi, hoi, hall⟩ := mem_ready.1 hi
  refine ⟨fun j oj hj hl e he hb => ?_⟩
  by_cases hij : i = j
  · subst hij
    have : oj = oi := Option.some.inj (hj.symm.trans hoi)
    subst this
    exact getD_set_true (hall e he hb)
  · rw [getD_set_ne false hij] at hl
    exact getD_set_true (inv.closed j oj hj hl e he hb)
theorem waits_listed {listed : Array Bool} (inv : Inv md ops listed) {j i : Nat} (h : Region.waitsFor md ops j i = true) (hj : listed.getD j false = true) : listed.getD i false = true := by
  obtain ⟨oj, hoj, e, he, hb, rfl⟩ := Region.waitsFor_spec h
  exact inv.closed j oj hoj hj e he hb
theorem waits_ready {listed : Array Bool} {j i : Nat} (h : Region.waitsFor md ops j i = true) (hj : j ∈ Region.ready md ops listed) : listed.getD i false = true := by
  obtain ⟨oj, hoj, e, he, hb, rfl⟩ := Region.waitsFor_spec h
  obtain ⟨_, o', ho', hall⟩ := mem_ready.1 hj
  have : o' = oj := Option.some.inj (ho'.symm.trans hoj)
  subst this
  exact hall e he hb
theorem sunk_all {listed : Array Bool} {t : Nat} (inv : Inv md ops listed) (ht : t ∈ Region.ready md ops listed) : ∀ hs : List Nat, sunk md ops t hs = true → ∀ i ∈ hs, listed.getD i false = true
  | [], _, i, hi => by cases hi
  | k :: l, h, i, hi => by
    simp only [sunk, Bool.and_eq_true, Bool.or_eq_true] at h
    have ih := sunk_all inv ht l h.2
    rcases List.mem_cons.1 hi with rfl | hi
    · rcases h.1 with h1 | h1
      · exact waits_ready h1 ht
      · obtain ⟨j, hj, hw⟩ := List.any_eq_true.1 h1
        exact waits_listed inv hw (ih j hj)
    · exact ih i hi
theorem chained_tail {listed : Array Bool} {ts : List Nat} (hu : tailed ts listed = false) : ∀ (ah l : List Nat), chained md ops ah l = true → (∀ s ∈ ah, s ∈ ts) → (∀ s ∈ l, s ∈ ts) → ∀ t ∈ l, t ∉ Region.ready md ops listed
  | _, [], _, _, _, t, ht => by cases ht
  | ah, k :: l, h, h1, h2, t, ht => by
    simp only [chained, Bool.and_eq_true] at h
    rcases List.mem_cons.1 ht with rfl | ht
    · obtain ⟨s, hs, hw⟩ := List.any_eq_true.1 h.1
      intro hr
      have h3 := waits_ready hw hr
      have h4 := List.any_eq_false.1 hu s (h1 s hs)
      exact h4 h3
    · refine chained_tail hu (k :: ah) l h.2 (fun s hs => ?_) (fun s hs => h2 s (List.mem_cons_of_mem _ hs)) t ht
      rcases List.mem_cons.1 hs with rfl | hs
      · exact h2 _ List.mem_cons_self
      · exact h1 s hs
/-- while one that reads has not come up, none of the tail may -/
theorem tail_waits {t : Nat} {l ws : List Nat} {listed : Array Bool} (inv : Inv md ops listed) (hu : tailed (t :: l) listed = false) (hs : sunk md ops t ws = true) (hc : chained md ops [t] l = true) {i : Nat} (hi : i ∈ ws) (hun : listed.getD i true = false) :
    ∀ j ∈ Region.ready md ops listed, j ∉ t :: l := by
  intro j hj hjt
  have hun' : listed.getD i false = false := getD_both hun
  rcases List.mem_cons.1 hjt with rfl | hjl
  · rw [sunk_all inv hj ws hs i hi] at hun'; cases hun'
  · exact chained_tail hu [t] l hc (fun s hs => by rcases List.mem_cons.1 hs with rfl | h; exact List.mem_cons_self; cases h) (fun s hs => List.mem_cons_of_mem _ hs) j hjl hj
theorem tailed_set {ts : List Nat} {listed : Array Bool} {j : Nat} (hj : j ∉ ts) : tailed ts (listed.setIfInBounds j true) = tailed ts listed := by
  unfold tailed
  induction ts with
  | nil => rfl
  | cons t l ih =>
    simp only [List.mem_cons, not_or] at hj
    simp only [List.any_cons]
    rw [ih hj.2, getD_set_ne false hj.1]

/-- whatever order is picked from here on; S holds behind each that is carried out, till one of the tail is -/
def wpAnyG (P : Program) (md : Region.Mode) (ops : Array Oper) (Q : Exit → Act → World → Prop) (S : World → Prop) (ts : List Nat) : Nat → Array Bool → Act → World → Prop
  | 0, listed, a, w => Region.ready md ops listed = [] ∧ Q .normal a w
  | fuel + 1, listed, a, w =>
    (Region.ready md ops listed = [] → Q .normal a w) ∧
    ∀ i ∈ Region.ready md ops listed, wpOp P ops Q i (fun a' w' => (tailed ts (listed.setIfInBounds i true) = true ∨ S w') ∧ wpAnyG P md ops Q S ts fuel (listed.setIfInBounds i true) a' w') a w
theorem wpAny_of_G : ∀ (fuel : Nat) (listed : Array Bool) (a : Act) (w : World), wpAnyG P md ops Q S ts fuel listed a w → wpAny P md ops Q fuel listed a w
  | 0, _, _, _, h => h
  | fuel + 1, _, _, _, h => ⟨h.1, fun i hi => wpOp_mono (fun a' w' h' => wpAny_of_G fuel _ a' w' h'.2) (h.2 i hi)⟩

theorem wpAnyG_first {t : Nat} {l ws : List Nat} {i : Nat} {oi : Oper} {v : Value} (hi : ops[i]? = some oi) (hsel : ∀ (j : Nat) (o : Oper) cs b, ops[j]? = some o → o.op ≠ .select cs b)
    (hQ : ∀ c a w, Q (.panic c) (a.put oi.dst v) w → Q (.panic c) a w) (hs : sunk md ops t ws = true) (hc : chained md ops [t] l = true) (hiw : i ∈ ws) (hit : i ∉ t :: l) :
    ∀ (fuel : Nat) (listed : Array Bool) (a : Act) (w : World), Inv md ops listed → tailed (t :: l) listed = false →
      (∀ j oj, ops[j]? = some oj → j ≠ i → listed.getD j true = false → (∀ e ∈ oj.after, Region.binds md e = true → e.on ≠ i) → oi.apart ops oj = true) →
      i ∈ Region.ready md ops listed → YieldsIf P ops S oi v a → S w →
      wpAnyG P md ops Q S (t :: l) fuel (listed.setIfInBounds i true) (a.put oi.dst v) w → wpAnyG P md ops Q S (t :: l) (fuel + 1) listed a w := by
  intro fuel
  induction fuel with
  | zero =>
    intro listed a w inv hu _ hr hy hS H
    refine ⟨fun h => (by rw [h] at hr; cases hr), fun j hj => ?_⟩
    by_cases hji : j = i
    · subst hji; exact hy.wpOp hi hS ⟨.inr hS, H⟩
    · have := ready_mono hj hji
      rw [H.1] at this
      cases this
  | succ fuel ih =>
    intro listed a w inv hu hfree hr hy hS H
    refine ⟨fun h => (by rw [h] at hr; cases hr), fun j hj => ?_⟩
    by_cases hji : j = i
    · subst hji; exact hy.wpOp hi hS ⟨.inr hS, H⟩
    · have hun := (mem_ready.1 hr).1
      have hjt := tail_waits inv hu hs hc hiw hun j hj
      have h1 := H.2 j (ready_mono hj hji)
      obtain ⟨hjun, oj, hoj, hall⟩ := mem_ready.1 hj
      have hnot : ∀ e ∈ oj.after, Region.binds md e = true → e.on ≠ i := fun e he hb heq => by
        have h1 := hall e he hb
        rw [heq, getD_both hun] at h1
        cases h1
      have h2 := wpOp_putIf hoj (hfree j oj hoj hji hjun hnot) (fun cs b => hsel i oi cs b hi) (fun cs b => hsel j oj cs b hoj) hQ hy h1
      have hfree' : ∀ k ok, ops[k]? = some ok → k ≠ i → (listed.setIfInBounds j true).getD k true = false →
          (∀ e ∈ ok.after, Region.binds md e = true → e.on ≠ i) → oi.apart ops ok = true := fun k ok hk hki hun hno => by
        refine hfree k ok hk hki ?_ hno
        by_cases hjk : j = k
        · subst hjk; exact hjun
        · rw [getD_set_ne true hjk] at hun; exact hun
      refine wpOp_mono (fun a' w' h3 => ?_) h2
      obtain ⟨hy', hSS, h4⟩ := h3
      have hS' : S w' := by
        rcases hSS with e | e
        · rw [tailed_set hjt, tailed_set hit, hu] at e; cases e
        · exact e
      refine ⟨.inr hS', ih (listed.setIfInBounds j true) a' w' (inv.set hj) (by rw [tailed_set hjt]; exact hu) hfree' (ready_mono hr (Ne.symm hji)) hy' hS' ?_⟩
      rw [Array.setIfInBounds_comm _ _ hji]
      exact h4

theorem wpAnyG_firstP {i : Nat} {oi : Oper} {v : Value} (hi : ops[i]? = some oi) (hsel : ∀ (j : Nat) (o : Oper) cs b, ops[j]? = some o → o.op ≠ .select cs b)
    (hQ : ∀ c a w, Q (.panic c) (a.put oi.dst v) w → Q (.panic c) a w) (hit : i ∉ ts) :
    ∀ (fuel : Nat) (listed : Array Bool) (a : Act) (w : World),
      (∀ j oj, ops[j]? = some oj → j ≠ i → listed.getD j true = false → (∀ e ∈ oj.after, Region.binds md e = true → e.on ≠ i) → oi.apart ops oj = true) →
      i ∈ Region.ready md ops listed → YieldsIf P ops (fun _ => True) oi v a → (tailed ts listed = true ∨ S w) →
      wpAnyG P md ops Q S ts fuel (listed.setIfInBounds i true) (a.put oi.dst v) w → wpAnyG P md ops Q S ts (fuel + 1) listed a w := by
  intro fuel
  induction fuel with
  | zero =>
    intro listed a w _ hr hy hS H
    refine ⟨fun h => (by rw [h] at hr; cases hr), fun j hj => ?_⟩
    by_cases hji : j = i
    · subst hji; exact hy.wpOp hi trivial ⟨by rw [tailed_set hit]; exact hS, H⟩
    · have := ready_mono hj hji
      rw [H.1] at this
      cases this
  | succ fuel ih =>
    intro listed a w hfree hr hy hS H
    refine ⟨fun h => (by rw [h] at hr; cases hr), fun j hj => ?_⟩
    by_cases hji : j = i
    · subst hji; exact hy.wpOp hi trivial ⟨by rw [tailed_set hit]; exact hS, H⟩
    · have hun := (mem_ready.1 hr).1
      have h1 := H.2 j (ready_mono hj hji)
      obtain ⟨hjun, oj, hoj, hall⟩ := mem_ready.1 hj
      have hnot : ∀ e ∈ oj.after, Region.binds md e = true → e.on ≠ i := fun e he hb heq => by
        have h1 := hall e he hb
        rw [heq, getD_both hun] at h1
        cases h1
      have h2 := wpOp_putIf hoj (hfree j oj hoj hji hjun hnot) (fun cs b => hsel i oi cs b hi) (fun cs b => hsel j oj cs b hoj) hQ hy h1
      have hfree' : ∀ k ok, ops[k]? = some ok → k ≠ i → (listed.setIfInBounds j true).getD k true = false →
          (∀ e ∈ ok.after, Region.binds md e = true → e.on ≠ i) → oi.apart ops ok = true := fun k ok hk hki hun hno => by
        refine hfree k ok hk hki ?_ hno
        by_cases hjk : j = k
        · subst hjk; exact hjun
        · rw [getD_set_ne true hjk] at hun; exact hun
      refine wpOp_mono (fun a' w' h3 => ?_) h2
      obtain ⟨hy', hSS, h4⟩ := h3
      have hS' : tailed ts (listed.setIfInBounds j true) = true ∨ S w' := by
        rcases hSS with e | e
        · rw [Array.setIfInBounds_comm _ _ (Ne.symm hji), tailed_set hit] at e; exact .inl e
        · exact .inr e
      refine ⟨hS', ih (listed.setIfInBounds j true) a' w' hfree' (ready_mono hr (Ne.symm hji)) hy' hS' ?_⟩
      rw [Array.setIfInBounds_comm _ _ hji]
      exact h4

/-- may number i be taken first, in worlds that meet S? -/
def takeB (md : Region.Mode) (ops : Array Oper) (ws ts : List Nat) (listed : Array Bool) (i : Nat) : Bool :=
  match ts with
  | [] => false
  | t :: l => Region.noSelect ops && (Region.free md ops listed i && ((Region.ready md ops listed).contains i && (sunk md ops t ws && (chained md ops [t] l && (ws.contains i && (!(t :: l).contains i && (closedB md ops listed && !tailed (t :: l) listed)))))))
theorem wpAnyG_take {ws : List Nat} {i : Nat} {oi : Oper} {v : Value} {fuel : Nat} {listed : Array Bool} {a : Act} {w : World} (hi : ops[i]? = some oi) (hB : takeB md ops ws ts listed i = true)
    (hQ : ∀ c a w, Q (.panic c) (a.put oi.dst v) w → Q (.panic c) a w) (hy : YieldsIf P ops S oi v a) (hS : S w)
    (h : wpAnyG P md ops Q S ts fuel (listed.setIfInBounds i true) (a.put oi.dst v) w) : wpAnyG P md ops Q S ts (fuel + 1) listed a w := by
  cases ts with
  | nil => simp [takeB] at hB
  | cons t l =>
    simp only [takeB, Bool.and_eq_true, Bool.not_eq_true'] at hB
    obtain ⟨h1, h2, h3, h4, h5, h6, h7, h8, h9⟩ := hB
    exact wpAnyG_first (ws := ws) hi (Region.noSelect_spec h1) hQ h4 h5 (by simpa using h6) (by simpa using h7) fuel listed a w (Inv.of h8) h9 (Region.free_spec hi h2) (by simpa using h3) hy hS h
def pureB (md : Region.Mode) (ops : Array Oper) (ts : List Nat) (listed : Array Bool) (i : Nat) : Bool :=
  Region.noSelect ops && (Region.free md ops listed i && ((Region.ready md ops listed).contains i && !ts.contains i))
/-- what yields in whatever world -/
theorem wpAnyG_pure {i : Nat} {oi : Oper} {v : Value} {fuel : Nat} {listed : Array Bool} {a : Act} {w : World} (hi : ops[i]? = some oi) (hB : pureB md ops ts listed i = true)
    (hQ : ∀ c a w, Q (.panic c) (a.put oi.dst v) w → Q (.panic c) a w) (hy : YieldsIf P ops (fun _ => True) oi v a) (hS : tailed ts listed = true ∨ S w)
    (h : wpAnyG P md ops Q S ts fuel (listed.setIfInBounds i true) (a.put oi.dst v) w) : wpAnyG P md ops Q S ts (fuel + 1) listed a w := by
  simp only [pureB, Bool.and_eq_true, Bool.not_eq_true'] at hB
  obtain ⟨h1, h2, h3, h4⟩ := hB
  exact wpAnyG_firstP hi (Region.noSelect_spec h1) hQ (by simpa using h4) fuel listed a w (Region.free_spec hi h2) (by simpa using h3) hy hS h
/-- one alone may come up -/
theorem wpAnyG_one (i : Nat) {oi : Oper} {fuel : Nat} {listed : Array Bool} {a : Act} {w : World} (hi : ops[i]? = some oi) (hr : Region.ready md ops listed = [i])
    (h : ∀ K : Act → World → Prop, Hid (∀ a' w', (tailed ts (listed.setIfInBounds i true) = true ∨ S w') → wpAnyG P md ops Q S ts fuel (listed.setIfInBounds i true) a' w' → K a' w') →
      if Region.wanted oi (yielded ops a.tmps) = true then Oper.wp P oi a w K Q else K (a.put oi.dst undef) w) : wpAnyG P md ops Q S ts (fuel + 1) listed a w := by
  refine ⟨fun h0 => (by rw [hr] at h0; cases h0), fun j hj => ?_⟩
  rw [hr] at hj
  have hji : j = i := by simpa using hj
  subst hji
  have := h (fun a' w' => (tailed ts (listed.setIfInBounds j true) = true ∨ S w') ∧ wpAnyG P md ops Q S ts fuel (listed.setIfInBounds j true) a' w') (Lib.hid fun a' w' h1 h2 => ⟨h1, h2⟩)
  unfold wpOp
  simp only [hi]
  split
  · rename_i hw; rw [if_pos hw] at this; exact .inl this
  · rename_i hw; rw [if_neg hw] at this; exact this
theorem wpAnyG_done {fuel : Nat} {listed : Array Bool} {a : Act} {w : World} (hr : Region.ready md ops listed = []) (h : Q .normal a w) : wpAnyG P md ops Q S ts fuel listed a w := by
  cases fuel with
  | zero => exact ⟨hr, h⟩
  | succ n => exact ⟨fun _ => h, by rw [hr]; simp⟩
theorem wp_region_G {id : Nat} {a : Act} {w : World} (S : World → Prop) (ts : List Nat) (hm : P.follows .mixedOrders = true)
    (h : wpAnyG P .any ops Q S ts ops.size (Array.replicate ops.size false) a w.drew) : (Code.region id ops true).wp P Q a w :=
  wp_region_any hm (wpAny_of_G _ _ _ _ h)
end

/-! ### number i of a list that is written out -/
theorem at0 {o : Oper} {l : List Oper} : (o :: l).toArray[0]? = some o := rfl
theorem at1 {a0 o : Oper} {l : List Oper} : (a0 :: o :: l).toArray[1]? = some o := rfl
theorem at2 {a0 a1 o : Oper} {l : List Oper} : (a0 :: a1 :: o :: l).toArray[2]? = some o := rfl
theorem at3 {a0 a1 a2 o : Oper} {l : List Oper} : (a0 :: a1 :: a2 :: o :: l).toArray[3]? = some o := rfl
theorem at4 {a0 a1 a2 a3 o : Oper} {l : List Oper} : (a0 :: a1 :: a2 :: a3 :: o :: l).toArray[4]? = some o := rfl
theorem at5 {a0 a1 a2 a3 a4 o : Oper} {l : List Oper} : (a0 :: a1 :: a2 :: a3 :: a4 :: o :: l).toArray[5]? = some o := rfl
theorem at6 {a0 a1 a2 a3 a4 a5 o : Oper} {l : List Oper} : (a0 :: a1 :: a2 :: a3 :: a4 :: a5 :: o :: l).toArray[6]? = some o := rfl
theorem at7 {a0 a1 a2 a3 a4 a5 a6 o : Oper} {l : List Oper} : (a0 :: a1 :: a2 :: a3 :: a4 :: a5 :: a6 :: o :: l).toArray[7]? = some o := rfl
theorem at8 {a0 a1 a2 a3 a4 a5 a6 a7 o : Oper} {l : List Oper} : (a0 :: a1 :: a2 :: a3 :: a4 :: a5 :: a6 :: a7 :: o :: l).toArray[8]? = some o := rfl
theorem at9 {a0 a1 a2 a3 a4 a5 a6 a7 a8 o : Oper} {l : List Oper} : (a0 :: a1 :: a2 :: a3 :: a4 :: a5 :: a6 :: a7 :: a8 :: o :: l).toArray[9]? = some o := rfl
theorem at10 {a0 a1 a2 a3 a4 a5 a6 a7 a8 a9 o : Oper} {l : List Oper} : (a0 :: a1 :: a2 :: a3 :: a4 :: a5 :: a6 :: a7 :: a8 :: a9 :: o :: l).toArray[10]? = some o := rfl
theorem at11 {a0 a1 a2 a3 a4 a5 a6 a7 a8 a9 a10 o : Oper} {l : List Oper} : (a0 :: a1 :: a2 :: a3 :: a4 :: a5 :: a6 :: a7 :: a8 :: a9 :: a10 :: o :: l).toArray[11]? = some o := rfl
theorem at12 {a0 a1 a2 a3 a4 a5 a6 a7 a8 a9 a10 a11 o : Oper} {l : List Oper} : (a0 :: a1 :: a2 :: a3 :: a4 :: a5 :: a6 :: a7 :: a8 :: a9 :: a10 :: a11 :: o :: l).toArray[12]? = some o := rfl
theorem at13 {a0 a1 a2 a3 a4 a5 a6 a7 a8 a9 a10 a11 a12 o : Oper} {l : List Oper} : (a0 :: a1 :: a2 :: a3 :: a4 :: a5 :: a6 :: a7 :: a8 :: a9 :: a10 :: a11 :: a12 :: o :: l).toArray[13]? = some o := rfl
theorem at14 {a0 a1 a2 a3 a4 a5 a6 a7 a8 a9 a10 a11 a12 a13 o : Oper} {l : List Oper} : (a0 :: a1 :: a2 :: a3 :: a4 :: a5 :: a6 :: a7 :: a8 :: a9 :: a10 :: a11 :: a12 :: a13 :: o :: l).toArray[14]? = some o := rfl
theorem at15 {a0 a1 a2 a3 a4 a5 a6 a7 a8 a9 a10 a11 a12 a13 a14 o : Oper} {l : List Oper} : (a0 :: a1 :: a2 :: a3 :: a4 :: a5 :: a6 :: a7 :: a8 :: a9 :: a10 :: a11 :: a12 :: a13 :: a14 :: o :: l).toArray[15]? = some o := rfl
theorem at16 {a0 a1 a2 a3 a4 a5 a6 a7 a8 a9 a10 a11 a12 a13 a14 a15 o : Oper} {l : List Oper} : (a0 :: a1 :: a2 :: a3 :: a4 :: a5 :: a6 :: a7 :: a8 :: a9 :: a10 :: a11 :: a12 :: a13 :: a14 :: a15 :: o :: l).toArray[16]? = some o := rfl
theorem at17 {a0 a1 a2 a3 a4 a5 a6 a7 a8 a9 a10 a11 a12 a13 a14 a15 a16 o : Oper} {l : List Oper} : (a0 :: a1 :: a2 :: a3 :: a4 :: a5 :: a6 :: a7 :: a8 :: a9 :: a10 :: a11 :: a12 :: a13 :: a14 :: a15 :: a16 :: o :: l).toArray[17]? = some o := rfl
theorem at18 {a0 a1 a2 a3 a4 a5 a6 a7 a8 a9 a10 a11 a12 a13 a14 a15 a16 a17 o : Oper} {l : List Oper} : (a0 :: a1 :: a2 :: a3 :: a4 :: a5 :: a6 :: a7 :: a8 :: a9 :: a10 :: a11 :: a12 :: a13 :: a14 :: a15 :: a16 :: a17 :: o :: l).toArray[18]? = some o := rfl
theorem at19 {a0 a1 a2 a3 a4 a5 a6 a7 a8 a9 a10 a11 a12 a13 a14 a15 a16 a17 a18 o : Oper} {l : List Oper} : (a0 :: a1 :: a2 :: a3 :: a4 :: a5 :: a6 :: a7 :: a8 :: a9 :: a10 :: a11 :: a12 :: a13 :: a14 :: a15 :: a16 :: a17 :: a18 :: o :: l).toArray[19]? = some o := rfl
theorem at20 {a0 a1 a2 a3 a4 a5 a6 a7 a8 a9 a10 a11 a12 a13 a14 a15 a16 a17 a18 a19 o : Oper} {l : List Oper} : (a0 :: a1 :: a2 :: a3 :: a4 :: a5 :: a6 :: a7 :: a8 :: a9 :: a10 :: a11 :: a12 :: a13 :: a14 :: a15 :: a16 :: a17 :: a18 :: a19 :: o :: l).toArray[20]? = some o := rfl
theorem at21 {a0 a1 a2 a3 a4 a5 a6 a7 a8 a9 a10 a11 a12 a13 a14 a15 a16 a17 a18 a19 a20 o : Oper} {l : List Oper} : (a0 :: a1 :: a2 :: a3 :: a4 :: a5 :: a6 :: a7 :: a8 :: a9 :: a10 :: a11 :: a12 :: a13 :: a14 :: a15 :: a16 :: a17 :: a18 :: a19 :: a20 :: o :: l).toArray[21]? = some o := rfl
theorem at22 {a0 a1 a2 a3 a4 a5 a6 a7 a8 a9 a10 a11 a12 a13 a14 a15 a16 a17 a18 a19 a20 a21 o : Oper} {l : List Oper} : (a0 :: a1 :: a2 :: a3 :: a4 :: a5 :: a6 :: a7 :: a8 :: a9 :: a10 :: a11 :: a12 :: a13 :: a14 :: a15 :: a16 :: a17 :: a18 :: a19 :: a20 :: a21 :: o :: l).toArray[22]? = some o := rfl
theorem at23 {a0 a1 a2 a3 a4 a5 a6 a7 a8 a9 a10 a11 a12 a13 a14 a15 a16 a17 a18 a19 a20 a21 a22 o : Oper} {l : List Oper} : (a0 :: a1 :: a2 :: a3 :: a4 :: a5 :: a6 :: a7 :: a8 :: a9 :: a10 :: a11 :: a12 :: a13 :: a14 :: a15 :: a16 :: a17 :: a18 :: a19 :: a20 :: a21 :: a22 :: o :: l).toArray[23]? = some o := rfl
theorem at24 {a0 a1 a2 a3 a4 a5 a6 a7 a8 a9 a10 a11 a12 a13 a14 a15 a16 a17 a18 a19 a20 a21 a22 a23 o : Oper} {l : List Oper} : (a0 :: a1 :: a2 :: a3 :: a4 :: a5 :: a6 :: a7 :: a8 :: a9 :: a10 :: a11 :: a12 :: a13 :: a14 :: a15 :: a16 :: a17 :: a18 :: a19 :: a20 :: a21 :: a22 :: a23 :: o :: l).toArray[24]? = some o := rfl
theorem at25 {a0 a1 a2 a3 a4 a5 a6 a7 a8 a9 a10 a11 a12 a13 a14 a15 a16 a17 a18 a19 a20 a21 a22 a23 a24 o : Oper} {l : List Oper} : (a0 :: a1 :: a2 :: a3 :: a4 :: a5 :: a6 :: a7 :: a8 :: a9 :: a10 :: a11 :: a12 :: a13 :: a14 :: a15 :: a16 :: a17 :: a18 :: a19 :: a20 :: a21 :: a22 :: a23 :: a24 :: o :: l).toArray[25]? = some o := rfl
theorem at26 {a0 a1 a2 a3 a4 a5 a6 a7 a8 a9 a10 a11 a12 a13 a14 a15 a16 a17 a18 a19 a20 a21 a22 a23 a24 a25 o : Oper} {l : List Oper} : (a0 :: a1 :: a2 :: a3 :: a4 :: a5 :: a6 :: a7 :: a8 :: a9 :: a10 :: a11 :: a12 :: a13 :: a14 :: a15 :: a16 :: a17 :: a18 :: a19 :: a20 :: a21 :: a22 :: a23 :: a24 :: a25 :: o :: l).toArray[26]? = some o := rfl
theorem at27 {a0 a1 a2 a3 a4 a5 a6 a7 a8 a9 a10 a11 a12 a13 a14 a15 a16 a17 a18 a19 a20 a21 a22 a23 a24 a25 a26 o : Oper} {l : List Oper} : (a0 :: a1 :: a2 :: a3 :: a4 :: a5 :: a6 :: a7 :: a8 :: a9 :: a10 :: a11 :: a12 :: a13 :: a14 :: a15 :: a16 :: a17 :: a18 :: a19 :: a20 :: a21 :: a22 :: a23 :: a24 :: a25 :: a26 :: o :: l).toArray[27]? = some o := rfl
theorem at28 {a0 a1 a2 a3 a4 a5 a6 a7 a8 a9 a10 a11 a12 a13 a14 a15 a16 a17 a18 a19 a20 a21 a22 a23 a24 a25 a26 a27 o : Oper} {l : List Oper} : (a0 :: a1 :: a2 :: a3 :: a4 :: a5 :: a6 :: a7 :: a8 :: a9 :: a10 :: a11 :: a12 :: a13 :: a14 :: a15 :: a16 :: a17 :: a18 :: a19 :: a20 :: a21 :: a22 :: a23 :: a24 :: a25 :: a26 :: a27 :: o :: l).toArray[28]? = some o := rfl
theorem at29 {a0 a1 a2 a3 a4 a5 a6 a7 a8 a9 a10 a11 a12 a13 a14 a15 a16 a17 a18 a19 a20 a21 a22 a23 a24 a25 a26 a27 a28 o : Oper} {l : List Oper} : (a0 :: a1 :: a2 :: a3 :: a4 :: a5 :: a6 :: a7 :: a8 :: a9 :: a10 :: a11 :: a12 :: a13 :: a14 :: a15 :: a16 :: a17 :: a18 :: a19 :: a20 :: a21 :: a22 :: a23 :: a24 :: a25 :: a26 :: a27 :: a28 :: o :: l).toArray[29]? = some o := rfl
theorem at30 {a0 a1 a2 a3 a4 a5 a6 a7 a8 a9 a10 a11 a12 a13 a14 a15 a16 a17 a18 a19 a20 a21 a22 a23 a24 a25 a26 a27 a28 a29 o : Oper} {l : List Oper} : (a0 :: a1 :: a2 :: a3 :: a4 :: a5 :: a6 :: a7 :: a8 :: a9 :: a10 :: a11 :: a12 :: a13 :: a14 :: a15 :: a16 :: a17 :: a18 :: a19 :: a20 :: a21 :: a22 :: a23 :: a24 :: a25 :: a26 :: a27 :: a28 :: a29 :: o :: l).toArray[30]? = some o := rfl
theorem at31 {a0 a1 a2 a3 a4 a5 a6 a7 a8 a9 a10 a11 a12 a13 a14 a15 a16 a17 a18 a19 a20 a21 a22 a23 a24 a25 a26 a27 a28 a29 a30 o : Oper} {l : List Oper} : (a0 :: a1 :: a2 :: a3 :: a4 :: a5 :: a6 :: a7 :: a8 :: a9 :: a10 :: a11 :: a12 :: a13 :: a14 :: a15 :: a16 :: a17 :: a18 :: a19 :: a20 :: a21 :: a22 :: a23 :: a24 :: a25 :: a26 :: a27 :: a28 :: a29 :: a30 :: o :: l).toArray[31]? = some o := rfl
theorem at32 {a0 a1 a2 a3 a4 a5 a6 a7 a8 a9 a10 a11 a12 a13 a14 a15 a16 a17 a18 a19 a20 a21 a22 a23 a24 a25 a26 a27 a28 a29 a30 a31 o : Oper} {l : List Oper} : (a0 :: a1 :: a2 :: a3 :: a4 :: a5 :: a6 :: a7 :: a8 :: a9 :: a10 :: a11 :: a12 :: a13 :: a14 :: a15 :: a16 :: a17 :: a18 :: a19 :: a20 :: a21 :: a22 :: a23 :: a24 :: a25 :: a26 :: a27 :: a28 :: a29 :: a30 :: a31 :: o :: l).toArray[32]? = some o := rfl
theorem at33 {a0 a1 a2 a3 a4 a5 a6 a7 a8 a9 a10 a11 a12 a13 a14 a15 a16 a17 a18 a19 a20 a21 a22 a23 a24 a25 a26 a27 a28 a29 a30 a31 a32 o : Oper} {l : List Oper} : (a0 :: a1 :: a2 :: a3 :: a4 :: a5 :: a6 :: a7 :: a8 :: a9 :: a10 :: a11 :: a12 :: a13 :: a14 :: a15 :: a16 :: a17 :: a18 :: a19 :: a20 :: a21 :: a22 :: a23 :: a24 :: a25 :: a26 :: a27 :: a28 :: a29 :: a30 :: a31 :: a32 :: o :: l).toArray[33]? = some o := rfl
theorem at34 {a0 a1 a2 a3 a4 a5 a6 a7 a8 a9 a10 a11 a12 a13 a14 a15 a16 a17 a18 a19 a20 a21 a22 a23 a24 a25 a26 a27 a28 a29 a30 a31 a32 a33 o : Oper} {l : List Oper} : (a0 :: a1 :: a2 :: a3 :: a4 :: a5 :: a6 :: a7 :: a8 :: a9 :: a10 :: a11 :: a12 :: a13 :: a14 :: a15 :: a16 :: a17 :: a18 :: a19 :: a20 :: a21 :: a22 :: a23 :: a24 :: a25 :: a26 :: a27 :: a28 :: a29 :: a30 :: a31 :: a32 :: a33 :: o :: l).toArray[34]? = some o := rfl
theorem at35 {a0 a1 a2 a3 a4 a5 a6 a7 a8 a9 a10 a11 a12 a13 a14 a15 a16 a17 a18 a19 a20 a21 a22 a23 a24 a25 a26 a27 a28 a29 a30 a31 a32 a33 a34 o : Oper} {l : List Oper} : (a0 :: a1 :: a2 :: a3 :: a4 :: a5 :: a6 :: a7 :: a8 :: a9 :: a10 :: a11 :: a12 :: a13 :: a14 :: a15 :: a16 :: a17 :: a18 :: a19 :: a20 :: a21 :: a22 :: a23 :: a24 :: a25 :: a26 :: a27 :: a28 :: a29 :: a30 :: a31 :: a32 :: a33 :: a34 :: o :: l).toArray[35]? = some o := rfl
theorem at36 {a0 a1 a2 a3 a4 a5 a6 a7 a8 a9 a10 a11 a12 a13 a14 a15 a16 a17 a18 a19 a20 a21 a22 a23 a24 a25 a26 a27 a28 a29 a30 a31 a32 a33 a34 a35 o : Oper} {l : List Oper} : (a0 :: a1 :: a2 :: a3 :: a4 :: a5 :: a6 :: a7 :: a8 :: a9 :: a10 :: a11 :: a12 :: a13 :: a14 :: a15 :: a16 :: a17 :: a18 :: a19 :: a20 :: a21 :: a22 :: a23 :: a24 :: a25 :: a26 :: a27 :: a28 :: a29 :: a30 :: a31 :: a32 :: a33 :: a34 :: a35 :: o :: l).toArray[36]? = some o := rfl
theorem at37 {a0 a1 a2 a3 a4 a5 a6 a7 a8 a9 a10 a11 a12 a13 a14 a15 a16 a17 a18 a19 a20 a21 a22 a23 a24 a25 a26 a27 a28 a29 a30 a31 a32 a33 a34 a35 a36 o : Oper} {l : List Oper} : (a0 :: a1 :: a2 :: a3 :: a4 :: a5 :: a6 :: a7 :: a8 :: a9 :: a10 :: a11 :: a12 :: a13 :: a14 :: a15 :: a16 :: a17 :: a18 :: a19 :: a20 :: a21 :: a22 :: a23 :: a24 :: a25 :: a26 :: a27 :: a28 :: a29 :: a30 :: a31 :: a32 :: a33 :: a34 :: a35 :: a36 :: o :: l).toArray[37]? = some o := rfl
theorem at38 {a0 a1 a2 a3 a4 a5 a6 a7 a8 a9 a10 a11 a12 a13 a14 a15 a16 a17 a18 a19 a20 a21 a22 a23 a24 a25 a26 a27 a28 a29 a30 a31 a32 a33 a34 a35 a36 a37 o : Oper} {l : List Oper} : (a0 :: a1 :: a2 :: a3 :: a4 :: a5 :: a6 :: a7 :: a8 :: a9 :: a10 :: a11 :: a12 :: a13 :: a14 :: a15 :: a16 :: a17 :: a18 :: a19 :: a20 :: a21 :: a22 :: a23 :: a24 :: a25 :: a26 :: a27 :: a28 :: a29 :: a30 :: a31 :: a32 :: a33 :: a34 :: a35 :: a36 :: a37 :: o :: l).toArray[38]? = some o := rfl
theorem at39 {a0 a1 a2 a3 a4 a5 a6 a7 a8 a9 a10 a11 a12 a13 a14 a15 a16 a17 a18 a19 a20 a21 a22 a23 a24 a25 a26 a27 a28 a29 a30 a31 a32 a33 a34 a35 a36 a37 a38 o : Oper} {l : List Oper} : (a0 :: a1 :: a2 :: a3 :: a4 :: a5 :: a6 :: a7 :: a8 :: a9 :: a10 :: a11 :: a12 :: a13 :: a14 :: a15 :: a16 :: a17 :: a18 :: a19 :: a20 :: a21 :: a22 :: a23 :: a24 :: a25 :: a26 :: a27 :: a28 :: a29 :: a30 :: a31 :: a32 :: a33 :: a34 :: a35 :: a36 :: a37 :: a38 :: o :: l).toArray[39]? = some o := rfl
theorem at40 {a0 a1 a2 a3 a4 a5 a6 a7 a8 a9 a10 a11 a12 a13 a14 a15 a16 a17 a18 a19 a20 a21 a22 a23 a24 a25 a26 a27 a28 a29 a30 a31 a32 a33 a34 a35 a36 a37 a38 a39 o : Oper} {l : List Oper} : (a0 :: a1 :: a2 :: a3 :: a4 :: a5 :: a6 :: a7 :: a8 :: a9 :: a10 :: a11 :: a12 :: a13 :: a14 :: a15 :: a16 :: a17 :: a18 :: a19 :: a20 :: a21 :: a22 :: a23 :: a24 :: a25 :: a26 :: a27 :: a28 :: a29 :: a30 :: a31 :: a32 :: a33 :: a34 :: a35 :: a36 :: a37 :: a38 :: a39 :: o :: l).toArray[40]? = some o := rfl
theorem at41 {a0 a1 a2 a3 a4 a5 a6 a7 a8 a9 a10 a11 a12 a13 a14 a15 a16 a17 a18 a19 a20 a21 a22 a23 a24 a25 a26 a27 a28 a29 a30 a31 a32 a33 a34 a35 a36 a37 a38 a39 a40 o : Oper} {l : List Oper} : (a0 :: a1 :: a2 :: a3 :: a4 :: a5 :: a6 :: a7 :: a8 :: a9 :: a10 :: a11 :: a12 :: a13 :: a14 :: a15 :: a16 :: a17 :: a18 :: a19 :: a20 :: a21 :: a22 :: a23 :: a24 :: a25 :: a26 :: a27 :: a28 :: a29 :: a30 :: a31 :: a32 :: a33 :: a34 :: a35 :: a36 :: a37 :: a38 :: a39 :: a40 :: o :: l).toArray[41]? = some o := rfl
theorem at42 {a0 a1 a2 a3 a4 a5 a6 a7 a8 a9 a10 a11 a12 a13 a14 a15 a16 a17 a18 a19 a20 a21 a22 a23 a24 a25 a26 a27 a28 a29 a30 a31 a32 a33 a34 a35 a36 a37 a38 a39 a40 a41 o : Oper} {l : List Oper} : (a0 :: a1 :: a2 :: a3 :: a4 :: a5 :: a6 :: a7 :: a8 :: a9 :: a10 :: a11 :: a12 :: a13 :: a14 :: a15 :: a16 :: a17 :: a18 :: a19 :: a20 :: a21 :: a22 :: a23 :: a24 :: a25 :: a26 :: a27 :: a28 :: a29 :: a30 :: a31 :: a32 :: a33 :: a34 :: a35 :: a36 :: a37 :: a38 :: a39 :: a40 :: a41 :: o :: l).toArray[42]? = some o := rfl
theorem at43 {a0 a1 a2 a3 a4 a5 a6 a7 a8 a9 a10 a11 a12 a13 a14 a15 a16 a17 a18 a19 a20 a21 a22 a23 a24 a25 a26 a27 a28 a29 a30 a31 a32 a33 a34 a35 a36 a37 a38 a39 a40 a41 a42 o : Oper} {l : List Oper} : (a0 :: a1 :: a2 :: a3 :: a4 :: a5 :: a6 :: a7 :: a8 :: a9 :: a10 :: a11 :: a12 :: a13 :: a14 :: a15 :: a16 :: a17 :: a18 :: a19 :: a20 :: a21 :: a22 :: a23 :: a24 :: a25 :: a26 :: a27 :: a28 :: a29 :: a30 :: a31 :: a32 :: a33 :: a34 :: a35 :: a36 :: a37 :: a38 :: a39 :: a40 :: a41 :: a42 :: o :: l).toArray[43]? = some o := rfl
theorem at44 {a0 a1 a2 a3 a4 a5 a6 a7 a8 a9 a10 a11 a12 a13 a14 a15 a16 a17 a18 a19 a20 a21 a22 a23 a24 a25 a26 a27 a28 a29 a30 a31 a32 a33 a34 a35 a36 a37 a38 a39 a40 a41 a42 a43 o : Oper} {l : List Oper} : (a0 :: a1 :: a2 :: a3 :: a4 :: a5 :: a6 :: a7 :: a8 :: a9 :: a10 :: a11 :: a12 :: a13 :: a14 :: a15 :: a16 :: a17 :: a18 :: a19 :: a20 :: a21 :: a22 :: a23 :: a24 :: a25 :: a26 :: a27 :: a28 :: a29 :: a30 :: a31 :: a32 :: a33 :: a34 :: a35 :: a36 :: a37 :: a38 :: a39 :: a40 :: a41 :: a42 :: a43 :: o :: l).toArray[44]? = some o := rfl
theorem at45 {a0 a1 a2 a3 a4 a5 a6 a7 a8 a9 a10 a11 a12 a13 a14 a15 a16 a17 a18 a19 a20 a21 a22 a23 a24 a25 a26 a27 a28 a29 a30 a31 a32 a33 a34 a35 a36 a37 a38 a39 a40 a41 a42 a43 a44 o : Oper} {l : List Oper} : (a0 :: a1 :: a2 :: a3 :: a4 :: a5 :: a6 :: a7 :: a8 :: a9 :: a10 :: a11 :: a12 :: a13 :: a14 :: a15 :: a16 :: a17 :: a18 :: a19 :: a20 :: a21 :: a22 :: a23 :: a24 :: a25 :: a26 :: a27 :: a28 :: a29 :: a30 :: a31 :: a32 :: a33 :: a34 :: a35 :: a36 :: a37 :: a38 :: a39 :: a40 :: a41 :: a42 :: a43 :: a44 :: o :: l).toArray[45]? = some o := rfl
theorem at46 {a0 a1 a2 a3 a4 a5 a6 a7 a8 a9 a10 a11 a12 a13 a14 a15 a16 a17 a18 a19 a20 a21 a22 a23 a24 a25 a26 a27 a28 a29 a30 a31 a32 a33 a34 a35 a36 a37 a38 a39 a40 a41 a42 a43 a44 a45 o : Oper} {l : List Oper} : (a0 :: a1 :: a2 :: a3 :: a4 :: a5 :: a6 :: a7 :: a8 :: a9 :: a10 :: a11 :: a12 :: a13 :: a14 :: a15 :: a16 :: a17 :: a18 :: a19 :: a20 :: a21 :: a22 :: a23 :: a24 :: a25 :: a26 :: a27 :: a28 :: a29 :: a30 :: a31 :: a32 :: a33 :: a34 :: a35 :: a36 :: a37 :: a38 :: a39 :: a40 :: a41 :: a42 :: a43 :: a44 :: a45 :: o :: l).toArray[46]? = some o := rfl
theorem at47 {a0 a1 a2 a3 a4 a5 a6 a7 a8 a9 a10 a11 a12 a13 a14 a15 a16 a17 a18 a19 a20 a21 a22 a23 a24 a25 a26 a27 a28 a29 a30 a31 a32 a33 a34 a35 a36 a37 a38 a39 a40 a41 a42 a43 a44 a45 a46 o : Oper} {l : List Oper} : (a0 :: a1 :: a2 :: a3 :: a4 :: a5 :: a6 :: a7 :: a8 :: a9 :: a10 :: a11 :: a12 :: a13 :: a14 :: a15 :: a16 :: a17 :: a18 :: a19 :: a20 :: a21 :: a22 :: a23 :: a24 :: a25 :: a26 :: a27 :: a28 :: a29 :: a30 :: a31 :: a32 :: a33 :: a34 :: a35 :: a36 :: a37 :: a38 :: a39 :: a40 :: a41 :: a42 :: a43 :: a44 :: a45 :: a46 :: o :: l).toArray[47]? = some o := rfl
end Go.Proofs.YtgacfkenndhcnaaDoor
