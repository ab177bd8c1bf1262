/- Words of my own: a block that is a map, as a list of keys and values, and what Go's operations on it do. No program in sight. -/
import Derived.Maps.OwnSet
import Derived.Maps.RangeWalk
import Derived.WalkKit
import Derived.Carry
namespace Go.Proofs.YtmallmnilihcdaaDoor
set_option linter.unusedVariables false
set_option linter.unusedSimpArgs false
open Go.ChangeMaps (setBlock heap_setBlock_same heap_setBlock_other)
open Go.MapKept (Stamped stamped_empty stamped_push stamped_erase stamped_modify IsKey)

theorem snoc_ind {α : Type} {P : List α → Prop} (h0 : P []) (hs : ∀ l x, P l → P (l ++ [x])) (l : List α) : P l := by
  have h : ∀ n (l : List α), l.length = n → P l := by
    intro n
    induction n with
    | zero => intro l hl; rw [List.eq_nil_of_length_eq_zero hl]; exact h0
    | succ n ih =>
      intro l hl
      rcases List.eq_nil_or_concat l with e | ⟨m, x, e⟩
      · rw [e] at hl; cases hl
      · rw [List.concat_eq_append] at e; rw [e]; exact hs m x (ih m (by rw [e] at hl; simpa using hl))
  exact h _ l rfl

/-! ### lists of keys and values -/
section
variable {κ α β : Type}

def aget [DecidableEq κ] (l : List (κ × α)) (k : κ) : Option α := (l.find? (fun p => decide (p.1 = k))).map (·.2)
def aput [DecidableEq κ] (l : List (κ × α)) (k : κ) (v : α) : List (κ × α) := if (aget l k).isSome then l.map (fun p => if p.1 = k then (k, v) else p) else l ++ [(k, v)]
def adel [DecidableEq κ] (l : List (κ × α)) (k : κ) : List (κ × α) := l.filter (fun p => decide (p.1 ≠ k))
def amap (f : α → β) (l : List (κ × α)) : List (κ × β) := l.map fun p => (p.1, f p.2)
def akeys (l : List (κ × α)) : List κ := l.map (·.1)

theorem aget_nil [DecidableEq κ] (k : κ) : aget ([] : List (κ × α)) k = none := rfl
theorem aget_cons [DecidableEq κ] (p : κ × α) (l : List (κ × α)) (k : κ) : aget (p :: l) k = if p.1 = k then some p.2 else aget l k := by
  unfold aget; by_cases h : p.1 = k <;> simp [List.find?_cons, h]
theorem aget_none [DecidableEq κ] {l : List (κ × α)} {k : κ} : aget l k = none ↔ k ∉ akeys l := by
  induction l with
  | nil => simp [aget_nil, akeys]
  | cons p l ih =>
    rw [aget_cons]; by_cases h : p.1 = k
    · simp [h, akeys]
    · simp only [h, if_false, ih, akeys, List.map_cons, List.mem_cons, not_or]
      exact ⟨fun h' => ⟨fun e => h e.symm, h'⟩, fun h' => h'.2⟩
theorem aget_isSome [DecidableEq κ] {l : List (κ × α)} {k : κ} : (aget l k).isSome = true ↔ k ∈ akeys l := by
  cases h : aget l k with
  | none => simp [aget_none.1 h]
  | some v => simp; exact Classical.byContradiction fun hn => by rw [aget_none.2 hn] at h; cases h
theorem aget_mem [DecidableEq κ] {l : List (κ × α)} {k : κ} {v : α} (h : aget l k = some v) : (k, v) ∈ l := by
  induction l with
  | nil => cases h
  | cons p l ih =>
    rw [aget_cons] at h; by_cases e : p.1 = k
    · rw [if_pos e] at h; cases h; subst e; exact List.mem_cons_self
    · rw [if_neg e] at h; exact List.mem_cons_of_mem _ (ih h)
theorem aget_of_mem [DecidableEq κ] {l : List (κ × α)} (hn : (akeys l).Nodup) {k : κ} {v : α} (h : (k, v) ∈ l) : aget l k = some v := by
  induction l with
  | nil => cases h
  | cons p l ih =>
    simp only [akeys, List.map_cons, List.nodup_cons] at hn
    rw [aget_cons]
    rcases List.mem_cons.1 h with rfl | h'
    · simp
    · have : p.1 ≠ k := fun e => hn.1 (by rw [e]; exact List.mem_map.2 ⟨_, h', rfl⟩)
      rw [if_neg this]; exact ih hn.2 h'
theorem aget_amap [DecidableEq κ] (f : α → β) (l : List (κ × α)) (k : κ) : aget (amap f l) k = (aget l k).map f := by
  induction l with
  | nil => rfl
  | cons p l ih => rw [amap, List.map_cons, aget_cons, aget_cons]; by_cases h : p.1 = k <;> simp [h]; exact ih
theorem akeys_amap (f : α → β) (l : List (κ × α)) : akeys (amap f l) = akeys l := by simp [akeys, amap, Function.comp_def]
theorem aput_amap [DecidableEq κ] (f : α → β) (l : List (κ × α)) (k : κ) (v : α) : aput (amap f l) k (f v) = amap f (aput l k v) := by
  unfold aput; rw [aget_amap]; simp only [Option.isSome_map]
  split
  · simp only [amap, List.map_map]; apply List.map_congr_left; intro p _; simp only [Function.comp]; split <;> rfl
  · simp [amap]
theorem adel_amap [DecidableEq κ] (f : α → β) (l : List (κ × α)) (k : κ) : adel (amap f l) k = amap f (adel l k) := by
  unfold adel amap; rw [List.filter_map]; rfl
theorem akeys_aput [DecidableEq κ] (l : List (κ × α)) (k : κ) (v : α) : akeys (aput l k v) = if k ∈ akeys l then akeys l else akeys l ++ [k] := by
  unfold aput
  by_cases h : k ∈ akeys l
  · rw [if_pos (aget_isSome.2 h), if_pos h]; simp only [akeys, List.map_map]; apply List.map_congr_left
    intro p _; simp only [Function.comp]; split <;> simp_all
  · rw [if_neg (fun e => h (aget_isSome.1 e)), if_neg h]; simp [akeys]
theorem akeys_adel [DecidableEq κ] (l : List (κ × α)) (k : κ) : akeys (adel l k) = (akeys l).filter (fun x => decide (x ≠ k)) := by
  unfold akeys adel; rw [List.filter_map]; rfl
theorem aput_length [DecidableEq κ] (l : List (κ × α)) (k : κ) (v : α) : (aput l k v).length ≤ l.length + 1 := by unfold aput; split <;> simp
theorem nodup_aput [DecidableEq κ] {l : List (κ × α)} (h : (akeys l).Nodup) (k : κ) (v : α) : (akeys (aput l k v)).Nodup := by
  rw [akeys_aput]; split
  · exact h
  · rename_i hk; refine List.nodup_append.2 ⟨h, by simp, ?_⟩; intro a ha b hb; simp at hb; subst hb; exact fun e => hk (e ▸ ha)
theorem nodup_adel [DecidableEq κ] {l : List (κ × α)} (h : (akeys l).Nodup) (k : κ) : (akeys (adel l k)).Nodup := by
  rw [akeys_adel]; exact h.filter _
theorem aget_aput [DecidableEq κ] (l : List (κ × α)) (k : κ) (v : α) (j : κ) : aget (aput l k v) j = if j = k then some v else aget l j := by
  unfold aput
  by_cases h : (aget l k).isSome = true
  · rw [if_pos h]
    induction l with
    | nil => simp [aget_nil] at h
    | cons p l ih =>
      rw [List.map_cons, aget_cons, aget_cons]
      rw [aget_cons] at h
      by_cases e : p.1 = k
      · rw [if_pos e]
        by_cases ej : j = k
        · simp [ej]
        · have e1 : ¬ k = j := fun e => ej e.symm
          have e2 : ¬ p.1 = j := by rw [e]; exact e1
          simp only [e1, e2, ej, if_false]
          clear ih h
          induction l with
          | nil => rfl
          | cons q l ih' =>
            rw [List.map_cons, aget_cons, aget_cons, ih']
            by_cases eq : q.1 = k
            · rw [if_pos eq]; have e3 : ¬ q.1 = j := by rw [eq]; exact e1
              simp [e1, e3]
            · rw [if_neg eq]
      · rw [if_neg e] at h
        rw [if_neg e, ih h]
        by_cases ej : j = k
        · subst ej; simp [e]
        · simp [ej]
  · rw [if_neg h]
    have hn : aget l k = none := by cases g : aget l k <;> simp_all
    clear h
    induction l with
    | nil => rw [List.nil_append, aget_cons, aget_nil]; by_cases ej : j = k <;> simp [ej]; intro e; exact absurd e.symm ej
    | cons p l ih =>
      rw [aget_cons] at hn
      have e : ¬ p.1 = k := fun e => by rw [if_pos e] at hn; cases hn
      rw [if_neg e] at hn
      rw [List.cons_append, aget_cons, aget_cons, ih hn]
      by_cases ej : j = k
      · subst ej; simp [e]
      · simp [ej]
theorem aget_adel [DecidableEq κ] (l : List (κ × α)) (k j : κ) : aget (adel l k) j = if j = k then none else aget l j := by
  unfold adel
  induction l with
  | nil => simp [aget_nil]
  | cons p l ih =>
    rw [List.filter_cons, aget_cons]
    by_cases e : p.1 = k
    · simp only [e, ne_eq, not_true_eq_false, decide_false, Bool.false_eq_true, if_false]
      rw [ih]; by_cases ej : j = k
      · simp [ej]
      · have : ¬ k = j := fun e => ej e.symm
        simp [ej, this]
    · simp only [ne_eq, e, not_false_eq_true, decide_true, if_true]
      rw [aget_cons, ih]; by_cases ej : j = k
      · subst ej; simp [e]
      · simp [ej]
theorem adel_of_none [DecidableEq κ] {l : List (κ × α)} {a : κ} (h : aget l a = none) : adel l a = l := by
  unfold adel; rw [List.filter_eq_self]; intro p hp; simp; intro e
  exact (aget_none.1 h) (by rw [← e]; exact List.mem_map.2 ⟨p, hp, rfl⟩)

end

/-! ### a key's type -/
structure MK (P : Program) (kt : TypeId) {κ : Type} (mk : κ → Value) : Prop where
  inj : ∀ {a b : κ}, mk a = mk b → a = b
  check : ∀ (w : World) (em : Bool) (a : κ), (Instr.checkKey em 10000 kt (mk a)).run P w = .ok () w
  find : ∀ (w : World) (a : κ) (es : List MapEntry), (∀ e ∈ es, ∃ b, e.key = mk b) →
    ((Instr.findKey kt (mk a) es).run P w = .ok none w ∧ ∀ e ∈ es, e.key ≠ mk a) ∨ ∃ j e, (Instr.findKey kt (mk a) es).run P w = .ok (some (j, e.val)) w ∧ es[j]? = some e ∧ e.key = mk a
  stays : ∀ (w : World) (a : κ), (Instr.keyThatStays (mk a) (mk a)).run P w = .ok (mk a) w

theorem mk_string {P : Program} {kt : TypeId} (hk : P.underlying kt = some .string) : MK P kt Value.string where
  inj h := by cases h; rfl
  check w em a := Go.MapKept.run_checkKey hk (by trivial) em 9999
  find w a es hes := by
    have hks : ∀ y ∈ es, IsKey .string y.key := fun y hy => by obtain ⟨l, hl⟩ := hes y hy; rw [hl]; trivial
    rcases Go.MapKept.findNow_spec (d := .string) (k := .string a) (by trivial) es 0 hks with ⟨h1, h2⟩ | ⟨j, e0, h1, h2, h3⟩
    · exact Or.inl ⟨Go.MapKept.run_findKey hk h1, h2⟩
    · exact Or.inr ⟨j, e0, by simpa using Go.MapKept.run_findKey hk h1, h2, h3⟩
  stays w a := Go.MapKept.run_keyThatStays (d := .string) (by trivial)

/-! ### a block that is a map -/
section
variable {κ : Type}

/-- Block b of w is a map whose entries are l, keys told by mk. -/
def smap (w : World) (mk : κ → Value) (b : Nat) (l : List (κ × Value)) : Prop :=
  ∃ es clock, w.heap[b]? = some (.map es clock) ∧ Stamped es clock ∧ es.toList.map (fun e => (e.key, e.val)) = l.map (fun p => (mk p.1, p.2)) ∧ (akeys l).Nodup

variable {P : Program} {kt : TypeId} {mk : κ → Value} {w w' : World} {b : Nat} {l : List (κ × Value)}

theorem smap.lt (h : smap w mk b l) : b < w.heap.size := by obtain ⟨es, c, hb, _⟩ := h; exact (Array.getElem?_eq_some_iff.1 hb).1
theorem smap.nodup (h : smap w mk b l) : (akeys l).Nodup := by obtain ⟨es, c, _, _, _, h⟩ := h; exact h
theorem smap.keep (h : smap w mk b l) (e : w'.heap[b]? = w.heap[b]?) : smap w' mk b l := by
  obtain ⟨es, c, hb, r⟩ := h; exact ⟨es, c, e.trans hb, r⟩
theorem smap_made (w : World) (mk : κ → Value) : smap (w.alloc (.map #[] 0)) mk w.heap.size [] :=
  ⟨#[], 0, (MapKept.heap_alloc w _).1, stamped_empty 0, rfl, by simp [akeys]⟩

theorem map_pairs_get {es : List MapEntry} (he : es.map (fun e => (e.key, e.val)) = l.map (fun p => (mk p.1, p.2))) {j : Nat} {e : MapEntry} (hj : es[j]? = some e) : ∃ p, l[j]? = some p ∧ e.key = mk p.1 ∧ e.val = p.2 := by
  have h1 : (es.map (fun e => (e.key, e.val)))[j]? = some (e.key, e.val) := by rw [List.getElem?_map, hj]; rfl
  rw [he, List.getElem?_map] at h1
  cases g : l[j]? with
  | none => rw [g] at h1; cases h1
  | some p => rw [g] at h1; simp only [Option.map_some, Option.some.injEq, Prod.mk.injEq] at h1; exact ⟨p, rfl, h1.1.symm, h1.2.symm⟩
theorem map_pairs_mem {es : List MapEntry} (he : es.map (fun e => (e.key, e.val)) = l.map (fun p => (mk p.1, p.2))) {p : κ × Value} (hp : p ∈ l) : ∃ e ∈ es, e.key = mk p.1 ∧ e.val = p.2 := by
  have h1 : (mk p.1, p.2) ∈ es.map (fun e => (e.key, e.val)) := by rw [he]; exact List.mem_map.2 ⟨p, hp, rfl⟩
  obtain ⟨e, he, h2⟩ := List.mem_map.1 h1
  simp only [Prod.mk.injEq] at h2; exact ⟨e, he, h2.1, h2.2⟩

/-- what finding a key comes to -/
theorem smap_find [DecidableEq κ] (K : MK P kt mk) {es : List MapEntry} (he : es.map (fun e => (e.key, e.val)) = l.map (fun p => (mk p.1, p.2))) (hn : (akeys l).Nodup) (w : World) (a : κ) :
    ((Instr.findKey kt (mk a) es).run P w = .ok none w ∧ aget l a = none ∧ ∀ e ∈ es, e.key ≠ mk a) ∨ ∃ j e v, (Instr.findKey kt (mk a) es).run P w = .ok (some (j, v)) w ∧ es[j]? = some e ∧ e.key = mk a ∧ l[j]? = some (a, v) ∧ aget l a = some v := by
  have hk : ∀ e ∈ es, ∃ c, e.key = mk c := by
    intro e hm
    obtain ⟨j, hj⟩ := List.getElem?_of_mem hm
    obtain ⟨p, _, h1, _⟩ := map_pairs_get he hj
    exact ⟨p.1, h1⟩
  rcases K.find w a es hk with ⟨h1, h2⟩ | ⟨j, e, h1, h2, h3⟩
  · left; refine ⟨h1, aget_none.2 fun hm => ?_, h2⟩
    obtain ⟨p, hp, e1⟩ := List.mem_map.1 hm
    obtain ⟨e, hm', h3, _⟩ := map_pairs_mem he hp
    exact h2 e hm' (by rw [h3, e1])
  · right
    obtain ⟨p, hp, e1, e2⟩ := map_pairs_get he h2
    obtain ⟨pk, pv⟩ := p
    have ek : a = pk := K.inj (by rw [← h3, e1])
    subst ek
    exact ⟨j, e, e.val, h1, h2, h3, by rw [hp]; simp at e2; rw [e2], by simp at e2; rw [e2]; exact aget_of_mem hn (List.mem_of_getElem? hp)⟩

theorem smap.look [DecidableEq κ] (h : smap w mk b l) (K : MK P kt mk) {t et : TypeId} (ht : P.underlying t = some (.map kt et)) {z : Value} (hz : (zeroValue et).run P w = .ok z w) (a : κ) (ok : Bool) :
    (Instr.lookup t (.map (some b)) (mk a) ok).run P w = .ok (if ok then .tuple #[(aget l a).getD z, .bool (aget l a).isSome] else (aget l a).getD z) w := by
  obtain ⟨es, c, hb, hs, he, hn⟩ := h
  rcases smap_find K he hn w a with ⟨h1, h2, _⟩ | ⟨j, e, v, h1, _, _, _, h2⟩
  · simp [Instr.lookup, run_underlying ht, MapKept.run_getObj_map hb, K.check, h1, Result.andThen, hz, h2]
  · simp [Instr.lookup, run_underlying ht, MapKept.run_getObj_map hb, K.check, h1, Result.andThen, h2]

theorem nil_look (K : MK P kt mk) {t et : TypeId} (ht : P.underlying t = some (.map kt et)) {z : Value} (hz : (zeroValue et).run P w = .ok z w) (a : κ) (ok : Bool) :
    (Instr.lookup t (.map none) (mk a) ok).run P w = .ok (if ok then .tuple #[z, .bool false] else z) w := by
  rcases K.find w a [] (by simp) with ⟨h1, _⟩ | ⟨j, e, _, h, _⟩
  · simp [Instr.lookup, run_underlying ht, K.check, h1, Result.andThen, hz]
  · simp at h

theorem map_modify_pairs [DecidableEq κ] {es : Array MapEntry} (he : es.toList.map (fun e => (e.key, e.val)) = l.map (fun p => (mk p.1, p.2))) (hn : (akeys l).Nodup) {j : Nat} {e : MapEntry} {a : κ} {u : Value} (hj : es.toList[j]? = some e) (hl : l[j]? = some (a, u)) (v : Value) :
    (es.modify j fun e => { e with key := mk a, val := v }).toList.map (fun e => (e.key, e.val)) = (l.map (fun p => if p.1 = a then (a, v) else p)).map (fun p => (mk p.1, p.2)) := by
  apply List.ext_getElem?
  intro i
  have hi : (es.toList.map (fun e => (e.key, e.val)))[i]? = (l.map (fun p => (mk p.1, p.2)))[i]? := by rw [he]
  simp only [List.getElem?_map, Array.getElem?_toList, Array.getElem?_modify] at hi ⊢
  by_cases hij : j = i
  · subst hij
    rw [Array.getElem?_toList] at hj
    simp [hj, hl]
  · simp only [if_neg hij]
    rw [hi]
    cases g : l[i]? with
    | none => rfl
    | some p =>
      have hne : p.1 ≠ a := fun e => by
        have h1 : (akeys l)[i]? = some a := by simp [akeys, g, e]
        have h2 : (akeys l)[j]? = some a := by simp [akeys, hl]
        have l1 := (List.getElem?_eq_some_iff.1 h1).1
        exact hij ((List.getElem?_inj l1 hn).1 (h1.trans h2.symm)).symm
      simp [hne]

theorem smap.upd [DecidableEq κ] (h : smap w mk b l) (K : MK P kt mk) {t et : TypeId} (ht : P.underlying t = some (.map kt et)) (a : κ) (v : Value) :
    ∃ w', (Instr.mapUpdate t (.map (some b)) (mk a) v).run P w = .ok () w' ∧ smap w' mk b (aput l a v) ∧ w.grownBy w' (some b) ∧ w'.heap.size = w.heap.size := by
  obtain ⟨es, c, hb, hs, he, hn⟩ := h
  rcases smap_find K he hn w a with ⟨h1, h2, h2'⟩ | ⟨j, e, u, h1, hj, hek, hl, h2⟩
  · refine ⟨setBlock w b (.map (es.push { key := mk a, val := v, born := c }) (c + 1)), ?_, ⟨_, _, heap_setBlock_same hb _, stamped_push hs h2', ?_, nodup_aput hn a v⟩, ⟨rfl, rfl, rfl, by simp [setBlock], fun i _ hi => heap_setBlock_other hb _ (fun e => hi (by rw [e]))⟩, by simp [setBlock]⟩
    · simp [Instr.mapUpdate, run_underlying ht, MapKept.run_getObj_map hb, K.check, h1, MapKept.run_setObj_map _ hb, Result.andThen, setBlock]
    · simp [aput, h2, he]
  · have hkey : (((es[j]?).map (·.key)).getD (mk a)) = mk a := by rw [Array.getElem?_toList] at hj; rw [hj]; exact hek
    refine ⟨setBlock w b (.map (es.modify j fun e => { e with key := mk a, val := v }) c), ?_, ⟨_, _, heap_setBlock_same hb _, stamped_modify hs j _ (fun _ _ => rfl) (fun e' _ he' => ?_), ?_, nodup_aput hn a v⟩, ⟨rfl, rfl, rfl, by simp [setBlock], fun i _ hi => heap_setBlock_other hb _ (fun e => hi (by rw [e]))⟩, by simp [setBlock]⟩
    · simp [Instr.mapUpdate, run_underlying ht, MapKept.run_getObj_map hb, K.check, h1, hkey, K.stays, MapKept.run_setObj_map _ hb, Result.andThen, setBlock]
    · rw [Array.getElem?_toList] at hj; rw [hj] at he'; cases he'; exact hek.symm
    · rw [map_modify_pairs he hn hj hl v]; simp [aput, h2]

theorem filter_of_get [DecidableEq κ] {j : Nat} {a : κ} {u : Value} (hn : (akeys l).Nodup) (hl : l[j]? = some (a, u)) : adel l a = l.eraseIdx j := by
  induction l generalizing j with
  | nil => simp at hl
  | cons p l ih =>
    simp only [akeys, List.map_cons, List.nodup_cons] at hn
    cases j with
    | zero =>
      simp at hl; subst hl
      simp only [adel, List.filter_cons, List.eraseIdx_cons_zero]
      simp only [ne_eq, not_true_eq_false, decide_false, Bool.false_eq_true, if_false]
      rw [List.filter_eq_self]
      intro q hq; simp; intro e; exact hn.1 (by rw [← e]; exact List.mem_map.2 ⟨q, hq, rfl⟩)
    | succ j =>
      simp at hl
      have hpa : p.1 ≠ a := fun e => hn.1 (by rw [e]; exact List.mem_map.2 ⟨_, List.mem_of_getElem? hl, rfl⟩)
      simp only [adel, List.filter_cons, List.eraseIdx_cons_succ]
      simp only [ne_eq, hpa, not_false_eq_true, decide_true, if_true]
      rw [← ih hn.2 hl]; rfl

theorem smap.del [DecidableEq κ] (h : smap w mk b l) (K : MK P kt mk) {t et : TypeId} (ht : P.underlying t = some (.map kt et)) (a : κ) (argTypes : Array TypeId) (ty : TypeId) (hat : argTypes[0]? = some t) :
    ∃ w', (Builtin.delete_ argTypes ty #[.map (some b), mk a]).run P w = .ok (.tuple #[]) w' ∧ smap w' mk b (adel l a) ∧ w.grownBy w' (some b) ∧ w'.heap.size = w.heap.size := by
  obtain ⟨es, c, hb, hs, he, hn⟩ := h
  rcases smap_find K he hn w a with ⟨h1, h2, h2'⟩ | ⟨j, e, u, h1, hj, hek, hl, h2⟩
  · refine ⟨setBlock w b (.map es c), ?_, ⟨_, _, heap_setBlock_same hb _, hs, ?_, nodup_adel hn a⟩, ⟨rfl, rfl, rfl, by simp [setBlock], fun i _ hi => heap_setBlock_other hb _ (fun e => hi (by rw [e]))⟩, by simp [setBlock]⟩
    · simp [Builtin.delete_, hat, run_underlying ht, MapKept.run_getObj_map hb, K.check, h1, MapKept.run_setObj_map _ hb, Result.andThen, setBlock]
    · rw [adel_of_none h2]; exact he
  · refine ⟨setBlock w b (.map (es.eraseIdxIfInBounds j) c), ?_, ⟨_, _, heap_setBlock_same hb _, stamped_erase hs j, ?_, nodup_adel hn a⟩, ⟨rfl, rfl, rfl, by simp [setBlock], fun i _ hi => heap_setBlock_other hb _ (fun e => hi (by rw [e]))⟩, by simp [setBlock]⟩
    · simp [Builtin.delete_, hat, run_underlying ht, MapKept.run_getObj_map hb, K.check, h1, MapKept.run_setObj_map _ hb, Result.andThen, setBlock]
    · rw [filter_of_get hn hl]
      have hlt : j < es.size := by have := (List.getElem?_eq_some_iff.1 hj).1; simpa using this
      unfold Array.eraseIdxIfInBounds
      rw [dif_pos hlt, Array.toList_eraseIdx]
      have em : ∀ {α β : Type} (f : α → β) (l : List α) (i : Nat), (l.eraseIdx i).map f = (l.map f).eraseIdx i := fun f l => by
        induction l with
        | nil => intro i; rfl
        | cons x l ih => intro i; cases i with
          | zero => rfl
          | succ i => simp [ih]
      rw [em, he, em]
end

/-! ### at the operation, for the walk -/
section
variable {κ : Type} [DecidableEq κ] {P : Program} {w : World} {ops : Array Oper} {rest : List Oper} {o : Oper} {a : Act} {Q : Exit → Act → World → Prop} {mk : κ → Value} {kt : TypeId}

theorem wp_look (hg : o.guard = none) (m x : Operand) (t : TypeId) (ok : Bool) (hop : o.op = Op.lookup t m x ok) (K : MK P kt mk) (et : TypeId) (ht : P.underlying t = some (.map kt et)) (z : Value) (hz : (zeroValue et).run P w = .ok z w) (b : Nat) (l : List (κ × Value))
    (hm : a.eval m = .map (some b)) (h : smap w mk b l) (k : κ) (hx : a.eval x = mk k)
    (hK : wpList P ops Q rest (a.put o.dst (if ok then .tuple #[(aget l k).getD z, .bool (aget l k).isSome] else (aget l k).getD z)) w) : wpList P ops Q (o :: rest) a w := by
  refine wpList_plain hg fun K' hK' => ?_
  have hrun := h.look K ht hz k ok
  unfold Oper.wp
  simp [execOp, hop, hm, hx, hrun, Result.andThen]
  exact hK' _ _ hK

theorem wp_upd (hg : o.guard = none) (m x v : Operand) (t : TypeId) (hop : o.op = Op.mapUpdate t m x v) (K : MK P kt mk) (et : TypeId) (ht : P.underlying t = some (.map kt et)) (b : Nat) (l : List (κ × Value))
    (hm : a.eval m = .map (some b)) (h : smap w mk b l) (k : κ) (hx : a.eval x = mk k) (val : Value) (hv : a.eval v = val)
    (hK : ∀ w', smap w' mk b (aput l k val) → w.grownBy w' (some b) → w'.heap.size = w.heap.size → wpList P ops Q rest (a.put o.dst undef) w') : wpList P ops Q (o :: rest) a w := by
  refine wpList_plain hg fun K' hK' => ?_
  obtain ⟨w', hrun, r1, r2, r3⟩ := h.upd K ht k val
  unfold Oper.wp
  simp [execOp, hop, hm, hx, hv, hrun, Result.andThen]
  exact hK' _ _ (hK w' r1 r2 r3)
end
end Go.Proofs.YtmallmnilihcdaaDoor
