/- What laws 8 and 14 name: files, users, secrets; rights stay right: plain law. (Taken out of the user's texts by tools/split.py.) Rights as bytes: plain law. rights: Put. rights: Take. slices.Sort of strings; meta.others. A region that draws its order: two may come up. -/
import Derived.Test.YtckblcfkajpofaaGreatDoorZA4
import Derived.Test.YtckblcfkajpofaaGreatDoorZB1
import Derived.Test.YtckblcfkajpofaaGreatDoorZB2
import Derived.Test.YtckblcfkajpofaaGreatDoorZA2
import Derived.Test.YtckblcfkajpofaaGreatDoorZA3
import Derived.Test.YtckblcfkajpofaaGreatDoorZA5
import Derived.Test.YtckblcfkajpofaaGreatDoorZA1
import Derived.Handy
import Derived.Test.YtckblcfkajpofaaGreatDoorLaySo
import Derived.Shelf.Sort.Plain
import Derived.Shelf.Slices.In.SortNone
namespace Go.Proofs.YtckblcfkajpofaaGreatDoor
open Go.RowKit Go.Sort
set_option linter.unusedVariables false
set_option linter.unusedSimpArgs false

theorem row9 {w : World} {b : Nat} {v0 v1 v2 v3 v4 v5 v6 v7 v8 : Value} {t : TypeId} (h : w.heap[b]? = some (.cells #[v0, v1, v2, v3, v4, v5, v6, v7, v8] t (0, 0))) : w.cell? ⟨b, 0, none⟩ = some v0 ∧ w.cell? ⟨b, 1, none⟩ = some v1 ∧ w.cell? ⟨b, 2, none⟩ = some v2 ∧ w.cell? ⟨b, 3, none⟩ = some v3 ∧ w.cell? ⟨b, 4, none⟩ = some v4 ∧ w.cell? ⟨b, 5, none⟩ = some v5 ∧ w.cell? ⟨b, 6, none⟩ = some v6 ∧ w.cell? ⟨b, 7, none⟩ = some v7 ∧ w.cell? ⟨b, 8, none⟩ = some v8 := by
  refine ⟨?_, ?_, ?_, ?_, ?_, ?_, ?_, ?_, ?_⟩ <;> (rw [cell_of_row _ _ _ _ _ _ h]; rfl)
theorem strV_made (n : Nat) : madeCells #[Value.string ⟨#[]⟩] n = (strV (List.replicate n ⟨#[]⟩)).toArray := by
  apply Array.toList_inj.1
  simp only [madeCells, strV, Array.toList_ofFn, List.map_replicate]
  apply List.ext_getElem
  · simp
  · intro i h1 h2
    simp [Nat.mod_one]
theorem owns_full {w : World} {B g : Nat} {l : List ByteArray} (hg : w.heap[g]? = some (.cells (strV l).toArray 9 (0, 0))) (hB : B ≤ g) (hl : l.length ≤ 1000000) : w.ownsRow B 9 1 (.slice (some ⟨g, 0, none⟩) l.length l.length) l.length (strV l) :=
  ⟨by simp [strV], Or.inr ⟨g, l.length, _, rfl, hB, hg, Nat.le_refl _, by unfold maxLen; omega, by simp [strV], by rw [Nat.mul_one]; exact List.take_of_length_le (by simp [strV])⟩⟩
theorem own_lower {w : World} {B B' : Nat} {e : TypeId} {z n : Nat} {v : Value} {xs : List Value} (h : w.ownsRow B e z v n xs) (hb : B' ≤ B) : w.ownsRow B' e z v n xs := by
  obtain ⟨h1, h2⟩ := h
  refine ⟨h1, ?_⟩
  rcases h2 with h2 | ⟨g, cap, cur, h3, h4, h5⟩
  · exact Or.inl h2
  · exact Or.inr ⟨g, cap, cur, h3, Nat.le_trans hb h4, h5⟩
theorem own_ne_type {w : World} {base : Nat} {e t : TypeId} {z n : Nat} {v : Value} {xs : List Value} {Z : Nat} {cur : Array Value} (h : w.ownsRow base e z v n xs) (hz : w.heap[Z]? = some (.cells cur t (0, 0))) (ht : e ≠ t) {g : Nat} (hg : v.ownBlock = some g) : g ≠ Z := by
  rintro rfl
  rcases h.2 with ⟨rfl, _⟩ | ⟨g', cap, cur', rfl, _, hb, _⟩
  · cases hg
  · cases hg
    rw [hb] at hz; simp at hz; exact ht hz.2
def exS : Except Int (List UInt8) → List UInt8
  | .error _ => []
  | .ok t => t
theorem exV_L (r : Except Int (List UInt8)) : ∃ n : Int, exV r = .tuple #[.string (mkB (exS r)), .int .i64 n] := by
  cases r with
  | error e => exact ⟨e, rfl⟩
  | ok t => exact ⟨0, rfl⟩
def secT (use who : ByteArray) (n : Nat) : ByteArray := mkB (exS (secretT (toL use) (toL who) n))
def pubT (s : ByteArray) : ByteArray := mkB (exS (ofOne 117 (toL s)))
theorem exS_len {r : Except Int (List UInt8)} (h : ∀ t, r = .ok t → rightT t = true) : (exS r).length ≤ 4000 := by
  cases r with
  | error e => exact Nat.zero_le _
  | ok t => exact right_len (h t rfl)
theorem ofOne_ok2 {k : UInt8} {a t : List UInt8} (h : ofOne k a = .ok t) : t = k :: a ∧ rightT t = true ∧ rightT a = true := by
  unfold ofOne at h; split at h
  · rename_i hr; obtain ⟨rfl, h2⟩ := made_ok h; exact ⟨rfl, h2, hr⟩
  · cases h
theorem secretT_ok {u s t : List UInt8} {n : Nat} (h : secretT u s n = .ok t) : rightT t = true := by
  unfold secretT at h
  split at h
  · cases h
  · split at h
    · cases h
    · exact (ofOne_ok2 h).2.1
theorem secT_size (use who : ByteArray) (n : Nat) : (secT use who n).size ≤ 4000 := by
  unfold secT; rw [mkB_size]; exact exS_len fun t h => secretT_ok h
theorem pubT_size (s : ByteArray) : (pubT s).size ≤ 4000 := by
  unfold pubT; rw [mkB_size]; exact exS_len fun t h => (ofOne_ok2 h).2.1
def secTm (use who : List UInt8) (n : Nat) : Tm := .one 104 (.two 112 (.text (use ++ 58 :: who)) (.atom n))
theorem secTm_len {use who : List UInt8} {n : Nat} (h : use.length + who.length ≤ 1000) (hn : n < 18446744073709551616) : (secTm use who n).enc.length ≤ 2000 := by
  have h1 := wput_len_le hn
  have h2 := wput_len_le (n := (use ++ 58 :: who).length) (by simp; omega)
  simp only [secTm, Tm.enc, wtext, List.length_cons, List.length_append] at *
  omega
theorem secTm_wf {use who : List UInt8} {n : Nat} (h : use.length + who.length ≤ 1000) (hn : n < 18446744073709551616) : (secTm use who n).wf 40 :=
  ⟨rfl, rfl, (by show (use ++ 58 :: who).length ≤ 4000; simp; omega), hn, fun e => absurd e (by decide)⟩
theorem secretT_eq {use who : List UInt8} {n : Nat} (h : use.length + who.length ≤ 1000) (hn : n < 18446744073709551616) : secretT use who n = .ok (secTm use who n).enc := by
  have hl := secTm_len h hn
  have hw := secTm_wf h hn
  have hl2 : (116 :: wtext (use ++ 58 :: who)).length + (ofAtom n).length ≤ 1900 := by
    have h1 := wput_len_le hn
    have h2 := wput_len_le (n := (use ++ 58 :: who).length) (by simp; omega)
    simp only [ofAtom, wtext, List.length_cons, List.length_append] at *
    omega
  have ht : ofText (use ++ 58 :: who) = .ok (116 :: wtext (use ++ 58 :: who)) := by
    unfold ofText; rw [if_neg (by omega)]
  have r1 : rightT (116 :: wtext (use ++ 58 :: who)) = true := right_text (by omega)
  have r2 : rightT (ofAtom n) = true := right_atom hn
  have r3 : rightT (112 :: ((116 :: wtext (use ++ 58 :: who)) ++ ofAtom n)) = true := rightT_iff.2 ⟨.two 112 (.text (use ++ 58 :: who)) (.atom n), rfl, Tm.wf_mono (d := 39) hw.2 (by omega), by rw [List.length_cons, List.length_append]; omega⟩
  have r4 : rightT (104 :: (112 :: ((116 :: wtext (use ++ 58 :: who)) ++ ofAtom n))) = true := rightT_iff.2 ⟨secTm use who n, rfl, hw, by rw [List.length_cons, List.length_cons, List.length_append]; omega⟩
  unfold secretT
  rw [ht]
  simp only
  unfold ofTwo
  rw [r1, r2, if_pos (show (true && true) = true from rfl)]
  unfold made
  rw [if_pos r3]
  simp only
  unfold ofOne made
  rw [if_pos r3, if_pos r4]
  rfl
theorem mem_insB {x u : ByteArray} {l : List ByteArray} : x ∈ insB l u ↔ x = u ∨ x ∈ l := by
  unfold insB
  rw [List.mem_append, List.mem_cons]
  constructor
  · rintro (h | h | h)
    · exact Or.inr (List.mem_of_mem_take h)
    · exact Or.inl h
    · exact Or.inr (List.mem_of_mem_drop h)
  · rintro (h | h)
    · exact Or.inr (Or.inl h)
    · have h2 := h
      rw [← List.take_append_drop (posB l u) l, List.mem_append] at h2
      rcases h2 with h2 | h2
      · exact Or.inl h2
      · exact Or.inr (Or.inr h2)
theorem insB_length (l : List ByteArray) (u : ByteArray) : (insB l u).length = l.length + 1 := by
  unfold insB
  have := pos_le l u
  rw [List.length_append, List.length_cons, List.length_take, List.length_drop]; omega
theorem insB_rising {l : List ByteArray} {u : ByteArray} (h : Rising l) (hu : u ∉ l) : Rising (insB l u) := by
  unfold Rising insB at *
  have hb : ∀ y ∈ l.take (posB l u), bLt y u = true := fun y hy => by
    obtain ⟨t, ht⟩ := List.getElem?_of_mem hy
    rw [List.getElem?_take] at ht
    split at ht
    · rename_i hlt; exact pos_less hlt ht
    · cases ht
  have ha : ∀ y ∈ l.drop (posB l u), bLt u y = true := fun y hy => by
    obtain ⟨t, ht⟩ := List.getElem?_of_mem hy
    rw [List.getElem?_drop] at ht
    have h1 := pos_not (h : Rising l) (Nat.le_add_right _ _) ht
    cases h2 : bLt u y with
    | true => rfl
    | false => exact absurd (bLt_antisymm h1 h2 ▸ List.mem_of_getElem? ht) hu
  rw [← List.take_append_drop (posB l u) l, List.pairwise_append] at h
  rw [List.pairwise_append, List.pairwise_cons]
  refine ⟨h.1, ⟨ha, h.2.1⟩, fun x hx y hy => ?_⟩
  rcases List.mem_cons.1 hy with rfl | hy
  · exact hb x hx
  · exact h.2.2 x hx y hy
theorem filter_rising {l : List ByteArray} (h : Rising l) (p : ByteArray → Bool) : Rising (l.filter p) := List.Pairwise.filter p h
theorem Rt.right_iff {r : Rt} : r.right = true ↔ (nameR r.owner = true ∧ nameR r.file = true ∧ 0 ≤ r.epoch ∧ r.epoch < 8 ∧ r.rd.length + r.wr.length ≤ 5 ∧ Rising r.rd ∧ Rising r.wr) ∧ ∀ s ∈ r.rd ++ r.wr, nameR s = true ∧ s ≠ r.owner ∧ ¬ (s ∈ r.rd ∧ s ∈ r.wr) := by
  unfold Rt.right Rt.head Rt.fits risesB
  simp only [Bool.and_eq_true, decide_eq_true_eq, List.all_eq_true, Bool.not_eq_true', decide_eq_false_iff_not, Bool.and_eq_false_iff]
  constructor
  · rintro ⟨⟨⟨⟨⟨⟨⟨a, b⟩, c⟩, d⟩, e⟩, f⟩, g⟩, h⟩
    refine ⟨⟨a, b, c, d, e, f, g⟩, fun s hs => ?_⟩
    obtain ⟨⟨h1, h2⟩, h3⟩ := h s hs
    refine ⟨h1, h2, fun hm => ?_⟩
    rcases h3 with h3 | h3
    · rw [memB_iff.2 hm.1] at h3; cases h3
    · rw [memB_iff.2 hm.2] at h3; cases h3
  · rintro ⟨⟨a, b, c, d, e, f, g⟩, h⟩
    refine ⟨⟨⟨⟨⟨⟨⟨a, b⟩, c⟩, d⟩, e⟩, f⟩, g⟩, fun s hs => ?_⟩
    obtain ⟨h1, h2, h3⟩ := h s hs
    refine ⟨⟨h1, h2⟩, ?_⟩
    by_cases hm : s ∈ r.rd
    · refine Or.inr ?_
      cases hq : memB s r.wr with
      | false => rfl
      | true => exact absurd ⟨hm, memB_iff.1 hq⟩ h3
    · refine Or.inl ?_
      cases hq : memB s r.rd with
      | false => rfl
      | true => exact absurd (memB_iff.1 hq) hm
theorem Rt.asked_zero {r : Rt} {u : ByteArray} (h : r.asked u = 0) : r.right = true ∧ nameR u = true := by
  unfold Rt.asked at h
  cases hr : r.right with
  | false => rw [hr, if_pos rfl] at h; omega
  | true =>
    rw [hr] at h
    cases hn : nameR u with
    | false => rw [hn] at h; simp at h
    | true => exact ⟨rfl, rfl⟩
theorem Rt.asked_nn (r : Rt) (u : ByteArray) : 0 ≤ r.asked u := by unfold Rt.asked; split; omega; split <;> omega
theorem Rt.other_iff {r : Rt} {u : ByteArray} : r.other u = true ↔ u ∈ r.rd ∨ u ∈ r.wr := by
  unfold Rt.other; rw [Bool.or_eq_true, memB_iff, memB_iff]
theorem Rt.grant_ok {r : Rt} {u : ByteArray} {wt : Bool} (h : (r.grant u wt).2 = 0) : (r.grant u wt).1.right = true ∧ (r.grant u wt).1.owner = r.owner ∧ (r.grant u wt).1.file = r.file ∧ (r.grant u wt).1.epoch = r.epoch := by
  unfold Rt.grant at h ⊢
  by_cases h1 : r.asked u ≠ 0
  · rw [if_pos h1] at h; exact absurd h h1
  rw [if_neg h1] at h ⊢
  obtain ⟨hr, hn⟩ := Rt.asked_zero (by simpa using h1)
  by_cases h2 : u = r.owner ∨ r.other u = true
  · rw [if_pos h2] at h; simp at h
  rw [if_neg h2] at h ⊢
  by_cases h3 : 5 ≤ r.rd.length + r.wr.length
  · rw [if_pos h3] at h; simp at h
  rw [if_neg h3]
  obtain ⟨⟨a, b, c, d, e, f, g⟩, hall⟩ := Rt.right_iff.1 hr
  have hno : u ≠ r.owner := fun e => h2 (Or.inl e)
  have hnr : u ∉ r.rd := fun e => h2 (Or.inr (Rt.other_iff.2 (Or.inl e)))
  have hnw : u ∉ r.wr := fun e => h2 (Or.inr (Rt.other_iff.2 (Or.inr e)))
  cases wt with
  | true =>
    refine ⟨Rt.right_iff.2 ⟨⟨a, b, c, d, ?_, f, insB_rising g hnw⟩, fun s hs => ?_⟩, rfl, rfl, rfl⟩
    · show r.rd.length + (insB r.wr u).length ≤ 5; rw [insB_length]; omega
    · have hs' : s ∈ r.rd ∨ s = u ∨ s ∈ r.wr := by
        rcases List.mem_append.1 hs with hs | hs
        · exact Or.inl hs
        · exact Or.inr (mem_insB.1 hs)
      by_cases hsu : s = u
      · subst hsu; exact ⟨hn, hno, fun hm => hnr hm.1⟩
      · have hin : s ∈ r.rd ++ r.wr := by
          rcases hs' with hs' | hs' | hs'
          · exact List.mem_append_left _ hs'
          · exact absurd hs' hsu
          · exact List.mem_append_right _ hs'
        obtain ⟨q1, q2, q3⟩ := hall s hin
        exact ⟨q1, q2, fun hm => q3 ⟨hm.1, (mem_insB.1 hm.2).resolve_left hsu⟩⟩
  | false =>
    refine ⟨Rt.right_iff.2 ⟨⟨a, b, c, d, ?_, insB_rising f hnr, g⟩, fun s hs => ?_⟩, rfl, rfl, rfl⟩
    · show (insB r.rd u).length + r.wr.length ≤ 5; rw [insB_length]; omega
    · have hs' : (s = u ∨ s ∈ r.rd) ∨ s ∈ r.wr := by
        rcases List.mem_append.1 hs with hs | hs
        · exact Or.inl (mem_insB.1 hs)
        · exact Or.inr hs
      by_cases hsu : s = u
      · subst hsu; exact ⟨hn, hno, fun hm => hnw hm.2⟩
      · have hin : s ∈ r.rd ++ r.wr := by
          rcases hs' with (hs' | hs') | hs'
          · exact absurd hs' hsu
          · exact List.mem_append_left _ hs'
          · exact List.mem_append_right _ hs'
        obtain ⟨q1, q2, q3⟩ := hall s hin
        exact ⟨q1, q2, fun hm => q3 ⟨(mem_insB.1 hm.1).resolve_left hsu, hm.2⟩⟩
theorem Rt.revoke_ok {r : Rt} {u : ByteArray} (h : (r.revoke u).2 = 0) : (r.revoke u).1.right = true ∧ (r.revoke u).1.owner = r.owner ∧ (r.revoke u).1.file = r.file ∧ (r.revoke u).1.epoch = r.epoch + 1 := by
  unfold Rt.revoke at h ⊢
  by_cases h1 : r.asked u ≠ 0
  · rw [if_pos h1] at h; exact absurd h h1
  rw [if_neg h1] at h ⊢
  obtain ⟨hr, hn⟩ := Rt.asked_zero (by simpa using h1)
  by_cases h2 : r.other u = false
  · rw [if_pos h2] at h; simp at h
  rw [if_neg h2] at h ⊢
  by_cases h3 : r.epoch = 7
  · rw [if_pos h3] at h; simp at h
  rw [if_neg h3]
  obtain ⟨⟨a, b, c, d, e, f, g⟩, hall⟩ := Rt.right_iff.1 hr
  refine ⟨Rt.right_iff.2 ⟨⟨a, b, ?_, ?_, ?_, filter_rising f _, filter_rising g _⟩, fun s hs => ?_⟩, rfl, rfl, rfl⟩
  · show 0 ≤ r.epoch + 1; omega
  · show r.epoch + 1 < 8; omega
  · have h1 := List.length_filter_le (fun x => !decide (x = u)) r.rd
    have h2 := List.length_filter_le (fun x => !decide (x = u)) r.wr
    show (r.rd.filter fun x => !decide (x = u)).length + (r.wr.filter fun x => !decide (x = u)).length ≤ 5
    omega
  · have hin : s ∈ r.rd ++ r.wr := by
      rcases List.mem_append.1 hs with hs | hs
      · exact List.mem_append_left _ (List.mem_filter.1 hs).1
      · exact List.mem_append_right _ (List.mem_filter.1 hs).1
    obtain ⟨q1, q2, q3⟩ := hall s hin
    exact ⟨q1, q2, fun hm => q3 ⟨(List.mem_filter.1 hm.1).1, (List.mem_filter.1 hm.2).1⟩⟩
abbrev annaB : ByteArray := ⟨#[97, 110, 110, 97]⟩
abbrev notesB : ByteArray := ⟨#[110, 111, 116, 101, 115]⟩
theorem name_anna : nameR annaB = true := by kernel_rfl
theorem name_notes : nameR notesB = true := by kernel_rfl
theorem right_new {o f : ByteArray} (ho : nameR o = true) (hf : nameR f = true) : (⟨o, f, 0, [], []⟩ : Rt).right = true := by
  unfold Rt.right Rt.head
  simp [ho, hf, risesB, Rising]
abbrev rootU : ByteArray := ⟨#[114, 111, 111, 116]⟩
abbrev signU : ByteArray := ⟨#[115, 105, 103, 110]⟩
def pickZ (c n : Int) : Int := if c < 0 then (-(c + 1)) % n else c % n
theorem pickZ_lt (c : Int) {n : Int} (h : 1 ≤ n) : 0 ≤ pickZ c n ∧ pickZ c n < n := by
  unfold pickZ; split <;> exact ⟨Int.emod_nonneg _ (by omega), Int.emod_lt_of_pos _ (by omega)⟩
def whoList : List ByteArray := [⟨#[97, 110, 110, 97]⟩, ⟨#[98, 101, 110]⟩, ⟨#[99, 121]⟩, ⟨#[100, 111, 114, 97]⟩, ⟨#[101, 109, 105, 108]⟩, ⟨#[195, 164, 109, 105, 108]⟩, ⟨#[102, 97, 45, 49]⟩, ⟨#[103]⟩]
def whoB (c : Int) : ByteArray := whoList.getD (pickZ c 8).toNat ByteArray.empty
theorem whoB_size (c : Int) : (whoB c).size ≤ 5 := by
  have hp := pickZ_lt c (n := 8) (by omega)
  unfold whoB
  generalize pickZ c 8 = p at hp
  have hc : p = 0 ∨ p = 1 ∨ p = 2 ∨ p = 3 ∨ p = 4 ∨ p = 5 ∨ p = 6 ∨ p = 7 := by omega
  rcases hc with rfl | rfl | rfl | rfl | rfl | rfl | rfl | rfl <;> decide
end Go.Proofs.YtckblcfkajpofaaGreatDoor
namespace Go.Proofs.YtckblcfkajpofaaGreatDoor
open Go.Lib
set_option linter.unusedVariables false
set_option linter.unusedSimpArgs false

theorem decodeL_width4 (l : List UInt8) : (decodeL l).2 ≤ 4 := by
  rw [decodeL_N]
  unfold decodeN
  repeat' split
  all_goals simp
theorem letters_size : ∀ (n : Nat) (l : List UInt8), l.length ≤ n → ∀ c, letters l = some c → l.length ≤ 4 * c
  | 0, l, h, c, _ => by omega
  | n + 1, l, h, c, hc => by
    by_cases hl : l = []
    · subst hl; simp
    · have h0 : 0 < l.length := List.length_pos_iff.2 hl
      have hw := decodeL_width l
      have hw4 := decodeL_width4 l
      rw [letters_step l hl] at hc
      split at hc
      · cases hr : letters (l.drop (decodeL l).2) with
        | none => rw [hr] at hc; cases hc
        | some d =>
          rw [hr] at hc
          simp at hc
          have := letters_size n _ (by rw [List.length_drop]; omega) d hr
          rw [List.length_drop] at this
          omega
      · cases hc
theorem nameR_size {s : ByteArray} (h : nameR s = true) : s.size ≤ 128 := by
  unfold nameR at h
  cases hl : letters s.data.toList with
  | none => rw [hl] at h; cases h
  | some n =>
    rw [hl] at h
    simp at h
    have := letters_size _ _ (Nat.le_refl _) n hl
    have h2 := list_size s
    omega
theorem nameR_pos {s : ByteArray} (h : nameR s = true) : s ≠ ⟨#[]⟩ := by
  rintro rfl
  have : nameR ⟨#[]⟩ = false := by decide +kernel
  rw [this] at h; cases h

/-! ### rows of texts have one form -/
theorem wtext_len_le {t : List UInt8} (h : t.length < 18446744073709551616) : (wtext t).length ≤ 9 + t.length := by
  unfold wtext; rw [List.length_append]; have := wput_len_le h; omega
theorem flat_len_le (l : List (List UInt8)) (B : Nat) (hB : B < 1000000000000) (h : ∀ t ∈ l, t.length ≤ B) : (l.flatMap wtext).length ≤ l.length * (9 + B) := by
  induction l with
  | nil => simp
  | cons t l ih =>
    rw [List.flatMap_cons, List.length_append, List.length_cons, Nat.succ_mul]
    have h1 := wtext_len_le (t := t) (by have := h t List.mem_cons_self; omega)
    have h2 := h t List.mem_cons_self
    have := ih fun u hu => h u (List.mem_cons_of_mem _ hu)
    omega
theorem wall_len_le (l : List (List UInt8)) (B : Nat) (hB : B < 1000000000000) (hl : l.length < 1000000000000) (h : ∀ t ∈ l, t.length ≤ B) : (wall l).length ≤ 9 + l.length * (9 + B) := by
  unfold wall; rw [List.length_append]
  have := wput_len_le (n := l.length) (by omega)
  have := flat_len_le l B hB h
  omega
theorem wall_item_le {l : List (List UInt8)} {t : List UInt8} (h : t ∈ l) : t.length ≤ (wall l).length := by
  unfold wall
  rw [List.length_append]
  have : (wtext t).length ≤ (l.flatMap wtext).length := by
    obtain ⟨a, b, rfl⟩ := List.append_of_mem h
    simp
    omega
  have h2 : t.length ≤ (wtext t).length := by unfold wtext; rw [List.length_append]; omega
  omega
theorem wall_inj {l m : List (List UInt8)} (h : wall l = wall m) (hl : (wall l).length < 1000000000000) : l = m := by
  have h1 : ∀ t ∈ l, t.length < 1000000000000 := fun t ht => Nat.lt_of_le_of_lt (wall_item_le ht) hl
  have h2 : ∀ t ∈ m, t.length < 1000000000000 := fun t ht => Nat.lt_of_le_of_lt (wall_item_le ht) (by rw [← h]; exact hl)
  have g : ∀ k : List (List UInt8), k.length ≤ (wall k).length := fun k => by
    unfold wall; rw [List.length_append]; have := flat_wtext_len k; omega
  have g1 := g l
  have g2 := g m
  rw [← h] at g2
  have e1 := wtakeAll_put (l := l) (many := 1000000000000) (most := 1000000000000) (by omega) (by omega) (fun t ht => by have := h1 t ht; omega)
  have e2 := wtakeAll_put (l := m) (many := 1000000000000) (most := 1000000000000) (by omega) (by omega) (fun t ht => by have := h2 t ht; omega)
  rw [h, e2] at e1
  cases e1; rfl
theorem toL_inj {a b : ByteArray} (h : toL a = toL b) : a = b := by rw [← list_mkB a, ← list_mkB b]; exact congrArg mkB h
theorem map_toL_inj {l m : List ByteArray} (h : l.map toL = m.map toL) : l = m := by
  have : (l.map toL).map mkB = (m.map toL).map mkB := by rw [h]
  simpa [Function.comp_def, list_mkB] using this
theorem wput_inj {a b : Nat} (h : wput a = wput b) (ha : a < 18446744073709551616) (hb : b < 18446744073709551616) : a = b := by
  have h1 := wtake_put ha []
  have h2 := wtake_put hb []
  rw [h] at h1
  rw [h1] at h2
  cases h2; rfl

/-! ### rights as bytes -/
def putR (r : Rt) : List UInt8 := wall [toL r.owner, toL r.file, wput r.epoch.toNat, wall (r.rd.map toL), wall (r.wr.map toL)]
structure Rt.good (r : Rt) : Prop where
  owner : r.owner.size ≤ 128
  file : r.file.size ≤ 128
  lo : 0 ≤ r.epoch
  hi : r.epoch ≤ 7
  rd : ∀ s ∈ r.rd, s.size ≤ 128
  wr : ∀ s ∈ r.wr, s.size ≤ 128
  len : r.rd.length + r.wr.length ≤ 5
theorem Rt.right_good {r : Rt} (h : r.right = true) : r.good := by
  obtain ⟨_, _, h3, h4, h5, h6, h7⟩ := Rt.right_head h
  unfold Rt.right at h
  rw [Bool.and_eq_true] at h
  have hall := List.all_eq_true.1 h.2
  have hn : ∀ s ∈ r.rd ++ r.wr, s.size ≤ 128 := fun s hs => by
    have := hall s hs
    unfold Rt.fits at this
    rw [Bool.and_eq_true, Bool.and_eq_true] at this
    exact nameR_size this.1.1
  exact ⟨nameR_size h6, nameR_size h7, h4, by omega, fun s hs => hn s (List.mem_append_left _ hs), fun s hs => hn s (List.mem_append_right _ hs), h3⟩
theorem Rt.good.wf {r : Rt} (h : r.good) : r.wf := by
  refine ⟨by have := h.owner; omega, by have := h.file; omega, by have := h.lo; omega, by have := h.hi; omega, fun s hs => ?_, by have := h.len; omega⟩
  rcases List.mem_append.1 hs with hs | hs
  · have := h.rd s hs; omega
  · have := h.wr s hs; omega
theorem names_wall {l : List ByteArray} (h : ∀ s ∈ l, s.size ≤ 128) (hl : l.length ≤ 5) : (wall (l.map toL)).length ≤ 694 := by
  have := wall_len_le (l.map toL) 128 (by omega) (by rw [List.length_map]; omega) (fun t ht => by
    obtain ⟨s, hs, rfl⟩ := List.mem_map.1 ht
    have := h s hs
    have h2 : (toL s).length = s.size := list_size s
    omega)
  rw [List.length_map] at this
  have h3 : l.length * (9 + 128) ≤ 5 * (9 + 128) := Nat.mul_le_mul_right _ hl
  omega
theorem Rt.good.parts {r : Rt} (h : r.good) : ∀ t ∈ [toL r.owner, toL r.file, wput r.epoch.toNat, wall (r.rd.map toL), wall (r.wr.map toL)], t.length ≤ 694 := by
  intro t ht
  simp only [List.mem_cons, List.not_mem_nil, or_false] at ht
  have h1 : (toL r.owner).length = r.owner.size := list_size _
  have h2 : (toL r.file).length = r.file.size := list_size _
  have h3 := wput_len_le (n := r.epoch.toNat) (by have := h.hi; omega)
  have h4 := names_wall h.rd (by have := h.len; omega)
  have h5 := names_wall h.wr (by have := h.len; omega)
  have := h.owner
  have := h.file
  rcases ht with rfl | rfl | rfl | rfl | rfl <;> omega
theorem Rt.good.size {r : Rt} (h : r.good) : (putR r).length ≤ 3524 := by
  have := wall_len_le _ 694 (by omega) (by simp) h.parts
  unfold putR
  simpa using this
theorem putR_inj {r q : Rt} (h : putR r = putR q) (hr : r.good) (hq : q.good) : r = q := by
  have h1 := wall_inj h (by have := hr.size; unfold putR at this; omega)
  simp only [List.cons.injEq, and_true] at h1
  obtain ⟨e1, e2, e3, e4, e5⟩ := h1
  have e3' := wput_inj e3 (by have := hr.hi; omega) (by have := hq.hi; omega)
  have e4' := wall_inj e4 (by have := names_wall hr.rd (by have := hr.len; omega); omega)
  have e5' := wall_inj e5 (by have := names_wall hr.wr (by have := hr.len; omega); omega)
  cases r; cases q
  have := hr.lo
  have := hq.lo
  simp only [Rt.mk.injEq]
  dsimp only at *
  exact ⟨toL_inj e1, toL_inj e2, by omega, map_toL_inj e4', map_toL_inj e5'⟩
end Go.Proofs.YtckblcfkajpofaaGreatDoor
namespace Go.Proofs.YtckblcfkajpofaaGreatDoor
open Go.RowKit
set_option linter.unusedVariables false
set_option linter.unusedSimpArgs false

abbrev agR (r : Rt) (vr vw : Value) : Value := .agg #[.string r.owner, .string r.file, .int .i64 r.epoch, vr, vw]
theorem RtAt.cells5 {w w' : World} {b : Nat} {r : Rt} {vr vw : Value} (h : RtAt w w' b r vr vw) :
    w'.cell? ⟨b, 0, none⟩ = some (.string r.owner) ∧ w'.cell? ⟨b, 1, none⟩ = some (.string r.file) ∧ w'.cell? ⟨b, 2, none⟩ = some (.int .i64 r.epoch) ∧ w'.cell? ⟨b, 3, none⟩ = some vr ∧ w'.cell? ⟨b, 4, none⟩ = some vw := by
  refine ⟨?_, ?_, ?_, ?_, ?_⟩ <;> (rw [cell_of_row _ _ _ _ _ _ h.row]; rfl)
theorem RtAt.drew {w w' : World} {b : Nat} {r : Rt} {vr vw : Value} (h : RtAt w w' b r vr vw) : RtAt w w'.drew b r vr vw := h.next (Below.refl _ _).drew
theorem RtAt.alloc {w w' : World} {b : Nat} {r : Rt} {vr vw : Value} (h : RtAt w w' b r vr vw) (o : Obj) : RtAt w (w'.alloc o) b r vr vw := h.next ((Below.refl _ _).alloc (Nat.le_refl _) o)
def putRV (r : Rt) : Value := if r.right then .tuple #[.string (mkB (putR r)), .int .i64 0] else .tuple #[.string ⟨#[]⟩, .int .i64 1]
theorem putR_list (r : Rt) : wall ([r.owner, r.file, mkB (wput r.epoch.toNat), mkB (wall (r.rd.map toL)), mkB (wall (r.wr.map toL))].map toL) = putR r := by
  unfold putR; simp [mkB_list]
set_option maxRecDepth 100000 in
set_option maxHeartbeats 4000000 in
theorem rput_calls (w : World) (r : Rt) (vr vw : Value) (hl : Lists w r vr vw) (hT : Tabs w) (hw : r.wf) :
    Calls Tryz.prog 249 #[agR r vr vw] w fun e w' => e = .returned (putRV r) ∧ Below w.heap.size w w' := by
  have HX := Lib.hid (rt_box hl hT)
  obtain ⟨A, ca, rfl, a1, a2, _⟩ := hl.rd
  obtain ⟨C, cb, rfl, b1, b2, _⟩ := hl.wr
  have hc5 := HX.out.cells5
  obtain ⟨c0, c1, c2, c3, c4⟩ := hc5
  have hR := fun w' (h : RtAt w w' w.heap.size r (.slice A r.rd.length ca) (.slice C r.wr.length cb)) => rright_calls w' r _ _ h.lists h.tabs hw
  have HR := Lib.hid hR
  obtain ⟨ow, fi, ep, rd, wr'⟩ := r
  dsimp only [rtCells, agR] at c0 c1 c2 c3 c4 HX HR ⊢
  clear hl hT hR
  cases hr : Rt.right ⟨ow, fi, ep, rd, wr'⟩ with
  | false =>
    have HV : Hid (putRV ⟨ow, fi, ep, rd, wr'⟩ = .tuple #[.string ⟨#[]⟩, .int .i64 1]) := Lib.hid (by unfold putRV; rw [hr]; rfl)
    rw [hr] at HR
    clear hr
    go_enter Tryz.func249, Tryz.ntmps249
    go_wp2_with fail
    refine (HR.out _ HX.out).mono ?_
    rintro e w1 ⟨rfl, hb⟩
    have X1 := Lib.hid (HX.out.next hb)
    clear hb
    go_wp2_with fail
    go_ret2
    exact ⟨by rw [HV.out]; rfl, X1.out.below⟩
  | true =>
    have HV : Hid (putRV ⟨ow, fi, ep, rd, wr'⟩ = .tuple #[.string (mkB (putR ⟨ow, fi, ep, rd, wr'⟩)), .int .i64 0]) := Lib.hid (by unfold putRV; rw [hr]; rfl)
    have hg := Rt.right_good hr
    have hep0 : 0 ≤ ep := hg.lo
    have hep7 : ep ≤ 7 := hg.hi
    obtain ⟨m, rfl⟩ : ∃ m : Nat, ep = m := ⟨ep.toNat, by omega⟩
    have HG := Lib.hid hg
    have H1 := Lib.hid (fun w => wput_calls m w (by omega))
    have hlen1 := names_wall hg.rd (by have := hg.len; dsimp only at this ⊢; omega)
    have hlen2 := names_wall hg.wr (by have := hg.len; dsimp only at this ⊢; omega)
    dsimp only at hlen1 hlen2
    have hn1 : rd.length ≤ 5 := by have := hg.len; dsimp only at this; omega
    have hn2 : wr'.length ≤ 5 := by have := hg.len; dsimp only at this; omega
    have H2 := Lib.hid (fun w' (h : RtAt w w' w.heap.size ⟨ow, fi, (m : Int), rd, wr'⟩ (.slice A rd.length ca) (.slice C wr'.length cb)) => putall_calls w' _ rd h.lists.rd (by omega) (by omega))
    have H3 := Lib.hid (fun w' (h : RtAt w w' w.heap.size ⟨ow, fi, (m : Int), rd, wr'⟩ (.slice A rd.length ca) (.slice C wr'.length cb)) => putall_calls w' _ wr' h.lists.wr (by omega) (by omega))
    have hPL := putR_list ⟨ow, fi, (m : Int), rd, wr'⟩
    have hPS := hg.size
    simp only [Int.toNat_natCast] at hPL
    have H4 := Lib.hid (fun w' => putall_calls _ _ _ (strs_lit w' 9 [ow, fi, mkB (wput m), mkB (wall (rd.map toL)), mkB (wall (wr'.map toL))] (by simp)) (by simp) (by rw [hPL]; omega))
    simp only [hPL] at H4
    rw [hr] at HR
    obtain ⟨E, hE⟩ : ∃ E, mkB (wput m) = E := ⟨_, rfl⟩
    obtain ⟨F, hF⟩ : ∃ F, mkB (wall (rd.map toL)) = F := ⟨_, rfl⟩
    obtain ⟨L, hL⟩ : ∃ L, mkB (wall (wr'.map toL)) = L := ⟨_, rfl⟩
    simp only [hE] at H1 H4
    simp only [hF] at H2 H4
    simp only [hL] at H3 H4
    clear hr hg hlen1 hlen2 hPL hPS hE hF hL
    go_enter Tryz.func249, Tryz.ntmps249
    go_wp2_with fail
    refine (HR.out _ HX.out).mono ?_
    rintro e w1 ⟨rfl, hb⟩
    have X1 := Lib.hid (HX.out.next hb)
    clear hb c0 c1 c2 c3 c4
    go_wp2_with fail
    refine wp_region_G (fun w' => w'.cell? ⟨w.heap.size, 0, none⟩ = some (.string ow) ∧ w'.cell? ⟨w.heap.size, 1, none⟩ = some (.string fi) ∧ w'.cell? ⟨w.heap.size, 2, none⟩ = some (.int .i64 m) ∧ w'.cell? ⟨w.heap.size, 3, none⟩ = some (.slice A rd.length ca) ∧ w'.cell? ⟨w.heap.size, 4, none⟩ = some (.slice C wr'.length cb)) [17] (by kernel_rfl) ?_
    have hS := X1.out.drew.cells5
    have hwm : IntKind.u64.wrap (m : Int) = (m : Int) := by rw [IntKind.wrap_u64]; omega
    refine wpAnyG_pure (i := 0) (v := ?va0) at0 (by kernel_rfl) (fun _ _ _ h => h) (Or.inl ⟨by rfl, ?ha0⟩) (Or.inr (by assumption)) ?ra0
    case ha0 => (intro w hSw; (try dsimp only at hSw); go_simp; try with_reducible rfl)
    case' ra0 => skip
    try simp only [Act.put, List.setIfInBounds_toArray, List.set_cons_zero, List.set_cons_succ]
    refine wpAnyG_take (ws := [0,1,2,3,4,5,6,7,8,9,10,11,12,13,14,15,16]) (i := 1) (v := ?va1) at1 (by kernel_rfl) (fun _ _ _ h => h) (Or.inl ⟨by rfl, ?ha1⟩) (by assumption) ?ra1
    case ha1 => (intro w hSw; (try dsimp only at hSw); go_simp; try with_reducible rfl)
    case' ra1 => skip
    try simp only [Act.put, List.setIfInBounds_toArray, List.set_cons_zero, List.set_cons_succ]
    refine wpAnyG_pure (i := 2) (v := ?va2) at2 (by kernel_rfl) (fun _ _ _ h => h) (Or.inl ⟨by rfl, ?ha2⟩) (Or.inr (by assumption)) ?ra2
    case ha2 => (intro w hSw; (try dsimp only at hSw); go_simp; try with_reducible rfl)
    case' ra2 => skip
    try simp only [Act.put, List.setIfInBounds_toArray, List.set_cons_zero, List.set_cons_succ]
    refine wpAnyG_take (ws := [0,1,2,3,4,5,6,7,8,9,10,11,12,13,14,15,16]) (i := 3) (v := ?va3) at3 (by kernel_rfl) (fun _ _ _ h => h) (Or.inl ⟨by rfl, ?ha3⟩) (by assumption) ?ra3
    case ha3 => (intro w hSw; (try dsimp only at hSw); go_simp; try with_reducible rfl)
    case' ra3 => skip
    try simp only [Act.put, List.setIfInBounds_toArray, List.set_cons_zero, List.set_cons_succ]
    refine wpAnyG_pure (i := 4) (v := ?va4) at4 (by kernel_rfl) (fun _ _ _ h => h) (Or.inl ⟨by rfl, ?ha4⟩) (Or.inr (by assumption)) ?ra4
    case ha4 => (intro w hSw; (try dsimp only at hSw); go_simp; try with_reducible rfl)
    case' ra4 => skip
    try simp only [Act.put, List.setIfInBounds_toArray, List.set_cons_zero, List.set_cons_succ]
    refine wpAnyG_take (ws := [0,1,2,3,4,5,6,7,8,9,10,11,12,13,14,15,16]) (i := 5) (v := ?va5) at5 (by kernel_rfl) (fun _ _ _ h => h) (Or.inl ⟨by rfl, ?ha5⟩) (by assumption) ?ra5
    case ha5 => (intro w hSw; (try dsimp only at hSw); go_simp; try with_reducible rfl)
    case' ra5 => skip
    try simp only [Act.put, List.setIfInBounds_toArray, List.set_cons_zero, List.set_cons_succ]
    refine wpAnyG_pure (i := 6) (v := ?va6) at6 (by kernel_rfl) (fun _ _ _ h => h) (Or.inl ⟨by rfl, ?ha6⟩) (Or.inr (by assumption)) ?ra6
    case ha6 => (intro w hSw; (try dsimp only at hSw); go_simp; try with_reducible rfl)
    case' ra6 => skip
    try simp only [Act.put, List.setIfInBounds_toArray, List.set_cons_zero, List.set_cons_succ]
    refine wpAnyG_pure (i := 8) (v := ?va8) at8 (by kernel_rfl) (fun _ _ _ h => h) (Or.inl ⟨by rfl, ?ha8⟩) (Or.inr (by assumption)) ?ra8
    case ha8 => (intro w hSw; (try dsimp only at hSw); go_simp; try with_reducible rfl)
    case' ra8 => skip
    try simp only [Act.put, List.setIfInBounds_toArray, List.set_cons_zero, List.set_cons_succ]
    refine wpAnyG_take (ws := [0,1,2,3,4,5,6,7,8,9,10,11,12,13,14,15,16]) (i := 9) (v := ?va9) at9 (by kernel_rfl) (fun _ _ _ h => h) (Or.inl ⟨by rfl, ?ha9⟩) (by assumption) ?ra9
    case ha9 => (intro w hSw; (try dsimp only at hSw); go_simp; try with_reducible rfl)
    case' ra9 => skip
    try simp only [Act.put, List.setIfInBounds_toArray, List.set_cons_zero, List.set_cons_succ]
    refine wpAnyG_pure (i := 11) (v := ?va11) at11 (by kernel_rfl) (fun _ _ _ h => h) (Or.inl ⟨by rfl, ?ha11⟩) (Or.inr (by assumption)) ?ra11
    case ha11 => (intro w hSw; (try dsimp only at hSw); go_simp; try with_reducible rfl)
    case' ra11 => skip
    try simp only [Act.put, List.setIfInBounds_toArray, List.set_cons_zero, List.set_cons_succ]
    refine wpAnyG_take (ws := [0,1,2,3,4,5,6,7,8,9,10,11,12,13,14,15,16]) (i := 12) (v := ?va12) at12 (by kernel_rfl) (fun _ _ _ h => h) (Or.inl ⟨by rfl, ?ha12⟩) (by assumption) ?ra12
    case ha12 => (intro w hSw; (try dsimp only at hSw); go_simp; try with_reducible rfl)
    case' ra12 => skip
    try simp only [Act.put, List.setIfInBounds_toArray, List.set_cons_zero, List.set_cons_succ]
    refine wpAnyG_one 7 at7 (by kernel_rfl) (fun Kn hK => ?_)
    go_simp
    refine (H1.out _).mono ?_
    rintro e w2 ⟨rfl, hb⟩
    have X2 := Lib.hid (X1.out.drew.next hb)
    have hS2 := X2.out.cells5
    refine hK.out _ _ (Or.inr hS2) ?_
    clear hb hS hS2 hK Kn
    try simp only [Act.put, List.setIfInBounds_toArray, List.set_cons_zero, List.set_cons_succ]
    refine wpAnyG_one 10 at10 (by kernel_rfl) (fun Kn hK => ?_)
    go_simp
    refine (H2.out _ X2.out).mono ?_
    rintro e w3 ⟨rfl, hb⟩
    have X3 := Lib.hid (X2.out.next hb)
    have hS3 := X3.out.cells5
    refine hK.out _ _ (Or.inr hS3) ?_
    clear hb hS3 hK Kn
    try simp only [Act.put, List.setIfInBounds_toArray, List.set_cons_zero, List.set_cons_succ]
    refine wpAnyG_one 13 at13 (by kernel_rfl) (fun Kn hK => ?_)
    go_simp
    refine (H3.out _ X3.out).mono ?_
    rintro e w4 ⟨rfl, hb⟩
    have X4 := Lib.hid (X3.out.next hb)
    have hS4 := X4.out.cells5
    refine hK.out _ _ (Or.inr hS4) ?_
    clear hb hS4 hK Kn
    try simp only [Act.put, List.setIfInBounds_toArray, List.set_cons_zero, List.set_cons_succ]
    refine wpAnyG_one 14 at14 (by kernel_rfl) (fun Kn hK => ?_)
    go_simp
    have hS5 := (X4.out.alloc (.cells #[.string ow, .string fi, .string E, .string F, .string L] 9)).cells5
    refine hK.out _ _ (Or.inr hS5) ?_
    clear hS5 hK Kn
    try simp only [Act.put, List.setIfInBounds_toArray, List.set_cons_zero, List.set_cons_succ]
    refine wpAnyG_one 15 at15 (by kernel_rfl) (fun Kn hK => ?_)
    go_simp
    refine (H4.out _).mono ?_
    rintro e w5 ⟨rfl, hb⟩
    have X5 := Lib.hid ((X4.out.alloc _).next hb)
    have hS5 := X5.out.cells5
    refine hK.out _ _ (Or.inr hS5) ?_
    clear hb hK Kn
    try simp only [Act.put, List.setIfInBounds_toArray, List.set_cons_zero, List.set_cons_succ]
    have hS := hS5
    clear hS5
    refine wpAnyG_pure (i := 16) (v := ?vb16) at16 (by kernel_rfl) (fun _ _ _ h => h) (Or.inl ⟨by rfl, ?hb16⟩) (Or.inr (by assumption)) ?rb16
    case hb16 => (intro w hSw; (try dsimp only at hSw); go_simp; try with_reducible rfl)
    case' rb16 => skip
    try simp only [Act.put, List.setIfInBounds_toArray, List.set_cons_zero, List.set_cons_succ]
    refine wpAnyG_one 17 at17 (by kernel_rfl) (fun Kn hK => ?_)
    go_simp
    refine hK.out _ _ (Or.inl (by kernel_rfl)) ?_
    clear hK Kn hS
    refine wpAnyG_done (by kernel_rfl) ?_
    go_wp2_with fail
    go_ret2
    exact ⟨by rw [HV.out]; rfl, X5.out.below⟩
end Go.Proofs.YtckblcfkajpofaaGreatDoor
namespace Go.Proofs.YtckblcfkajpofaaGreatDoor
open Go.RowKit
set_option linter.unusedVariables false
set_option linter.unusedSimpArgs false

def numOf (s : List UInt8) : Nat := match wtake s with
  | some (n, _) => n
  | none => 0
def cand (a b c d e : List UInt8) : Rt := ⟨mkB a, mkB b, min (numOf c : Int) 8, exL (wtakeAll d 5 4000), exL (wtakeAll e 5 4000)⟩
def takeR (s : List UInt8) : Option Rt := match wtakeAll s 5 4000 with
  | .ok [a, b, c, d, e] => if (cand a b c d e).right = true ∧ putR (cand a b c d e) = s then some (cand a b c d e) else none
  | _ => none
theorem exL_ok {r : Except Int (List (List UInt8))} {l : List (List UInt8)} (h : r = .ok l) : exL r = l.map mkB := by rw [h]; rfl
theorem map_mkB_toL (l : List ByteArray) : (l.map toL).map mkB = l := by simp [Function.comp_def, list_mkB]
theorem takeR_put {r : Rt} (h : r.right = true) : takeR (putR r) = some r := by
  have hg := Rt.right_good h
  have hp := hg.parts
  have h1 : wtakeAll (putR r) 5 4000 = .ok [toL r.owner, toL r.file, wput r.epoch.toNat, wall (r.rd.map toL), wall (r.wr.map toL)] :=
    wtakeAll_put (by show (5 : Int) ≤ max 5 0; omega) (by simp) (fun t ht => by have := hp t ht; omega)
  have hn : numOf (wput r.epoch.toNat) = r.epoch.toNat := by
    have := wtake_put (n := r.epoch.toNat) (by have := hg.hi; omega) []
    rw [List.append_nil] at this
    unfold numOf; rw [this]
  have names : ∀ l : List ByteArray, (∀ s ∈ l, s.size ≤ 128) → l.length ≤ 5 → wtakeAll (wall (l.map toL)) 5 4000 = .ok (l.map toL) := fun l hl hlen =>
    wtakeAll_put (by rw [List.length_map]; omega) (by rw [List.length_map]; omega) (fun t ht => by
      obtain ⟨s, hs, rfl⟩ := List.mem_map.1 ht
      have := hl s hs
      have h2 : (toL s).length = s.size := list_size s
      omega)
  have hc : cand (toL r.owner) (toL r.file) (wput r.epoch.toNat) (wall (r.rd.map toL)) (wall (r.wr.map toL)) = r := by
    unfold cand
    rw [hn, exL_ok (names r.rd hg.rd (by have := hg.len; omega)), exL_ok (names r.wr hg.wr (by have := hg.len; omega)), map_mkB_toL, map_mkB_toL, list_mkB, list_mkB]
    have := hg.lo
    have := hg.hi
    cases r
    simp only [Rt.mk.injEq, and_true, true_and]
    dsimp only at *
    omega
  unfold takeR
  rw [h1]
  simp only
  rw [hc, if_pos ⟨h, rfl⟩]
theorem takeR_some {s : List UInt8} {r : Rt} (h : takeR s = some r) : r.right = true ∧ putR r = s := by
  unfold takeR at h
  split at h
  · split at h
    · rename_i hh; cases h; exact hh
    · cases h
  · cases h
theorem takeR_none {s : List UInt8} (h : takeR s = none) {r : Rt} (hr : r.right = true) : putR r ≠ s := by
  rintro rfl; rw [takeR_put hr] at h; cases h
theorem wtakeAll_err {s : List UInt8} {many most e : Int} (h : wtakeAll s many most = .error e) : e = 2 ∨ e = 10 := by
  unfold wtakeAll at h
  cases hs : wtake s with
  | none => rw [hs] at h; cases h; exact .inl rfl
  | some p =>
    obtain ⟨n, r⟩ := p
    rw [hs] at h; simp only at h
    split at h
    · cases h; exact .inr rfl
    · cases hm : wmany most n r with
      | error e' =>
        rw [hm] at h; cases h
        clear hs
        induction n generalizing r with
        | zero => cases hm
        | succ n ih =>
          rw [wmany_succ] at hm
          cases ht : wtakeText r most with
          | error e2 => rw [ht] at hm; cases hm; exact wtakeText_err ht
          | ok p =>
            obtain ⟨t, q⟩ := p
            rw [ht] at hm; simp only at hm
            cases hq : wmany most n q with
            | error e3 => rw [hq] at hm; cases hm; exact ih _ (by omega) hq
            | ok p => rw [hq] at hm; cases hm
      | ok p =>
        obtain ⟨l, q⟩ := p
        rw [hm] at h; simp only at h
        split at h
        · cases h
        · cases h; exact .inl rfl
theorem takeV_form (s : List UInt8) : ∃ r e, takeV s = .tuple #[.int .u64 (numOf s), .string r, .int .i64 e] := by
  unfold takeV numOf
  cases wtake s with
  | none => exact ⟨_, _, rfl⟩
  | some p => exact ⟨_, _, rfl⟩
theorem exL_props (s : List UInt8) : (exL (wtakeAll s 5 4000)).length ≤ 5 ∧ ∀ x ∈ exL (wtakeAll s 5 4000), x.size ≤ 4000 := by
  cases h : wtakeAll s 5 4000 with
  | error e => exact ⟨by simp [exL], fun x hx => by simp [exL] at hx⟩
  | ok l =>
    obtain ⟨_, h2, h3⟩ := wtakeAll_ok h
    refine ⟨by simp only [exL, List.length_map]; omega, fun x hx => ?_⟩
    obtain ⟨t, ht, rfl⟩ := List.mem_map.1 hx
    have := h3 t ht
    rw [mkB_size]; omega
theorem cand_wf {a b c d e : List UInt8} (ha : (mkB a).size ≤ 4000) (hb : (mkB b).size ≤ 4000) : (cand a b c d e).wf := by
  have h1 := exL_props d
  have h2 := exL_props e
  refine ⟨by show (mkB a).size ≤ _; omega, by show (mkB b).size ≤ _; omega, by show _ ≤ min (numOf c : Int) 8; omega, by show min (numOf c : Int) 8 ≤ _; omega, fun s hs => ?_, by show (exL _).length + (exL _).length ≤ _; omega⟩
  rcases List.mem_append.1 hs with hs | hs
  · have := h1.2 s hs; omega
  · have := h2.2 s hs; omega
def TakeROut (w : World) (s : List UInt8) (e : Ending) (w' : World) : Prop :=
  (match takeR s with
    | none => e = .returned (.tuple #[.agg #[.string ⟨#[]⟩, .string ⟨#[]⟩, .int .i64 0, .slice none 0 0, .slice none 0 0], .int .i64 2])
    | some r => ∃ vr vw, e = .returned (.tuple #[agR r vr vw, .int .i64 0]) ∧ Lists w' r vr vw ∧ ∀ g, (vr.ownBlock = some g ∨ vw.ownBlock = some g) → w.heap.size ≤ g) ∧ Below w.heap.size w w'
theorem TakeROut.bad {w w' : World} {s : List UInt8} (h : takeR s = none) (hb : Below w.heap.size w w') : TakeROut w s (.returned (.tuple #[.agg #[.string ⟨#[]⟩, .string ⟨#[]⟩, .int .i64 0, .slice none 0 0, .slice none 0 0], .int .i64 2])) w' := by
  unfold TakeROut; rw [h]; exact ⟨rfl, hb⟩
set_option maxRecDepth 100000 in
set_option maxHeartbeats 4000000 in
theorem rtake_calls (s : ByteArray) (w : World) (hs : s.size ≤ 1000000000) (hT : Tabs w) :
    Calls Tryz.prog 165 #[.string s] w (TakeROut w (toL s)) := by
  have h1 := takeall_calls s 5 4000 (w.alloc (.cells #[.string ⟨#[]⟩, .string ⟨#[]⟩, .int .i64 0, .slice none 0 0, .slice none 0 0] 39)) hs (by omega) (by omega)
  have HC := Lib.hid h1
  have HT := Lib.hid hT
  clear h1 hT
  have bel0 : Below w.heap.size w (w.alloc (.cells #[.string ⟨#[]⟩, .string ⟨#[]⟩, .int .i64 0, .slice none 0 0, .slice none 0 0] 39)) := (Below.refl _ w).alloc (Nat.le_refl _) _
  have BEL := Lib.hid bel0
  have hblk : (w.alloc (.cells #[.string ⟨#[]⟩, .string ⟨#[]⟩, .int .i64 0, .slice none 0 0, .slice none 0 0] 39)).heap[w.heap.size]? = some (.cells #[.string ⟨#[]⟩, .string ⟨#[]⟩, .int .i64 0, .slice none 0 0, .slice none 0 0] 39 (0, 0)) := by rw [get_alloc]; simp
  have HBK := Lib.hid hblk
  clear bel0 hblk
  go_enter Tryz.func165, Tryz.ntmps165
  go_wp2_with fail
  refine HC.out.mono ?_
  rintro e w1 ⟨v, rfl, hown, hb⟩
  have hb0 : Below w.heap.size w w1 := BEL.out.trans (hb.mono BEL.out.size)
  have HB := Lib.hid hb0
  have HK1 := Lib.hid ((Keep.of_below hb : Keep (fun _ => False) _ w1).at HBK.out fun e => e)
  have HO := Lib.hid hown
  obtain ⟨A, c, rfl, _, _⟩ := own_slice hown
  obtain ⟨G, hG⟩ : ∃ G, wtakeAll (toL s) 5 4000 = G := ⟨_, rfl⟩
  rw [hG] at HO ⊢
  clear hb hb0 hown
  cases G with
  | error er =>
    have NB : takeR (toL s) = none := by unfold takeR; rw [hG]
    have f2 : (er != 0) = true := by rcases wtakeAll_err hG with rfl | rfl <;> rfl
    simp only [exErr]
    clear hG
    go_wp2_with (with_reducible refine wp_stop_store _ _ _ rfl ?_)
    unfold Stop
    refine wp_store_all rfl _ _ _ rfl rfl rfl _ _ HK1.out info_rt rfl (by simp [Value.oneCell']) ?_
    intro w3 h3 k3 s3
    have HN := Lib.hid (TakeROut.bad (w := w) (w' := w3) (s := toL s) NB (below_keep HB.out k3))
    have h4 := row5 h3
    clear h3 k3 s3
    obtain ⟨c0, c1, c2, c3, c4⟩ := h4
    go_wp2_with fail
    refine bodyPost_ret (v := .tuple #[.agg #[.string ⟨#[]⟩, .string ⟨#[]⟩, .int .i64 0, .slice none 0 0, .slice none 0 0], .int .i64 2]) (by simp [results, Tryz.results165, go_sem, c0, c1, c2, c3, c4]) rfl HN.out
  | ok l =>
    have hln : (exL (.ok l : Except Int (List (List UInt8)))).length = l.length := List.length_map ..
    have hl5 : (l.length : Int) ≤ 5 := by have := (wtakeAll_ok hG).2.1; omega
    simp only [exErr, hln]
    clear hln
    by_cases h5 : l.length = 5
    · obtain ⟨a, b, c5, d, e5, rfl⟩ : ∃ a b c d e, l = [a, b, c, d, e] := by
        match l, h5 with
        | [a, b, c, d, e], _ => exact ⟨a, b, c, d, e, rfl⟩
      have hmem := (wtakeAll_ok hG).2.2
      have hz : ∀ t ∈ [a, b, c5, d, e5], (mkB t).size ≤ 4000 := fun t ht => by have := hmem t ht; rw [mkB_size]; omega
      have za := hz a (by simp)
      have zb := hz b (by simp)
      have zc := hz c5 (by simp)
      have zd := hz d (by simp)
      have ze := hz e5 (by simp)
      have hst := strs_own HO.out
      obtain ⟨g, off, cc, hv, _, _, l0⟩ := hst.cell (i := 0) (x := mkB a) rfl
      cases hv
      obtain ⟨_, _, _, hv1, _, _, l1⟩ := hst.cell (i := 1) (x := mkB b) rfl
      cases hv1
      have HST := Lib.hid hst
      have hgl : g < w1.heap.size := World.block_lt_of_cell? w1 _ l0
      rw [Nat.add_zero] at l0
      have hlen5 : (exL (.ok [a, b, c5, d, e5])).length = 5 := rfl
      have CW : Hid ((cand a b c5 d e5).wf) := Lib.hid (cand_wf za zb)
      have CN : Hid (takeR (toL s) = if (cand a b c5 d e5).right = true ∧ putR (cand a b c5 d e5) = toL s then some (cand a b c5 d e5) else none) := Lib.hid (by unfold takeR; rw [hG])
      have HC3 := Lib.hid (fun W => wtake_calls (mkB c5) W (by omega))
      have HC4 := Lib.hid (fun W => takeall_calls (mkB d) 5 4000 W (by omega) (by omega) (by omega))
      have HC5 := Lib.hid (fun W => takeall_calls (mkB e5) 5 4000 W (by omega) (by omega) (by omega))
      clear hG hmem hz hst h5 hl5
      go_wp2_with fail
      refine wp_region_G (fun w' => w'.cell? ⟨g, off, none⟩ = some (.string (mkB a)) ∧ w'.cell? ⟨g, off + 1, none⟩ = some (.string (mkB b))) [8] (by kernel_rfl) ?_
      have hS : w1.drew.cell? ⟨g, off, none⟩ = some (.string (mkB a)) ∧ w1.drew.cell? ⟨g, off + 1, none⟩ = some (.string (mkB b)) := ⟨l0, l1⟩
      refine wpAnyG_pure (i := 0) (v := ?va0) at0 (by kernel_rfl) (fun _ _ _ h => h) (Or.inl ⟨by rfl, ?ha0⟩) (Or.inr (by assumption)) ?ra0
      case ha0 => (intro w hSw; (try dsimp only at hSw); go_simp; try with_reducible rfl)
      case' ra0 => skip
      try simp only [Act.put, List.setIfInBounds_toArray, List.set_cons_zero, List.set_cons_succ]
      refine wpAnyG_pure (i := 1) (v := ?va1) at1 (by kernel_rfl) (fun _ _ _ h => h) (Or.inl ⟨by rfl, ?ha1⟩) (Or.inr (by assumption)) ?ra1
      case ha1 => (intro w hSw; (try dsimp only at hSw); go_simp; try with_reducible rfl)
      case' ra1 => skip
      try simp only [Act.put, List.setIfInBounds_toArray, List.set_cons_zero, List.set_cons_succ]
      refine wpAnyG_take (ws := [0,1,2,3,4,5,6]) (i := 2) (v := ?va2) at2 (by kernel_rfl) (fun _ _ _ h => h) (Or.inl ⟨by rfl, ?ha2⟩) (by assumption) ?ra2
      case ha2 => (intro w hSw; (try dsimp only at hSw); go_simp; try with_reducible rfl)
      case' ra2 => skip
      try simp only [Act.put, List.setIfInBounds_toArray, List.set_cons_zero, List.set_cons_succ]
      refine wpAnyG_pure (i := 3) (v := ?va3) at3 (by kernel_rfl) (fun _ _ _ h => h) (Or.inl ⟨by rfl, ?ha3⟩) (Or.inr (by assumption)) ?ra3
      case ha3 => (intro w hSw; (try dsimp only at hSw); go_simp; try with_reducible rfl)
      case' ra3 => skip
      try simp only [Act.put, List.setIfInBounds_toArray, List.set_cons_zero, List.set_cons_succ]
      refine wpAnyG_pure (i := 4) (v := ?va4) at4 (by kernel_rfl) (fun _ _ _ h => h) (Or.inl ⟨by rfl, ?ha4⟩) (Or.inr (by assumption)) ?ra4
      case ha4 => (intro w hSw; (try dsimp only at hSw); go_simp; try with_reducible rfl)
      case' ra4 => skip
      try simp only [Act.put, List.setIfInBounds_toArray, List.set_cons_zero, List.set_cons_succ]
      refine wpAnyG_take (ws := [0,1,2,3,4,5,6]) (i := 5) (v := ?va5) at5 (by kernel_rfl) (fun _ _ _ h => h) (Or.inl ⟨by rfl, ?ha5⟩) (by assumption) ?ra5
      case ha5 => (intro w hSw; (try dsimp only at hSw); go_simp; try with_reducible rfl)
      case' ra5 => skip
      try simp only [Act.put, List.setIfInBounds_toArray, List.set_cons_zero, List.set_cons_succ]
      refine wpAnyG_pure (i := 6) (v := ?va6) at6 (by kernel_rfl) (fun _ _ _ h => h) (Or.inl ⟨by rfl, ?ha6⟩) (Or.inr (by assumption)) ?ra6
      case ha6 => (intro w hSw; (try dsimp only at hSw); go_simp; try with_reducible rfl)
      case' ra6 => skip
      try simp only [Act.put, List.setIfInBounds_toArray, List.set_cons_zero, List.set_cons_succ]
      refine wpAnyG_one 7 at7 (by kernel_rfl) (fun Kn hK => ?_)
      go_simp
      refine hK.out _ _ (Or.inr ⟨(Keep.alloc (fun _ => False) w1.drew _).cell l0 fun e => e, (Keep.alloc (fun _ => False) w1.drew _).cell l1 fun e => e⟩) ?_
      clear hK Kn hS
      try simp only [Act.put, List.setIfInBounds_toArray, List.set_cons_zero, List.set_cons_succ]
      refine wpAnyG_one 8 at8 (by kernel_rfl) (fun Kn hK => ?_)
      go_simp
      refine hK.out _ _ (Or.inl (by kernel_rfl)) ?_
      clear hK Kn
      refine wpAnyG_done (by kernel_rfl) ?_
      obtain ⟨_, _, _, hv2, _, _, l2⟩ := HST.out.cell (i := 2) (x := mkB c5) rfl
      cases hv2
      have hb6 : (w1.alloc (.cells #[.string (mkB a), .string (mkB b), .int .i64 0, .slice none 0 0, .slice none 0 0] 39)).heap[w1.heap.size]? = some (.cells #[.string (mkB a), .string (mkB b), .int .i64 0, .slice none 0 0, .slice none 0 0] 39 (0, 0)) := by rw [get_alloc]; simp
      have HB6 := Lib.hid hb6
      clear hb6
      obtain ⟨rc, ec, htv⟩ := takeV_form c5
      rw [show toL (mkB c5) = c5 from mkB_list c5, htv] at HC3
      obtain ⟨N, hN⟩ : ∃ N, numOf c5 = N := ⟨_, rfl⟩
      rw [hN] at HC3
      have HNN := Lib.hid hN
      clear htv hN
      go_wp2_with fail
      refine (HC3.out _).mono ?_
      rintro e w2 ⟨rfl, hb⟩
      have hb6 := (Keep.of_below hb : Keep (fun _ => False) _ w2).at HB6.out fun e => e
      have c62 : w2.cell? ⟨w1.heap.size, 2, none⟩ = some (.int .i64 0) := by rw [cell_of_row _ _ _ _ _ _ hb6]; rfl
      have f62 := frozen_of_row hb6 2
      have bel2 : Below w1.heap.size w1 w2 := ((Below.refl _ w1).alloc (Nat.le_refl _) _).drew.trans (hb.mono (by show w1.heap.size ≤ (w1.alloc _).heap.size; rw [size_alloc]; omega))
      obtain ⟨W2, hW2⟩ : ∃ W2, w2.setCell ⟨w1.heap.size, 2, none⟩ (.int .i64 (min (N : Int) 8)) = W2 := ⟨_, rfl⟩
      have hblk2 : W2.heap[w1.heap.size]? = some (.cells #[.string (mkB a), .string (mkB b), .int .i64 (min (N : Int) 8), .slice none 0 0, .slice none 0 0] 39 (0, 0)) := by rw [← hW2]; exact set_at hb6 2 _
      have belW2 : Below w1.heap.size w1 W2 := by rw [← hW2]; exact bel2.setCell (Nat.le_refl _) _
      have HB62 := Lib.hid hblk2
      have BW2 := Lib.hid belW2
      obtain ⟨_, _, _, hv3, _, _, l3⟩ := (HST.out.below belW2).cell (i := 3) (x := mkB d) rfl
      cases hv3
      clear hb hb6 bel2 hblk2 belW2 l0 l1 l2
      rw [show toL (mkB d) = d from mkB_list d] at HC4
      rw [show toL (mkB e5) = e5 from mkB_list e5] at HC5
      obtain ⟨D, hD⟩ : ∃ D, exL (wtakeAll d 5 4000) = D := ⟨_, rfl⟩
      obtain ⟨E, hE⟩ : ∃ E, exL (wtakeAll e5 5 4000) = E := ⟨_, rfl⟩
      rw [hD] at HC4
      rw [hE] at HC5
      have HDE := Lib.hid (And.intro hD hE)
      clear hD hE
      go_wp2_with fail
      refine (HC4.out _).mono ?_
      rintro e w3 ⟨v3, rfl, own3, hb⟩
      clear hW2
      obtain ⟨A3, c3, rfl, _, _⟩ := own_slice own3
      have hb6 := (Keep.of_below hb : Keep (fun _ => False) _ w3).at HB62.out fun e => e
      have c63 : w3.cell? ⟨w1.heap.size, 3, none⟩ = some (.slice none 0 0) := by rw [cell_of_row _ _ _ _ _ _ hb6]; rfl
      have f63 := frozen_of_row hb6 3
      have bel3 : Below w1.heap.size w1 w3 := BW2.out.trans (hb.mono BW2.out.size)
      obtain ⟨W3, hW3⟩ : ∃ W3, w3.setCell ⟨w1.heap.size, 3, none⟩ (.slice A3 D.length c3) = W3 := ⟨_, rfl⟩
      have hblk3 : W3.heap[w1.heap.size]? = some (.cells #[.string (mkB a), .string (mkB b), .int .i64 (min (N : Int) 8), .slice A3 D.length c3, .slice none 0 0] 39 (0, 0)) := by rw [← hW3]; exact set_at hb6 3 _
      have belW3 : Below w1.heap.size w1 W3 := by rw [← hW3]; exact bel3.setCell (Nat.le_refl _) _
      have hl6 : w1.heap.size < W2.heap.size := (Array.getElem?_eq_some_iff.1 HB62.out).1
      have st3 : strs W3 (.slice A3 D.length c3) D := by
        rw [← hW3]
        exact strs_own (Keep.own (F := fun i => i = w1.heap.size) (Keep.setCell (fun i => i = w1.heap.size) w3 (p := ⟨w1.heap.size, 3, none⟩) rfl _) own3 fun q e1 e2 => by have := own_new own3 q e1; omega)
      have HB63 := Lib.hid hblk3
      have BW3 := Lib.hid belW3
      have ST3 := Lib.hid st3
      have OW3 := Lib.hid own3
      have KW3 : Hid (Keep (fun i => i = w1.heap.size) w3 W3) := Lib.hid (by rw [← hW3]; exact Keep.setCell (fun i => i = w1.heap.size) w3 (p := ⟨w1.heap.size, 3, none⟩) rfl _)
      have HL6 := Lib.hid hl6
      have hw01 : w.heap.size < w1.heap.size := (Array.getElem?_eq_some_iff.1 HK1.out).1
      have HW01 := Lib.hid hw01
      have NB3 : Hid (∀ b, (Value.slice A3 D.length c3).ownBlock = some b → w.heap.size < b) := Lib.hid (fun b hb => by have := own_new own3 b hb; omega)
      obtain ⟨_, _, _, hv4, _, _, l4⟩ := (HST.out.below belW3).cell (i := 4) (x := mkB e5) rfl
      cases hv4
      clear hb hb6 bel3 hblk3 belW3 st3 own3 l3 c62 f62 hl6 hw01
      go_wp2_with fail
      refine (HC5.out _).mono ?_
      rintro e w4 ⟨v4, rfl, own4, hb⟩
      clear hW3
      obtain ⟨A4, c4, rfl, _, _⟩ := own_slice own4
      have hb6 := (Keep.of_below hb : Keep (fun _ => False) _ w4).at HB63.out fun e => e
      have c64 : w4.cell? ⟨w1.heap.size, 4, none⟩ = some (.slice none 0 0) := by rw [cell_of_row _ _ _ _ _ _ hb6]; rfl
      have f64 := frozen_of_row hb6 4
      have bel4 : Below w1.heap.size w1 w4 := BW3.out.trans (hb.mono BW3.out.size)
      obtain ⟨W4, hW4⟩ : ∃ W4, w4.setCell ⟨w1.heap.size, 4, none⟩ (.slice A4 E.length c4) = W4 := ⟨_, rfl⟩
      have hblk4 : W4.heap[w1.heap.size]? = some (.cells #[.string (mkB a), .string (mkB b), .int .i64 (min (N : Int) 8), .slice A3 D.length c3, .slice A4 E.length c4] 39 (0, 0)) := by rw [← hW4]; exact set_at hb6 4 _
      have belW4 : Below w1.heap.size w1 W4 := by rw [← hW4]; exact bel4.setCell (Nat.le_refl _) _
      have hl6 : w1.heap.size < W3.heap.size := (Array.getElem?_eq_some_iff.1 HB63.out).1
      have st4 : strs W4 (.slice A4 E.length c4) E := by
        rw [← hW4]
        exact strs_own (Keep.own (F := fun i => i = w1.heap.size) (Keep.setCell (fun i => i = w1.heap.size) w4 (p := ⟨w1.heap.size, 4, none⟩) rfl _) own4 fun q e1 e2 => by have := own_new own4 q e1; omega)
      have NB4 : Hid (∀ b, (Value.slice A4 E.length c4).ownBlock = some b → w.heap.size < b) := Lib.hid (fun b hb => by have := own_new own4 b hb; have := HW01.out; have := BW3.out.size; omega)
      have st3 : strs W4 (.slice A3 D.length c3) D := by
        rw [← hW4]
        exact strs_own (Keep.own (F := fun i => i = w1.heap.size) ((KW3.out.same (Keep.of_below hb)).same (Keep.setCell (fun i => i = w1.heap.size) w4 (p := ⟨w1.heap.size, 4, none⟩) rfl _)) OW3.out fun q e1 e2 => by have := own_new OW3.out q e1; have := HL6.out; omega)
      have r5 := row5 hblk4
      obtain ⟨r0, r1, r2, r3, r4⟩ := r5
      have HB64 := Lib.hid hblk4
      have BW4 := Lib.hid belW4
      have hcand : cand a b c5 d e5 = ⟨mkB a, mkB b, min (N : Int) 8, D, E⟩ := by unfold cand; rw [HNN.out, HDE.out.1, HDE.out.2]
      have hTT : Tabs W4 := HT.out.below (HB.out.trans (belW4.mono HB.out.size))
      have hPut := rput_calls W4 (cand a b c5 d e5) (.slice A3 D.length c3) (.slice A4 E.length c4) (by rw [hcand]; exact ⟨st3, st4⟩) hTT CW.out
      rw [hcand] at hPut
      dsimp only [agR] at hPut
      have HP := Lib.hid hPut
      have HL4 : Hid (Lists W4 ⟨mkB a, mkB b, min (N : Int) 8, D, E⟩ (.slice A3 D.length c3) (.slice A4 E.length c4)) := Lib.hid ⟨st3, st4⟩
      have HCD := Lib.hid hcand
      obtain ⟨q, hq⟩ : ∃ q, (⟨mkB a, mkB b, min (N : Int) 8, D, E⟩ : Rt) = q := ⟨_, rfl⟩
      rw [hq] at HP HCD HL4
      have HQ := Lib.hid hq
      have hKB : W4.heap[w.heap.size]? = some (.cells #[.string ⟨#[]⟩, .string ⟨#[]⟩, .int .i64 0, .slice none 0 0, .slice none 0 0] 39 (0, 0)) := (Keep.of_below belW4 : Keep (fun _ => False) w1 W4).at HK1.out fun e => e
      have HKB := Lib.hid hKB
      clear hb hb6 bel4 hblk4 belW4 st4 st3 own4 l4 c63 f63 hl6 hTT hPut hcand hq hKB
      go_wp2_with fail
      refine HP.out.mono ?_
      rintro e w5 ⟨rfl, hb⟩
      clear hW4
      have HK5 := Lib.hid ((Keep.of_below hb : Keep (fun _ => False) W4 w5).at HKB.out fun e => e)
      have hb5 : Below w.heap.size w w5 := HB.out.trans ((BW4.out.trans (hb.mono BW4.out.size)).mono HB.out.size)
      have HB5 := Lib.hid hb5
      have h6k := (Keep.of_below hb : Keep (fun _ => False) W4 w5).at HB64.out fun e => e
      have HL5 : Hid (Lists w5 q (.slice A3 D.length c3) (.slice A4 E.length c4)) := Lib.hid (HL4.out.below hb)
      have H6K := Lib.hid h6k
      have r5 := row5 h6k
      obtain ⟨r0', r1', r2', r3', r4'⟩ := r5
      clear hb hb5 h6k r0 r1 r2 r3 r4 c64 f64
      unfold putRV
      cases hqr : q.right with
      | false =>
        have NB : takeR (toL s) = none := by rw [CN.out, HCD.out, if_neg (fun h => by rw [hqr] at h; cases h.1)]
        clear hqr
        simp only [Bool.false_eq_true, if_false]
        go_wp2_with (with_reducible refine wp_stop_store _ _ _ rfl ?_)
        unfold Stop
        refine wp_store_all rfl _ _ _ rfl rfl rfl _ _ HK5.out info_rt rfl (by simp [Value.oneCell']) ?_
        intro w6 h6 k6 s6
        have HN := Lib.hid (TakeROut.bad (w := w) (w' := w6) (s := toL s) NB (below_keep HB5.out k6))
        have h4 := row5 h6
        clear h6 k6 s6
        obtain ⟨d0, d1, d2, d3, d4⟩ := h4
        go_wp2_with fail
        refine bodyPost_ret (v := .tuple #[.agg #[.string ⟨#[]⟩, .string ⟨#[]⟩, .int .i64 0, .slice none 0 0, .slice none 0 0], .int .i64 2]) (by simp [results, Tryz.results165, go_sem, d0, d1, d2, d3, d4]) rfl HN.out
      | true =>
        simp only [if_true]
        have hsz5 := (Rt.right_good hqr).size
        by_cases hps : putR q = toL s
        · have YS : takeR (toL s) = some q := by rw [CN.out, HCD.out, if_pos ⟨hqr, hps⟩]
          have hse : mkB (putR q) = s := by rw [hps]; exact list_mkB s
          rw [hse]
          have HQE := HQ.out
          clear hqr hps hse hsz5
          go_wp2_with (with_reducible refine wp_stop_store _ _ _ rfl ?_)
          unfold Stop
          refine wp_store_all rfl _ _ _ rfl rfl rfl _ _ HK5.out info_rt rfl (by simp [Value.oneCell']) ?_
          intro w6 h6 k6 s6
          have HF : Hid (TakeROut w (toL s) (.returned (.tuple #[agR q (.slice A3 D.length c3) (.slice A4 E.length c4), .int .i64 0])) w6) := Lib.hid (by
            unfold TakeROut
            rw [YS]
            refine ⟨⟨_, _, rfl, ?_⟩, below_keep HB5.out k6⟩
            have hDE := HL5.out
            have hd : q.rd = D := by rw [← HQ.out]
            have he : q.wr = E := by rw [← HQ.out]
            exact ⟨⟨hDE.rd.keep k6 fun b hb e => by have := NB3.out b hb; omega, hDE.wr.keep k6 fun b hb e => by have := NB4.out b hb; omega⟩, fun b hb => by
              rcases hb with hb | hb
              · have := NB3.out b hb; omega
              · have := NB4.out b hb; omega⟩)
          have h4 := row5 h6
          clear h6 k6 s6 YS
          obtain ⟨d0, d1, d2, d3, d4⟩ := h4
          go_wp2_with fail
          refine bodyPost_ret (v := .tuple #[agR q (.slice A3 D.length c3) (.slice A4 E.length c4), .int .i64 0]) (by rw [← HQ.out]; simp [results, Tryz.results165, go_sem, d0, d1, d2, d3, d4]) rfl HF.out
        · have NB : takeR (toL s) = none := by rw [CN.out, HCD.out, if_neg (fun h => hps h.2)]
          have f1 : ((mkB (putR q)).toList == s.toList) = false := by
            rw [beq_eq_false_iff_ne]; exact fun e => hps (by rw [← blist_inj e]; exact (mkB_list _).symm)
          have f2 : ((mkB (putR q)).toList != s.toList) = true := by simp only [bne, f1]; rfl
          obtain ⟨X, hX⟩ : ∃ X, mkB (putR q) = X := ⟨_, rfl⟩
          rw [hX] at f1 f2 ⊢
          clear hqr hps hX hsz5
          go_wp2_with (with_reducible refine wp_stop_store _ _ _ rfl ?_)
          unfold Stop
          refine wp_store_all rfl _ _ _ rfl rfl rfl _ _ HK5.out info_rt rfl (by simp [Value.oneCell']) ?_
          intro w6 h6 k6 s6
          have HN := Lib.hid (TakeROut.bad (w := w) (w' := w6) (s := toL s) NB (below_keep HB5.out k6))
          have h4 := row5 h6
          clear h6 k6 s6
          obtain ⟨d0, d1, d2, d3, d4⟩ := h4
          go_wp2_with fail
          refine bodyPost_ret (v := .tuple #[.agg #[.string ⟨#[]⟩, .string ⟨#[]⟩, .int .i64 0, .slice none 0 0, .slice none 0 0], .int .i64 2]) (by simp [results, Tryz.results165, go_sem, d0, d1, d2, d3, d4]) rfl HN.out
    · have NB : takeR (toL s) = none := by
        unfold takeR; rw [hG]
        split
        · rename_i he; cases he; exact absurd rfl h5
        · rfl
      have f1 : ((l.length : Int) == 5) = false := by simp; omega
      have f2 : ((l.length : Int) != 5) = true := by simp only [bne, f1]; rfl
      clear hG h5
      go_wp2_with (with_reducible refine wp_stop_store _ _ _ rfl ?_)
      unfold Stop
      refine wp_store_all rfl _ _ _ rfl rfl rfl _ _ HK1.out info_rt rfl (by simp [Value.oneCell']) ?_
      intro w3 h3 k3 s3
      have HN := Lib.hid (TakeROut.bad (w := w) (w' := w3) (s := toL s) NB (below_keep HB.out k3))
      have h4 := row5 h3
      clear h3 k3 s3
      obtain ⟨c0, c1, c2, c3, c4⟩ := h4
      go_wp2_with fail
      refine bodyPost_ret (v := .tuple #[.agg #[.string ⟨#[]⟩, .string ⟨#[]⟩, .int .i64 0, .slice none 0 0, .slice none 0 0], .int .i64 2]) (by simp [results, Tryz.results165, go_sem, c0, c1, c2, c3, c4]) rfl HN.out
end Go.Proofs.YtckblcfkajpofaaGreatDoor
namespace Go.Proofs.YtckblcfkajpofaaGreatDoor
open Go.RowKit Go.Sort
set_option linter.unusedVariables false
set_option linter.unusedSimpArgs false

theorem put_list {l m : List ByteArray} {cur : Array Value} (hl : m.length = l.length) (hc : l.length ≤ cur.size) : (putCells encStr 0 (m.map toL).toArray cur).toList.take m.length = strV m ∧ (putCells encStr 0 (m.map toL).toArray cur).size = cur.size := by
  have hsz : (putCells encStr 0 (m.map toL).toArray cur).size = cur.size := by simp [putCells]
  refine ⟨?_, hsz⟩
  apply List.ext_getElem?
  intro i
  rw [List.getElem?_take, strV_get]
  split
  · rename_i hi
    have hi' : i < cur.size := by omega
    rw [Array.getElem?_toList]
    have e : encStr (toL m[i]) = Value.string m[i] := congrArg Value.string (list_mkB m[i])
    simp [putCells, hi', hi]
    try exact e
  · rename_i hi
    rw [List.getElem?_eq_none (by omega)]; rfl
theorem sortL_eq (l : List ByteArray) : (l.map toL).mergeSort (fun x y => decide (x ≤ y)) = (sortB l).map toL := by
  unfold sortB
  rw [List.map_mergeSort]
  intro a _ b _
  unfold bLe bLt
  rw [ByteArray.toList_eq, ByteArray.toList_eq, ← decide_not]
  exact decide_eq_decide.2 List.not_lt.symm
set_option maxHeartbeats 800000 in
theorem sort_calls {w : World} {base : Nat} {v : Value} {l : List ByteArray} (h : w.ownsRow base 9 1 v l.length (strV l)) (hl : l.length < 4611686018427387904) :
    Calls Tryz.prog 227 #[v] w fun e w' => e = .returned (.tuple #[]) ∧ w'.ownsRow base 9 1 v l.length (strV (sortB l)) ∧ Keep (fun k => v.ownBlock = some k) w w' := by
  by_cases h0 : l = []
  · subst h0
    have hex : ∃ p c, v = .slice p 0 c := by
      rcases h.2 with ⟨rfl, _⟩ | ⟨g, cap, cur, rfl, _⟩
      · exact ⟨_, _, rfl⟩
      · exact ⟨_, _, rfl⟩
    obtain ⟨p, c, rfl⟩ := hex
    refine (Any.slices_Sort_string_none Tryz.laysSort p c w).mono fun e w' ⟨he, hw⟩ => ⟨he, ?_, ?_⟩
    · rw [hw, sortB_nil]; exact h
    · rw [hw]; exact Keep.refl _ _
  · rcases h.2 with ⟨rfl, hn⟩ | ⟨g, cap, cur, rfl, hb, hg, hnc, hcm, hcs, htake⟩
    · exact absurd (List.eq_nil_of_length_eq_zero hn) h0
    · have hH : Holds encStr w g 0 (l.map toL).toArray := fun j hj => by
        simp at hj
        refine ⟨?_, frozen_of_row hg _⟩
        obtain ⟨A, c, hv, _, _, hcc⟩ := strs_own h
        obtain ⟨b, off, hA, hc⟩ := hcc (by omega)
        subst hA; cases hv
        have := hc j l[j] (List.getElem?_eq_getElem hj)
        rw [this]
        have e : encStr (toL l[j]) = Value.string l[j] := congrArg Value.string (list_mkB l[j])
        simp [hj]
        try exact e.symm
      have hlt : g < w.heap.size := (Array.getElem?_eq_some_iff.1 hg).1
      have hS := Any.slices_Sort_string Tryz.laysSort g 0 cap (l.map toL) w hH hlt (by rw [List.length_map]; exact hl)
      rw [List.length_map, sortL_eq] at hS
      refine hS.mono fun e w' ⟨he, n, os, hw⟩ => ⟨he, ?_⟩
      have hsz : (putRow encStr (Sort.ahead w n) g 0 ((sortB l).map toL).toArray).heap.size = w.heap.size := by simp [putRow, mapBlock, Sort.ahead]
      have hg2 : w'.heap[g]? = some (.cells (putCells encStr 0 ((sortB l).map toL).toArray cur) 9 (0, 0)) := by
        rw [hw, heap_grow_old _ _ (by rw [hsz]; exact hlt)]
        simp only [putRow, mapBlock, Sort.ahead, Array.getElem?_modify, if_true]; rw [hg]; rfl
      obtain ⟨p1, p2⟩ := put_list (cur := cur) (sortB_length l) (by omega)
      refine ⟨⟨by rw [strV_length, sortB_length, Nat.mul_one], Or.inr ⟨g, cap, _, rfl, hb, hg2, hnc, hcm, p2.trans hcs, by rw [Nat.mul_one, ← sortB_length l]; exact p1⟩⟩, ?_⟩
      rw [hw]
      refine ⟨rfl, rfl, rfl, ?_, fun k hk hne => ?_⟩
      · unfold grow; simp only [Array.size_append]; rw [hsz]; omega
      · rw [heap_grow_old _ _ (by rw [hsz]; exact hk)]
        simp only [putRow, mapBlock, Sort.ahead, Array.getElem?_modify]
        rw [if_neg (fun e => hne (by rw [e]; rfl))]

theorem own_baseS {w : World} {base base' : Nat} {e : TypeId} {size n : Nat} {v : Value} {xs : List Value} (h : w.ownsRow base e size v n xs) (hle : base' ≤ base) : w.ownsRow base' e size v n xs := by
  refine ⟨h.1, ?_⟩
  rcases h.2 with h2 | ⟨g, cap, cur, hv, hg, r⟩
  · exact Or.inl h2
  · exact Or.inr ⟨g, cap, cur, hv, Nat.le_trans hle hg, r⟩
/-! ### meta.others -/
def others (r : Rt) : List ByteArray := sortB (r.rd ++ r.wr)
set_option maxRecDepth 100000 in
set_option maxHeartbeats 1000000 in
theorem others_calls (w : World) (r : Rt) (vr vw : Value) (hl : Lists w r vr vw) (hn : r.rd.length + r.wr.length ≤ 100000) :
    Calls Tryz.prog 154 #[agR r vr vw] w fun e w' => ∃ v, e = .returned v ∧ w'.ownsRow w.heap.size 9 1 v (others r).length (strV (others r)) ∧ Below w.heap.size w w' := by
  obtain ⟨ow, fi, ep, rd, wr'⟩ := r
  have HL := Lib.hid hl
  obtain ⟨A, ca, rfl, a1, a2, _⟩ := hl.rd
  obtain ⟨C, cb, rfl, b1, b2, _⟩ := hl.wr
  dsimp only [agR] at *
  have hbx : Below w.heap.size w (w.alloc (.cells #[.string ow, .string fi, .int .i64 ep, .slice A rd.length ca, .slice C wr'.length cb] 39)) := (Below.refl _ w).alloc (Nat.le_refl _) _
  have HBX := Lib.hid hbx
  clear hl hbx
  go_enter Tryz.func154, Tryz.ntmps154
  go_wp2_with fail
  obtain ⟨W, hW⟩ : ∃ W, ((w.alloc (.cells #[.string ow, .string fi, .int .i64 ep, .slice A rd.length ca, .slice C wr'.length cb] 39)).alloc (.cells #[.slice A rd.length ca, .slice C wr'.length cb] 35)) = W := ⟨_, rfl⟩
  have hWb : Below w.heap.size w W := by rw [← hW]; exact HBX.out.alloc HBX.out.size _
  have hWr : W.heap[w.heap.size + 1]? = some (.cells #[.slice A rd.length ca, .slice C wr'.length cb] 35 (0, 0)) := by
    rw [← hW, get_alloc, if_pos (by rw [size_alloc])]
  have hcc := concat_calls W (w.heap.size + 1) (.slice A rd.length ca) (.slice C wr'.length cb) rd wr' hWr (HL.out.rd.below hWb) (HL.out.wr.below hWb) hn
  have hln : (rd ++ wr').length ≤ 100000 := by rw [List.length_append]; exact hn
  have HOT : Hid (others ⟨ow, fi, ep, rd, wr'⟩ = sortB (rd ++ wr')) := Lib.hid rfl
  obtain ⟨L, hL⟩ : ∃ L, rd ++ wr' = L := ⟨_, rfl⟩
  rw [hL] at hcc hln HOT
  rw [hW]
  clear hL
  refine hcc.mono ?_
  rintro e w1 ⟨v, rfl, hown, hb⟩
  have hown2 := own_baseS hown hWb.size
  have hb2 : Below w.heap.size w w1 := hWb.trans (hb.mono hWb.size)
  have HO := Lib.hid hown2
  have HB := Lib.hid hb2
  have HS := Lib.hid (sort_calls hown2 (by omega))
  obtain ⟨Av, cv, rfl, _, _⟩ := own_slice hown
  clear hcc hWr hWb hW hown hb hown2 hb2
  go_wp2_with fail
  refine HS.out.mono ?_
  rintro e w2 ⟨rfl, hown3, hk⟩
  have HR : Hid (w2.ownsRow w.heap.size 9 1 (.slice Av L.length cv) (others ⟨ow, fi, ep, rd, wr'⟩).length (strV (others ⟨ow, fi, ep, rd, wr'⟩)) ∧ Below w.heap.size w w2) := Lib.hid ⟨by rw [HOT.out, sortB_length]; exact hown3, below_own HB.out HO.out hk⟩
  clear hown3 hk
  go_wp2_with fail
  go_ret
  exact ⟨_, rfl, HR.out.1, HR.out.2⟩
end Go.Proofs.YtckblcfkajpofaaGreatDoor
namespace Go.Proofs.YtckblcfkajpofaaGreatDoor
open Go Go.RowKit
section
variable {P : Program} {ops : Array Oper} {md : Region.Mode} {Q : Exit → Act → World → Prop} {S : World → Prop} {ts : List Nat}
/-- either of two may come up -/
theorem wpAnyG_two (i j : Nat) {oi oj : Oper} {fuel : Nat} {listed : Array Bool} {a : Act} {w : World} (hi : ops[i]? = some oi) (hj : ops[j]? = some oj) (hr : Region.ready md ops listed = [i, j])
    (h1 : ∀ K : Act → World → Prop, Hid (∀ a' w', (tailed ts (listed.setIfInBounds i true) = true ∨ S w') → wpAnyG P md ops Q S ts fuel (listed.setIfInBounds i true) a' w' → K a' w') →
      if Region.wanted oi (yielded ops a.tmps) = true then Oper.wp P oi a w K Q else K (a.put oi.dst undef) w)
    (h2 : ∀ K : Act → World → Prop, Hid (∀ a' w', (tailed ts (listed.setIfInBounds j true) = true ∨ S w') → wpAnyG P md ops Q S ts fuel (listed.setIfInBounds j true) a' w' → K a' w') →
      if Region.wanted oj (yielded ops a.tmps) = true then Oper.wp P oj a w K Q else K (a.put oj.dst undef) w) : wpAnyG P md ops Q S ts (fuel + 1) listed a w := by
  refine ⟨fun h0 => (by rw [hr] at h0; cases h0), fun k hk => ?_⟩
  rw [hr] at hk
  have hkk : k = i ∨ k = j := by simpa using hk
  rcases hkk with rfl | rfl
  · have := h1 (fun a' w' => (tailed ts (listed.setIfInBounds k true) = true ∨ S w') ∧ wpAnyG P md ops Q S ts fuel (listed.setIfInBounds k true) a' w') (Lib.hid fun a' w' h1 h2 => ⟨h1, h2⟩)
    unfold wpOp
    simp only [hi]
    split
    · rename_i hw; rw [if_pos hw] at this; exact .inl this
    · rename_i hw; rw [if_neg hw] at this; exact this
  · have := h2 (fun a' w' => (tailed ts (listed.setIfInBounds k true) = true ∨ S w') ∧ wpAnyG P md ops Q S ts fuel (listed.setIfInBounds k true) a' w') (Lib.hid fun a' w' h1 h2 => ⟨h1, h2⟩)
    unfold wpOp
    simp only [hj]
    split
    · rename_i hw; rw [if_pos hw] at this; exact .inl this
    · rename_i hw; rw [if_neg hw] at this; exact this
theorem step_store_all {o : Oper} {a : Act} {w : World} {K : Act → World → Prop} {E : Prop} (hg : o.guard = none) (p v : Operand) (t : TypeId) (hop : o.op = Op.store t p v) {g : Nat} {c : Array Value} (hp : a.eval p = .pointer (some ⟨g, 0, none⟩)) (hv : a.eval v = .agg c) (cur : Array Value) (t' : TypeId) (hb : w.heap[g]? = some (.cells cur t' (0, 0)))
    (hi : (P.info? t).map (·.size) = some c.size) (hl : c.size = cur.size) (h1 : c.all (·.oneCell') = true)
    (hK : ∀ w2, w2.heap[g]? = some (.cells c t' (0, 0)) → Keep (fun k => k = g) w w2 → w2.heap.size = w.heap.size → K (a.put o.dst undef) w2) :
    if Region.wanted o (yielded ops a.tmps) = true then Oper.wp P o a w K Q else E := by
  have hw : Region.wanted o (yielded ops a.tmps) = true := by simp [Region.wanted, hg]
  rw [if_pos hw]
  have hrun := run_storeAt_row (P := P) w t t' g 0 cur c hb hi (by omega) h1
  rw [rowPut_all cur c hl] at hrun
  unfold Oper.wp
  simp [execOp, hop, hp, hv, hrun, Result.andThen]
  exact hK _ (setRow_heap w g cur _ t' _ hb) (Keep.setRow w g _) (by simp)
theorem step_upd {κ : Type} [DecidableEq κ] {mk : κ → Value} {kt : TypeId} {o : Oper} {a : Act} {w : World} {Kc : Act → World → Prop} {E : Prop} (hg : o.guard = none) (m x v : Operand) (t : TypeId) (hop : o.op = Op.mapUpdate t m x v) (K : MK P kt mk) (et : TypeId) (ht : P.underlying t = some (.map kt et)) (b : Nat) (l : List (κ × Value))
    (hm : a.eval m = .map (some b)) (h : smap w mk b l) (k : κ) (hx : a.eval x = mk k) (val : Value) (hv : a.eval v = val)
    (hK : ∀ w', smap w' mk b (aput l k val) → w.grownBy w' (some b) → w'.heap.size = w.heap.size → Kc (a.put o.dst undef) w') :
    if Region.wanted o (yielded ops a.tmps) = true then Oper.wp P o a w Kc Q else E := by
  have hw : Region.wanted o (yielded ops a.tmps) = true := by simp [Region.wanted, hg]
  rw [if_pos hw]
  obtain ⟨w', hrun, r1, r2, r3⟩ := h.upd K ht k val
  unfold Oper.wp
  simp [execOp, hop, hm, hx, hv, hrun, Result.andThen]
  exact hK w' r1 r2 r3
end
end Go.Proofs.YtckblcfkajpofaaGreatDoor
