/- Keys in order: the store's 'rising', by the shelf's contract of the sort. -/
import Derived.Test.YtcalfjakgidhfaaStC
import Derived.Test.YtcalfjakgidhfaaOrd
import Derived.Test.YtcalfjakgidhfaaShelf
import Derived.Sort.LotA
namespace Go.Proofs.Ytcalfjakgidhfaa
open Go.RowKit Go.Sort
set_option linter.unusedVariables false
set_option linter.unusedSimpArgs false

theorem ltOf_bcmp (x y : ByteArray) : ltOf bcmp x y = bLt x y := by
  unfold ltOf bcmp
  cases h : bLt x y
  · cases h' : bLt y x <;> simp
  · simp
theorem swo_bcmp : SWO (ltOf bcmp) where
  irrefl x := by rw [ltOf_bcmp]; exact bLt_irrefl x
  trans x y z h1 h2 := by rw [ltOf_bcmp] at *; exact bLt_trans h1 h2
  ntrans x y z h1 h2 := by rw [ltOf_bcmp] at *; exact bLt_ntrans h1 h2
theorem less_calls (a b : ByteArray) (w : World) : Calls Try.prog 59 #[.string a, .string b] w fun e w' => e = .returned (.bool (bLt a b)) ∧ w = w' := by
  have h := bytesLess_eq a.toList b.toList
  have h' : Op.bytesLess a.toList b.toList = bLt a b := h
  clear h
  go_enter Try.func59, Try.ntmps59
  go_wp2
  go_ret
  exact ⟨by first | rfl | rw [h']; rfl, rfl⟩

theorem rising1_calls (a b : ByteArray) (w : World) : Calls Try.prog 58 #[.string a, .string b] w fun e w' => e = .returned (.int .i64 (bcmp a b)) ∧ w = w' := by
  have E : Hid (bcmp a b = if bLt a b then -1 else if bLt b a then 1 else 0) := rfl
  cases h1 : bLt a b with
  | true =>
    go_enter Try.func58, Try.ntmps58
    go_wp2_with fail
    refine (less_calls a b _).mono ?_
    rintro e w' ⟨rfl, rfl⟩
    rw [h1]
    go_wp2_with fail
    go_ret
    exact ⟨by rw [E.out, h1]; rfl, rfl⟩
  | false =>
    cases h2 : bLt b a with
    | true =>
      go_enter Try.func58, Try.ntmps58
      go_wp2_with fail
      refine (less_calls a b _).mono ?_
      rintro e w' ⟨rfl, rfl⟩
      rw [h1]
      go_wp2_with fail
      refine (less_calls b a _).mono ?_
      rintro e w' ⟨rfl, rfl⟩
      rw [h2]
      go_wp2_with fail
      go_ret
      exact ⟨by rw [E.out, h1, h2]; rfl, rfl⟩
    | false =>
      go_enter Try.func58, Try.ntmps58
      go_wp2_with fail
      refine (less_calls a b _).mono ?_
      rintro e w' ⟨rfl, rfl⟩
      rw [h1]
      go_wp2_with fail
      refine (less_calls b a _).mono ?_
      rintro e w' ⟨rfl, rfl⟩
      rw [h2]
      go_wp2_with fail
      go_ret
      exact ⟨by rw [E.out, h1, h2]; rfl, rfl⟩

theorem putCells_list {l m : List ByteArray} {cur : Array Value} (hl : m.length = l.length) (ht : cur.toList.take l.length = strV l) (hc : l.length ≤ cur.size) : (putCells Value.string 0 m.toArray cur).toList.take m.length = strV m ∧ (putCells Value.string 0 m.toArray cur).size = cur.size := by
  have hsz : (putCells Value.string 0 m.toArray cur).size = cur.size := by simp [putCells]
  refine ⟨?_, hsz⟩
  apply List.ext_getElem?
  intro i
  rw [List.getElem?_take, strV_get]
  split
  · rename_i hi
    have hi' : i < cur.size := by omega
    rw [Array.getElem?_toList]
    simp [putCells, hi', hi]
  · rename_i hi
    rw [List.getElem?_eq_none (by omega)]; rfl

theorem sortWorld_own {w : World} {e : TypeId} {g cap n : Nat} {l m : List ByteArray} {os : Array Obj} (h : w.ownsRow 0 e 1 (.slice (some ⟨g, 0, none⟩) l.length cap) l.length (strV l)) (hm : m.length = l.length) (base : Nat) (hb : base ≤ g) :
    (sortWorld Value.string w g 0 n m.toArray os).ownsRow base e 1 (.slice (some ⟨g, 0, none⟩) l.length cap) l.length (strV m) ∧ Keep (fun k => k = g) w (sortWorld Value.string w g 0 n m.toArray os) := by
  rcases h.2 with ⟨hv, _⟩ | ⟨g', cap', cur, hv, _, hg, hnc, hcm, hcs, htake⟩
  · cases hv
  · cases hv
    have hlt : g < w.heap.size := (Array.getElem?_eq_some_iff.1 hg).1
    have hsz : (putRow Value.string (Sort.ahead w n) g 0 m.toArray).heap.size = w.heap.size := by simp [putRow, mapBlock, Sort.ahead]
    have hg2 : (sortWorld Value.string w g 0 n m.toArray os).heap[g]? = some (.cells (putCells Value.string 0 m.toArray cur) e (0, 0)) := by
      unfold sortWorld; rw [heap_grow_old _ _ (by rw [hsz]; exact hlt)]
      simp only [putRow, mapBlock, Sort.ahead, Array.getElem?_modify, if_true]; rw [hg]; rfl
    obtain ⟨p1, p2⟩ := putCells_list hm (by rw [Nat.mul_one] at htake; exact htake) (by omega)
    refine ⟨⟨by rw [strV_length, hm, Nat.mul_one], Or.inr ⟨g, cap, _, rfl, hb, hg2, hnc, hcm, p2.trans hcs, by rw [Nat.mul_one, ← hm]; exact p1⟩⟩, ⟨rfl, rfl, rfl, ?_, fun k hk hne => ?_⟩⟩
    · unfold sortWorld grow; simp only [Array.size_append]; rw [hsz]; omega
    · unfold sortWorld; rw [heap_grow_old _ _ (by rw [hsz]; exact hk)]
      simp only [putRow, mapBlock, Sort.ahead, Array.getElem?_modify]
      rw [if_neg (fun e => hne e.symm)]

set_option maxHeartbeats 800000 in
theorem rising_calls {w : World} {base : Nat} {v : Value} {l : List ByteArray} (h : w.ownsRow base 9 1 v l.length (strV l)) (hl : l.length < 4611686018427387904) :
    Calls Try.prog 44 #[v] w fun e w' => e = .returned v ∧ w'.ownsRow base 9 1 v l.length (strV (sortB l)) ∧ Keep (fun k => v.ownBlock = some k) w w' := by
  have eg : ∀ args w, (callFunc 58 args).run Try.prog w = .ok (.enter 58 args) w := enters_of Try.func58 (by kernel_rfl) rfl
  by_cases h0 : l = []
  · subst h0
    have hex : ∃ p c, v = .slice p 0 c := by
      rcases h.2 with ⟨rfl, _⟩ | ⟨g, cap, cur, rfl, _⟩
      · exact ⟨_, _, rfl⟩
      · exact ⟨_, _, rfl⟩
    obtain ⟨p, c, rfl⟩ := hex
    have HH := Lib.hid h
    clear h
    go_enter Try.func44, Try.ntmps44
    go_wp2_with fail
    refine (Try.slices_SortFunc_none (α := ByteArray) _ _ _ _).mono ?_
    rintro e w' ⟨rfl, rfl⟩
    go_wp2_with fail
    go_ret
    exact ⟨rfl, by rw [sortB_nil]; exact HH.out, Keep.refl _ _⟩
  · rcases h.2 with ⟨rfl, hn⟩ | ⟨g, cap, cur, rfl, hb, hg, hnc, hcm, hcs, htake⟩
    · exact absurd (List.eq_nil_of_length_eq_zero hn) h0
    · have hH : Holds Value.string w g 0 l.toArray := fun j hj => by
        simp at hj
        refine ⟨?_, frozen_of_row hg _⟩
        obtain ⟨A, c, hv, _, _, hcc⟩ := strs_own h
        obtain ⟨b, off, hA, hc⟩ := hcc (by omega)
        subst hA; cases hv
        have := hc j l[j] (List.getElem?_eq_getElem hj)
        rw [this]; simp [hj]
      have hS := Try.slices_SortFunc_total Value.string (fun _ => rfl) bcmp swo_bcmp 58 #[] g 0 cap l.toArray w eg (fun m os dk _ x y => (rising1_calls x y _).mono fun e w' ⟨he, hw⟩ => ⟨he, 0, #[], by rw [grow_empty, ← hw]; rfl⟩) hH (Array.getElem?_eq_some_iff.1 hg).1 (by simpa using hl) (fun x y h1 h2 => by rw [ltOf_bcmp] at h1 h2; exact bLt_antisymm h1 h2)
      have hso : (l.toArray.toList.mergeSort fun x y => !(ltOf bcmp) y x) = sortB l := by
        unfold sortB; congr 1; funext x y; rw [ltOf_bcmp]; rfl
      rw [hso] at hS
      simp only [List.size_toArray] at hS
      have hfin : ∀ n os, (sortWorld Value.string w g 0 n (sortB l).toArray os).ownsRow base 9 1 (.slice (some ⟨g, 0, none⟩) l.length cap) l.length (strV (sortB l)) ∧ Keep (fun k => (Value.slice (some ⟨g, 0, none⟩) l.length cap).ownBlock = some k) w (sortWorld Value.string w g 0 n (sortB l).toArray os) := fun n os => by
        have ho : w.ownsRow 0 9 1 (.slice (some ⟨g, 0, none⟩) l.length cap) l.length (strV l) := ⟨h.1, Or.inr ⟨g, cap, cur, rfl, Nat.zero_le _, hg, hnc, hcm, hcs, htake⟩⟩
        obtain ⟨a, b⟩ := sortWorld_own (n := n) (os := os) ho (sortB_length l) base hb
        exact ⟨a, b.mono fun k e => by rw [e]; rfl⟩
      have HF := Lib.hid hfin
      clear hfin hH h hg hcs htake hso
      go_enter Try.func44, Try.ntmps44
      go_wp2_with fail
      refine hS.mono ?_
      rintro e w' ⟨rfl, n, os, rfl⟩
      go_wp2_with fail
      go_ret
      exact ⟨rfl, (HF.out n os).1, (HF.out n os).2⟩
end Go.Proofs.Ytcalfjakgidhfaa
