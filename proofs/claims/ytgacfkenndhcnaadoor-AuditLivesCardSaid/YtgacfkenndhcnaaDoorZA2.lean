/- Rights: lists that rise. Lists of strings: the library's functions on []string that the program calls. slices.Concat of two lists of strings. slices.Index, slices.Contains on lists of strings. -/
import Derived.Test.YtgacfkenndhcnaaDoorZA1
import Derived.Test.YtgacfkenndhcnaaDoorProg
import Derived.Test.YtgacfkenndhcnaaDoorLayBS
import Derived.WalkKit
import Derived.OwnWalk
import Derived.Deep.QuietTactic
import Derived.BigQuiet
import Derived.KernelRfl
import Derived.Outline
import Derived.Deep.LoopGhost
import Derived.WalkLawsBesides
import Derived.Sort.Walk0
import Derived.Shelf.Spec.SearchS
import Derived.Maps.AppendAt
import Derived.Laws.OwnMore
import Derived.WalkSpells
import Derived.StillTailTactics
import Derived.Deep.RegionLaw
import Derived.Deep.RegionHeld3
import Derived.Test.YtgacfkenndhcnaaDoorLayGr
import Derived.Shelf.Spec.SlicesGrow
namespace Go.Proofs.YtgacfkenndhcnaaDoor
open Go.RowKit Go.Sort
set_option linter.unusedVariables false
set_option linter.unusedSimpArgs false

theorem take_succ_get2 {α : Type} {l : List α} {i : Nat} {x : α} (h : l[i]? = some x) : l.take (i + 1) = l.take i ++ [x] := by
  rw [List.take_add_one, h]; rfl
def Rising (l : List ByteArray) : Prop := l.Pairwise (fun a b => bLt a b = true)
instance (l : List ByteArray) : Decidable (Rising l) := inferInstanceAs (Decidable (List.Pairwise _ l))
def risesB (l : List ByteArray) : Bool := decide (Rising l)
def AdjTo (l : List ByteArray) (k : Nat) : Prop := ∀ i x y, i + 1 < k → l[i]? = some x → l[i + 1]? = some y → bLt x y = true
theorem adj_lt {l : List ByteArray} (h : AdjTo l l.length) : ∀ (d i : Nat) (x y : ByteArray), l[i]? = some x → l[i + 1 + d]? = some y → bLt x y = true
  | 0, i, x, y, hx, hy => h i x y (by have := (List.getElem?_eq_some_iff.1 hy).1; omega) hx hy
  | d + 1, i, x, y, hx, hy => by
    have hl := (List.getElem?_eq_some_iff.1 hy).1
    obtain ⟨z, hz⟩ : ∃ z, l[i + 1 + d]? = some z := ⟨_, List.getElem?_eq_getElem (by omega)⟩
    exact bLt_trans (adj_lt h d i x z hx hz) (h (i + 1 + d) z y (by omega) hz hy)
theorem adj_rising {l : List ByteArray} (h : AdjTo l l.length) : Rising l := by
  unfold Rising
  rw [List.pairwise_iff_getElem]
  intro i j hi hj hij
  exact adj_lt h (j - i - 1) i _ _ (List.getElem?_eq_getElem hi) (by rw [show i + 1 + (j - i - 1) = j by omega]; exact List.getElem?_eq_getElem hj)
theorem not_rising {l : List ByteArray} {i : Nat} {x y : ByteArray} (hx : l[i]? = some x) (hy : l[i + 1]? = some y) (h : bLt x y = false) : ¬ Rising l := by
  intro hr
  unfold Rising at hr
  rw [List.pairwise_iff_getElem] at hr
  obtain ⟨h1, e1⟩ := List.getElem?_eq_some_iff.1 hx
  obtain ⟨h2, e2⟩ := List.getElem?_eq_some_iff.1 hy
  have := hr i (i + 1) h1 h2 (by omega)
  rw [e1, e2, h] at this; cases this
theorem bytesLess_bLt (x y : ByteArray) : Op.bytesLess x.toList y.toList = bLt x y := by rw [bytesLess_eq]; rfl

set_option maxHeartbeats 800000 in
theorem rises_calls (w : World) (v : Value) (l : List ByteArray) (hv : strs w v l) :
    Calls Tryd.prog 52 #[v] w fun e w' => e = .returned (.bool (risesB l)) ∧ Drawn w w' := by
  obtain ⟨A, c, rfl, h1, h2, h3⟩ := hv
  go_enter Tryd.func52, Tryd.ntmps52
  go_wp2
  go_loopw [3, 6] (fun i j wr => ∃ k : Nat, k ≤ l.length ∧ j = .int .i64 k ∧ Hid (AdjTo l k) ∧ Drawn w wr) (fun _ j _ => l.length - (intOf j).toNat)
  case atStart => exact ⟨0, Nat.zero_le _, rfl, fun i x y h => by omega, Drawn.refl w⟩
  case round =>
    obtain ⟨k, hk, rfl, HA, ⟨n, rfl⟩⟩ := hrel
    by_cases hlt : k < l.length
    · cases k with
      | zero =>
        clear h3
        go_wp2
        go_quiet (fail)
        go_wp2
        go_roundw
        case rel => exact ⟨0 + 1, by omega, by go_num, fun i x y h => by omega, _, rfl⟩
        case measure => simp [intOf]; omega
      | succ m =>
        obtain ⟨x, hx⟩ : ∃ x, l[m]? = some x := ⟨_, List.getElem?_eq_getElem (by omega)⟩
        obtain ⟨y, hy⟩ : ∃ y, l[m + 1]? = some y := ⟨_, List.getElem?_eq_getElem (by omega)⟩
        obtain ⟨b, off, rfl, hc⟩ := h3 (by omega)
        have c0 := hc m x hx
        have c1 := hc (m + 1) y hy
        have HX := Lib.hid hx
        have HY := Lib.hid hy
        clear hc h3 hx hy
        cases hxy : bLt x y with
        | true =>
          have f1 : Op.bytesLess x.toList y.toList = true := by rw [bytesLess_bLt]; exact hxy
          have HXY := Lib.hid hxy
          clear hxy
          go_wp2
          go_quiet (fail)
          go_wp2
          go_roundw
          case rel =>
            refine ⟨m + 1 + 1, by omega, by go_num, fun i a b h ha hb => ?_, _, rfl⟩
            by_cases him : i = m
            · subst him
              have e1 := HX.out; have e2 := HY.out
              rw [ha] at e1; rw [hb] at e2; cases e1; cases e2; exact HXY.out
            · exact HA.out i a b (by omega) ha hb
          case measure => simp [intOf]; omega
        | false =>
          have f1 : Op.bytesLess x.toList y.toList = false := by rw [bytesLess_bLt]; exact hxy
          have HR : Hid (risesB l = false) := Lib.hid (decide_eq_false (not_rising HX.out HY.out hxy))
          clear hxy
          go_wp2
          go_quiet (fail)
          go_wp2
          go_ret
          exact ⟨by rw [HR.out]; rfl, by first | exact ⟨_, rfl⟩ | exact Drawn.drewN ⟨_, rfl⟩ _⟩
    · have HR : Hid (risesB l = true) := Lib.hid (decide_eq_true (adj_rising (by rw [show l.length = k by omega]; exact HA.out)))
      clear h3
      go_wp2
      go_ret
      exact ⟨by rw [HR.out]; rfl, _, rfl⟩

/-! ### a place in a list that rises -/
def memB (x : ByteArray) (l : List ByteArray) : Bool := l.any fun y => decide (y = x)
theorem memB_iff {x : ByteArray} {l : List ByteArray} : memB x l = true ↔ x ∈ l := by simp [memB]
def posB (l : List ByteArray) (x : ByteArray) : Nat := (l.takeWhile (fun y => bLt y x)).length
theorem pos_le (l : List ByteArray) (x : ByteArray) : posB l x ≤ l.length := (List.takeWhile_sublist _).length_le
theorem pos_less {l : List ByteArray} {x y : ByteArray} {t : Nat} (h : t < posB l x) (hy : l[t]? = some y) : bLt y x = true := by
  unfold posB at h
  induction l generalizing t with
  | nil => simp at h
  | cons z l ih =>
    rw [List.takeWhile_cons] at h
    split at h
    · rename_i hz
      cases t with
      | zero => simp at hy; subst hy; exact hz
      | succ t => simp at h hy; exact ih h hy
    · simp at h
theorem pos_not {l : List ByteArray} (hr : Rising l) {x y : ByteArray} {t : Nat} (h : posB l x ≤ t) (hy : l[t]? = some y) : bLt y x = false := by
  unfold posB at h
  induction l generalizing t with
  | nil => simp at hy
  | cons z l ih =>
    have hr' := hr
    unfold Rising at hr
    rw [List.pairwise_cons] at hr
    rw [List.takeWhile_cons] at h
    split at h
    · cases t with
      | zero => simp at h
      | succ t => simp at h hy; exact ih hr.2 h hy
    · rename_i hz
      have hz' : bLt z x = false := by simpa using hz
      cases t with
      | zero => simp at hy; subst hy; exact hz'
      | succ t =>
        simp at hy
        have hzy := hr.1 y (List.mem_of_getElem? hy)
        cases e : bLt y x with
        | false => rfl
        | true => rw [bLt_trans hzy e] at hz'; cases hz'
theorem pos_mem {l : List ByteArray} (hr : Rising l) (x : ByteArray) : (posB l x < l.length ∧ l.getD (posB l x) x = x) ↔ x ∈ l := by
  constructor
  · rintro ⟨h1, h2⟩
    rw [List.getD_eq_getElem?_getD, List.getElem?_eq_getElem h1] at h2
    simp at h2
    exact List.mem_iff_getElem.2 ⟨_, h1, h2⟩
  · intro hx
    obtain ⟨t, ht, e⟩ := List.mem_iff_getElem.1 hx
    have hget : l[t]? = some x := by rw [List.getElem?_eq_getElem ht, e]
    have h1 : posB l x ≤ t := Nat.le_of_not_lt fun h => by have := pos_less h hget; rw [bLt_irrefl] at this; cases this
    have h2 : posB l x < l.length := by omega
    refine ⟨h2, ?_⟩
    rw [List.getD_eq_getElem?_getD, List.getElem?_eq_getElem h2]
    simp only [Option.getD_some]
    by_cases ht' : posB l x = t
    · simp only [ht']; exact e
    · have h3 := List.pairwise_iff_getElem.1 hr (posB l x) t h2 ht (by omega)
      rw [e] at h3
      have := pos_not hr (Nat.le_refl _) (x := x) (List.getElem?_eq_getElem h2)
      rw [h3] at this; cases this

set_option maxHeartbeats 800000 in
theorem search_calls (w : World) (v : Value) (l : List ByteArray) (x : ByteArray) (hv : strs w v l) (hr : Rising l) (hl : l.length < 4611686018427387904) :
    Calls Tryd.prog 56 #[v, .string x] w fun e w' => e = .returned (.tuple #[.int .i64 (posB l x), .bool (memB x l)]) ∧ Drawn w w' := by
  obtain ⟨A, c, rfl, h1, h2, h3⟩ := hv
  by_cases h0 : l = []
  · subst h0
    have := Any2.slices_BinarySearch_string_empty Tryd.laysBS A c x w
    exact this.mono fun e w' ⟨he, hw⟩ => ⟨he, by rw [hw]; exact Drawn.refl _⟩
  · obtain ⟨b, off, rfl, hc⟩ := h3 (List.length_pos_iff.2 h0)
    have := Any2.slices_BinarySearch_string Tryd.laysBS b off l.length c (fun t => l.getD t x) x w hl (fun j hj => by
      rw [hc j l[j] (List.getElem?_eq_getElem hj), List.getD_eq_getElem?_getD, List.getElem?_eq_getElem hj]; rfl)
    have hk : Lib.bsGo (fun t => Op.bytesLess (l.getD t x).toList x.toList) l.length 0 l.length = posB l x := by
      refine Lib.bsGo_spec _ (posB l x) (fun t ht => ?_) (fun t ht => ?_) _ _ _ (by omega) (Nat.zero_le _) (pos_le l x)
      · rw [bytesLess_bLt]
        have htl : t < l.length := Nat.lt_of_lt_of_le ht (pos_le l x)
        have := pos_less ht (List.getElem?_eq_getElem htl)
        rw [List.getD_eq_getElem?_getD, List.getElem?_eq_getElem htl]; exact this
      · rw [bytesLess_bLt, List.getD_eq_getElem?_getD]
        cases e : l[t]? with
        | none => exact bLt_irrefl x
        | some y => exact pos_not hr ht e
    rw [hk] at this
    refine this.mono fun e w' ⟨he, q, hw⟩ => ⟨?_, q, hw⟩
    rw [he]
    have hd : decide (posB l x < l.length ∧ l.getD (posB l x) x = x) = memB x l := by rw [Bool.eq_iff_iff, decide_eq_true_eq, memB_iff]; exact pos_mem hr x
    rw [hd]

theorem place_calls (w : World) (v : Value) (l : List ByteArray) (x : ByteArray) (hv : strs w v l) (hr : Rising l) (hl : l.length < 4611686018427387904) :
    Calls Tryd.prog 49 #[v, .string x] w fun e w' => e = .returned (.tuple #[.int .i64 (posB l x), .bool (memB x l)]) ∧ Drawn w w' := by
  go_enter Tryd.func49, Tryd.ntmps49
  go_wp2_with fail
  refine (search_calls w v l x hv hr hl).mono ?_
  rintro e w' ⟨rfl, hd⟩
  have HD := Lib.hid hd
  clear hd
  go_wp2_with fail
  go_ret2
  exact ⟨rfl, HD.out⟩
theorem has_calls (w : World) (v : Value) (l : List ByteArray) (x : ByteArray) (hv : strs w v l) (hr : Rising l) (hl : l.length < 4611686018427387904) :
    Calls Tryd.prog 42 #[v, .string x] w fun e w' => e = .returned (.bool (memB x l)) ∧ Drawn w w' := by
  go_enter Tryd.func42, Tryd.ntmps42
  go_wp2_with fail
  refine (place_calls w v l x hv hr hl).mono ?_
  rintro e w' ⟨rfl, hd⟩
  have HD := Lib.hid hd
  clear hd
  go_wp2_with fail
  go_ret
  exact ⟨rfl, HD.out⟩
end Go.Proofs.YtgacfkenndhcnaaDoor
namespace Go.Proofs.YtgacfkenndhcnaaDoor
open Go.RowKit Go.Sort
set_option linter.unusedVariables false
set_option linter.unusedSimpArgs false

theorem info9 : (Tryd.prog.info? 9).map (fun i => (i.zero, i.size, i.bytes)) = some (some (.string ⟨#[]⟩), 1, 16) := by kernel_rfl
theorem own_nil (w : World) (base e size : Nat) : w.ownsRow base e size (.slice none 0 0) 0 [] := World.ownsRow_nil w base e size

/-- one string more behind a row of the call's own -/
theorem append_str {w : World} {base : Nat} {v : Value} {l : List ByteArray} (ho : w.ownsRow base 9 1 v l.length (strV l)) (k : ByteArray) (hl : l.length ≤ 1000000000) (hb : base ≤ w.heap.size) :
    ∃ v' w', (Builtin.append_ #[33, 33] 33 #[v, .slice (some ⟨w.heap.size, 0, none⟩) 1 1]).run Tryd.prog (w.alloc (.cells #[.string k] 9)) = .ok v' w' ∧
      w'.ownsRow base 9 1 v' (l ++ [k]).length (strV (l ++ [k])) ∧ Keep (fun i => v.ownBlock = some i) w w' := by
  obtain ⟨i0, hi, hz0, hz1, hz2⟩ := info_parts info9
  obtain ⟨v', w', hr, h2, h3, h4, h5⟩ := run_append_own_at (P := Tryd.prog) (w.alloc (.cells #[.string k] 9)) base 33 33 9 i0 (.string ⟨#[]⟩) 1 16 Tryd.underlying33 hi hz0 hz1 hz2 rfl (by decide) v l.length (strV l) (ho.alloc _)
    ⟨w.heap.size, 0, none⟩ 1 1 [.string k] rfl (cell_one_new w _ _) (by simp [Value.oneCell']) (by unfold maxLen; omega) (by omega) (by rw [size_alloc]; omega)
  exact ⟨v', w', hr, by simpa [strV] using h2, (Keep.alloc _ w _).same (Keep.of_grown h3 fun i e => e)⟩

set_option maxHeartbeats 800000 in
theorem clone_strs {w : World} {v : Value} {l : List ByteArray} (h : strs w v l) (hb : l.length * 16 ≤ 140737488355328) : Calls Tryd.prog 21 #[v] w fun e w' => ∃ v', e = .returned v' ∧ w'.ownsRow w.heap.size 9 1 v' l.length (strV l) ∧ Below w.heap.size w w' := by
  obtain ⟨A, c, rfl, h1, h2, h3⟩ := h
  have hnil := Lib.run_eql_slice_nil (P := Tryd.prog)
  cases A with
  | none =>
    have hl : l = [] := by
      cases l with
      | nil => rfl
      | cons x l => obtain ⟨b, off, e, _⟩ := h3 (by simp); cases e
    subst hl
    go_enter Tryd.func21, Tryd.ntmps21
    go_wp2
    go_ret
    exact ⟨_, rfl, own_nil _ _ _ _, Below.refl _ _⟩
  | some ad =>
    obtain ⟨i0, hi, hz0, hz1, hz2⟩ := info_parts info9
    obtain ⟨v', w', hr, o1, o2, o3, o4⟩ := run_append_own_at (P := Tryd.prog) (w.alloc (.cells #[] 9)) w.heap.size 33 33 9 i0 (.string ⟨#[]⟩) 1 16 Tryd.underlying33 hi hz0 hz1 hz2 rfl (by decide)
      (.slice (some ⟨w.heap.size, 0, none⟩) 0 0) 0 [] (World.ownsRow_made w #[] 0 (Nat.le_refl _) (Nat.zero_le _) rfl) ad l.length c (strV l) (by simp [strV]) (fun j u hj => by
        rw [strV_get] at hj
        cases e : l[j]? with
        | none => rw [e] at hj; cases hj
        | some s =>
          rw [e] at hj; cases hj
          have hlt := (List.getElem?_eq_some_iff.1 e).1
          obtain ⟨b, off, e', hc⟩ := h3 (by omega)
          cases e'
          rw [add_at]
          exact (Keep.alloc (fun _ => False) w _).cell (hc j s e) fun e => e) (strV_one l) (by unfold maxLen; omega) (by omega) (by rw [size_alloc]; omega)
    have hbl : Below w.heap.size w w' := ((Below.refl _ w).alloc (Nat.le_refl _) _).grown o2 (by simp) (fun k hk => by simp [Value.ownBlock] at hk; omega)
    simp only [Nat.zero_add, List.nil_append] at o1
    have H1 := Lib.hid o1
    have H2 := Lib.hid hbl
    clear o1 o2 o3 o4 hbl h3
    go_enter Tryd.func21, Tryd.ntmps21
    go_wp2_with (at_builtin; refine wp_append_run rfl _ _ _ rfl rfl rfl hr ?_)
    go_ret
    exact ⟨_, rfl, H1.out, H2.out⟩

/-- what a call hands back is its own -/
theorem own_new {w : World} {base : Nat} {e : TypeId} {size n : Nat} {v : Value} {xs : List Value} (h : w.ownsRow base e size v n xs) : ∀ k, v.ownBlock = some k → base ≤ k := fun k hk => (World.ownsRow.lt h k hk).1

/-- a list of strings behind a row of the call's own -/
theorem append_strs {w : World} {base : Nat} {v vm : Value} {l m : List ByteArray} (ho : w.ownsRow base 9 1 v l.length (strV l)) (hm : strs w vm m) (hl : l.length + m.length ≤ 1000000000) (hb : base ≤ w.heap.size) :
    ∃ v' w', (Builtin.append_ #[33, 33] 33 #[v, vm]).run Tryd.prog w = .ok v' w' ∧
      w'.ownsRow base 9 1 v' (l ++ m).length (strV (l ++ m)) ∧ Keep (fun i => v.ownBlock = some i) w w' := by
  obtain ⟨i0, hi, hz0, hz1, hz2⟩ := info_parts info9
  obtain ⟨A, c, rfl, h1, h2, h3⟩ := hm
  cases A with
  | none =>
    have hm0 : m = [] := by
      cases m with
      | nil => rfl
      | cons x m => obtain ⟨b, off, e, _⟩ := h3 (by simp); cases e
    subst hm0
    refine ⟨v, w, ?_, by simpa using ho, Keep.refl _ _⟩
    rcases ho.2 with ⟨rfl, h0⟩ | ⟨g, cap, cur, rfl, _, _, hnc, _⟩
    · simp [Builtin.append_, run_underlying Tryd.underlying33, sizeOf, typeInfo, hi, Builtin.lenOf, Builtin.firstCells, h0]
    · simp [Builtin.append_, run_underlying Tryd.underlying33, sizeOf, typeInfo, hi, Builtin.lenOf, Builtin.firstCells, hnc, storeCells]
  | some ad =>
    obtain ⟨v', w', hr, o1, o2, o3, o4⟩ := run_append_own_at (P := Tryd.prog) w base 33 33 9 i0 (.string ⟨#[]⟩) 1 16 Tryd.underlying33 hi hz0 hz1 hz2 rfl (by decide) v l.length (strV l) ho ad m.length c (strV m) (by simp [strV]) (fun j u hj => by
        rw [strV_get] at hj
        cases e : m[j]? with
        | none => rw [e] at hj; cases hj
        | some s =>
          rw [e] at hj; cases hj
          have hlt := (List.getElem?_eq_some_iff.1 e).1
          obtain ⟨b, off, e', hc⟩ := h3 (by omega)
          cases e'
          rw [add_at]
          exact hc j s e) (strV_one m) (by unfold maxLen; omega) (by omega) hb
    refine ⟨v', w', hr, ?_, Keep.of_grown o2 fun i e => e⟩
    rw [strV_append, List.length_append]; exact o1

end Go.Proofs.YtgacfkenndhcnaaDoor
namespace Go.Proofs.YtgacfkenndhcnaaDoor
open Go.RowKit Go.Sort
set_option linter.unusedVariables false
set_option linter.unusedSimpArgs false

/-- what slices.Grow makes of nothing -/
theorem grow_calls (n : Nat) (w : World) (hn : n ≤ 100000) : Calls Tryd.prog 59 #[.slice none 0 0, .int .i64 n] w fun e w' => ∃ v, e = .returned v ∧ w'.ownsRow w.heap.size 9 1 v 0 (strV []) ∧ Below w.heap.size w w' := by
  by_cases h0 : n = 0
  · subst h0
    exact (Any8.slices_Grow_room Tryd.laysGr none 0 0 0 w (by omega) (by omega) (by omega) (by omega)).mono fun e w' ⟨h1, h2⟩ => ⟨_, h1, by rw [h2]; exact own_nil _ _ _ _, by rw [h2]; exact Below.refl _ _⟩
  · obtain ⟨i0, hi, hz0, hz1, hz2⟩ := info_parts info9
    have := Any8.slices_Grow_grow Tryd.laysGr i0 (.string ⟨#[]⟩) hi hz0 (by rw [hz1]; decide) none 0 0 n [] w (Nat.le_refl _) (by omega) (by rw [hz2]; omega) (by omega) (by simp) (fun _ => rfl) (fun a h => by cases h)
    refine this.mono fun e w' ⟨h1, h2⟩ => ⟨_, h1, ?_, ?_⟩
    · rw [h2]
      have hge := grownCap_ge w (0 + n) 0 9
      have hcm : grownCap w (0 + n) 0 9 ≤ maxLen := grownCap_le_maxLen w (0 + n) 0 9 (by unfold maxLen; omega)
      refine World.ownsRow_made w.drew _ _ (Nat.le_refl _) hcm ?_
      simp only [Array.size_append, size_zeroCells, List.size_toArray, List.length_nil, Value.cells, List.size_toArray, List.length_cons]
      rw [show Tryd.laysGr_ren.t 25 = 9 from rfl]
      omega
    · rw [h2]; exact ((Below.refl w.heap.size w).drew).alloc (Nat.le_refl _) _

set_option maxRecDepth 100000 in
set_option maxHeartbeats 1000000 in
theorem concat_calls (w : World) (b : Nat) (va vb : Value) (la lb : List ByteArray) (hb : w.heap[b]? = some (.cells #[va, vb] 33 (0, 0))) (ha : strs w va la) (hbb : strs w vb lb) (hl : la.length + lb.length ≤ 100000) :
    Calls Tryd.prog 53 #[.slice (some ⟨b, 0, none⟩) 2 2] w fun e w' => ∃ v, e = .returned v ∧ w'.ownsRow w.heap.size 9 1 v (la ++ lb).length (strV (la ++ lb)) ∧ Below w.heap.size w w' := by
  have HA := Lib.hid ha
  have HBB := Lib.hid hbb
  obtain ⟨A, ca, rfl, a1, a2, _⟩ := ha
  obtain ⟨C, cb, rfl, b1, b2, _⟩ := hbb
  have hb0 := hb
  have HH := Lib.hid hb0
  have c0 := cell_of_row w b 0 _ _ _ hb
  have c1 := cell_of_row w b 1 _ _ _ hb
  simp at c0 c1
  clear hb hb0
  go_enter Tryd.func53, Tryd.ntmps53
  go_wp2
  go_loopw [3, 5, 11] (fun z s i wr => ∃ k : Nat, k ≤ 2 ∧ i = .int .i64 k ∧ z = .int .i64 (if k = 0 then 0 else if k = 1 then (la.length : Int) else la.length + lb.length) ∧ w = wr) (fun _ _ i _ => 2 - (intOf i).toNat)
  case atStart => exact ⟨0, by omega, rfl, rfl, rfl⟩
  case round =>
    obtain ⟨k, hk, rfl, rfl, rfl⟩ := hrel
    by_cases k0 : k = 0
    · subst k0
      simp only [if_true]
      go_wp2
      go_roundw
      case rel => exact ⟨1, by omega, by go_num, by simp, trivial⟩
      case measure => simp [intOf]
    by_cases k1 : k = 1
    · subst k1
      simp only [Nat.succ_ne_zero, if_false, if_true]
      go_wp2
      go_roundw
      case rel => exact ⟨2, by omega, by go_num, by simp, trivial⟩
      case measure => simp [intOf]
    obtain rfl : k = 2 := by omega
    have hz : (if (2 : Nat) = 0 then (0 : Int) else if (2 : Nat) = 1 then (la.length : Int) else la.length + lb.length) = ((la.length + lb.length : Nat) : Int) := by simp
    rw [hz]
    clear hz k0 k1
    go_wp2_with fail
    refine (grow_calls (la.length + lb.length) w hl).mono ?_
    rintro e w1 ⟨v1, rfl, ho, hbl⟩
    have HO : Hid (w1.ownsRow w.heap.size 9 1 v1 ([] : List ByteArray).length (strV []) ∧ Below w.heap.size w w1) := ⟨ho, hbl⟩
    clear ho hbl
    obtain ⟨wo, rfl⟩ : ∃ wo, wo = w1 := ⟨_, rfl⟩
    go_wp2_with fail
    go_loopw [6, 8, 27] (fun v s i wr => ∃ (k : Nat) (m : List ByteArray), k ≤ 2 ∧ i = .int .i64 k ∧ m = (if k = 0 then [] else if k = 1 then la else la ++ lb) ∧ Hid (wr.ownsRow w.heap.size 9 1 v m.length (strV m) ∧ Keep (fun k => w.heap.size ≤ k) w wr)) (fun _ _ i _ => 2 - (intOf i).toNat)
    case atStart => exact ⟨0, [], by omega, rfl, rfl, HO.out.1, Keep.of_below HO.out.2⟩
    case round =>
      clear HO
      obtain ⟨k, m, hk, rfl, rfl, HR⟩ := hrel
      have hbl : Below w.heap.size w wr := HR.out.2.new
      have hsz := hbl.size
      have d0 := cell_of_row wr b 0 _ _ _ ((Keep.of_below hbl (F := fun _ => False)).at HH.out fun e => e)
      have d1 := cell_of_row wr b 1 _ _ _ ((Keep.of_below hbl (F := fun _ => False)).at HH.out fun e => e)
      simp at d0 d1
      have sa := HA.out.below hbl
      have sb := HBB.out.below hbl
      by_cases k0 : k = 0
      · subst k0
        simp only [if_true] at HR
        obtain ⟨v', w', hr, h1, h2⟩ := append_strs (l := []) (m := la) HR.out.1 sa (by simp; omega) hsz
        have HN : Hid (w'.ownsRow w.heap.size 9 1 v' la.length (strV la) ∧ Keep (fun k => w.heap.size ≤ k) w w') := ⟨by simpa using h1, HR.out.2.trans h2 fun i hi => Or.inl (own_new HR.out.1 i hi)⟩
        clear h1 h2 sa sb hbl hsz HR
        go_wp2_with (at_builtin; refine wp_append_run rfl _ _ _ rfl rfl rfl hr ?_)
        go_roundw
        case rel => exact ⟨1, la, by omega, by go_num, by simp, HN⟩
        case measure => simp [intOf]
      by_cases k1 : k = 1
      · subst k1
        simp only [Nat.succ_ne_zero, if_false, if_true] at HR
        obtain ⟨v', w', hr, h1, h2⟩ := append_strs (l := la) (m := lb) HR.out.1 sb (by omega) hsz
        have HN : Hid (w'.ownsRow w.heap.size 9 1 v' (la ++ lb).length (strV (la ++ lb)) ∧ Keep (fun k => w.heap.size ≤ k) w w') := ⟨h1, HR.out.2.trans h2 fun i hi => Or.inl (own_new HR.out.1 i hi)⟩
        clear h1 h2 sa sb hbl hsz HR
        go_wp2_with (at_builtin; refine wp_append_run rfl _ _ _ rfl rfl rfl hr ?_)
        go_roundw
        case rel => exact ⟨2, la ++ lb, by omega, by go_num, by simp, HN⟩
        case measure => simp [intOf]
      obtain rfl : k = 2 := by omega
      have hm : (if (2 : Nat) = 0 then ([] : List ByteArray) else if (2 : Nat) = 1 then la else la ++ lb) = la ++ lb := by simp
      rw [hm] at HR
      clear hm sa sb hbl hsz k0 k1
      go_wp2_with fail
      go_ret
      exact ⟨_, rfl, HR.out.1, HR.out.2.new⟩
end Go.Proofs.YtgacfkenndhcnaaDoor
namespace Go.Proofs.YtgacfkenndhcnaaDoor
open Go.RowKit Go.Sort
set_option linter.unusedVariables false
set_option linter.unusedSimpArgs false

/-! ### slices.Index, slices.Contains -/
theorem memB_take_succ {l : List ByteArray} {k : Nat} {x y : ByteArray} (h : l[k]? = some y) : memB x (l.take (k + 1)) = (memB x (l.take k) || decide (y = x)) := by
  unfold memB; rw [take_succ_get2 h]; simp
set_option maxHeartbeats 800000 in
theorem index_calls (w : World) (v : Value) (l : List ByteArray) (x : ByteArray) (hv : strs w v l) :
    Calls Tryd.prog 33 #[v, .string x] w fun e w' => (∃ n : Int, e = .returned (.int .i64 n) ∧ decide (0 ≤ n) = memB x l) ∧ w = w' := by
  obtain ⟨A, c, rfl, h1, h2, h3⟩ := hv
  go_enter Tryd.func33, Tryd.ntmps33
  go_wp2
  go_loopw [5, 8] (fun i j wr => ∃ k : Nat, k ≤ l.length ∧ j = .int .i64 k ∧ Hid (memB x (l.take k) = false) ∧ w = wr) (fun _ j _ => l.length - (intOf j).toNat)
  case atStart => exact ⟨0, Nat.zero_le _, rfl, rfl, rfl⟩
  case round =>
    obtain ⟨k, hk, rfl, HA, rfl⟩ := hrel
    by_cases hlt : k < l.length
    · obtain ⟨y, hy⟩ : ∃ y, l[k]? = some y := ⟨_, List.getElem?_eq_getElem hlt⟩
      obtain ⟨b, off, rfl, hc⟩ := h3 (by omega)
      have c0 := hc k y hy
      have HY := Lib.hid hy
      clear hc h3 hy
      by_cases hxy : y = x
      · have f1 : (x.toList == y.toList) = true := by rw [hxy]; simp
        have HR : Hid (memB x l = true) := Lib.hid (memB_iff.2 (by rw [← hxy]; exact List.mem_of_getElem? HY.out))
        clear hxy
        go_wp2
        go_ret
        exact ⟨⟨k, rfl, by rw [HR.out]; simp⟩, rfl⟩
      · have f1 : (x.toList == y.toList) = false := by rw [beq_eq_false_iff_ne]; exact fun e => hxy (blist_inj e).symm
        have HN : Hid (memB x (l.take (k + 1)) = false) := Lib.hid (by rw [memB_take_succ HY.out, HA.out]; simp [hxy])
        clear hxy
        go_wp2
        go_roundw
        case rel => exact ⟨k + 1, by omega, by go_num, HN, trivial⟩
        case measure => simp [intOf]; omega
    · have HR : Hid (memB x l = false) := Lib.hid (by have := HA.out; rwa [List.take_of_length_le (by omega)] at this)
      clear h3
      go_wp2
      go_ret
      exact ⟨⟨-1, rfl, by rw [HR.out]; rfl⟩, rfl⟩
theorem contains_calls (w : World) (v : Value) (l : List ByteArray) (x : ByteArray) (hv : strs w v l) :
    Calls Tryd.prog 14 #[v, .string x] w fun e w' => e = .returned (.bool (memB x l)) ∧ w = w' := by
  go_enter Tryd.func14, Tryd.ntmps14
  go_wp2_with fail
  refine (index_calls w v l x hv).mono ?_
  rintro e w' ⟨⟨n, rfl, hn⟩, rfl⟩
  have HN := Lib.hid hn
  clear hn
  go_wp2_with fail
  go_ret
  exact ⟨by rw [← HN.out]; rfl, rfl⟩
end Go.Proofs.YtgacfkenndhcnaaDoor
