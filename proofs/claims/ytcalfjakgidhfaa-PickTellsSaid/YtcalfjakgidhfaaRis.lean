/- The document's sort of keys: letterlockref12.rising. -/
import Derived.Test.YtcalfjakgidhfaaLess
import Derived.Deep.DeepCutAuto
namespace Go.Proofs.Ytcalfjakgidhfaa
open Go.RowKit
set_option linter.unusedVariables false
set_option linter.unusedSimpArgs false

/-- all up to i rise, but that at k may stand too far behind -/
def Near (L : List ByteArray) (i k : Nat) : Prop := ∀ a b x y, a < b → b ≤ i → b ≠ k → L[a]? = some x → L[b]? = some y → bLe x y = true
def swapL (L : List ByteArray) (k : Nat) (x y : ByteArray) : List ByteArray := (L.set (k + 1) x).set k y

theorem swapL_get {L : List ByteArray} {k : Nat} {x y : ByteArray} (hk : k + 1 < L.length) (j : Nat) : (swapL L k x y)[j]? = if j = k then some y else if j = k + 1 then some x else L[j]? := by
  unfold swapL
  rw [List.getElem?_set, List.getElem?_set]
  by_cases h1 : k = j
  · subst h1; simp; omega
  · by_cases h2 : k + 1 = j
    · subst h2; simp [hk]
    · have h3 : ¬ j = k := fun e => h1 e.symm
      have h4 : ¬ j = k + 1 := fun e => h2 e.symm
      simp [h1, h2, h3, h4]
theorem swapL_perm {L : List ByteArray} {k : Nat} {x y : ByteArray} (hx : L[k]? = some x) (hy : L[k + 1]? = some y) : (swapL L k x y).Perm L := by
  induction L generalizing k with
  | nil => simp at hx
  | cons z L ih =>
    cases k with
    | zero =>
      cases L with
      | nil => simp at hy
      | cons u L => simp at hx hy; subst hx hy; simp [swapL]; exact List.Perm.swap _ _ _
    | succ k =>
      simp at hx hy
      have := (ih hx hy).cons z
      simpa [swapL] using this
theorem near_zero {L : List ByteArray} {i : Nat} (h : Near L i 0) : Near L i (i + 1) := fun a b x y h1 h2 h3 => h a b x y h1 h2 (by omega)
theorem near_start {L : List ByteArray} {i : Nat} (h : Near L i (i + 1)) : Near L (i + 1) (i + 1) := fun a b x y h1 h2 h3 => h a b x y h1 (by omega) h3
theorem near_stop {L : List ByteArray} {i k : Nat} {x y : ByteArray} (h : Near L i (k + 1)) (hki : k + 1 ≤ i) (hx : L[k]? = some x) (hy : L[k + 1]? = some y) (hl : bLt y x = false) : Near L i (i + 1) := fun a b u v h1 h2 h3 hu hv => by
  by_cases hb : b = k + 1
  · subst hb
    rw [hy] at hv; cases hv
    by_cases ha : a = k
    · subst ha; rw [hx] at hu; cases hu; unfold bLe; rw [hl]; rfl
    · exact bLe_trans _ x _ (h a k u x (by omega) (by omega) (by omega) hu hx) (by unfold bLe; rw [hl]; rfl)
  · exact h a b u v h1 h2 hb hu hv
theorem near_swap {L : List ByteArray} {i k : Nat} {x y : ByteArray} (h : Near L i (k + 1)) (hki : k + 1 ≤ i) (hlen : k + 1 < L.length) (hx : L[k]? = some x) (hy : L[k + 1]? = some y) (hl : bLt y x = true) : Near (swapL L k x y) i k := fun a b u v h1 h2 h3 hu hv => by
  rw [swapL_get hlen] at hu hv
  rw [if_neg h3] at hv
  have hyx : bLe y x = true := by unfold bLe; rw [bLt_asymm hl]; rfl
  split at hv
  · rename_i hb; subst hb; cases hv
    split at hu
    · cases hu; exact hyx
    · split at hu
      · omega
      · exact h a k u x (by omega) (by omega) (by omega) hu hx
  · rename_i hb
    split at hu
    · rename_i ha; subst ha; cases hu
      exact h (a + 1) b y v (by omega) h2 hb hy hv
    · split at hu
      · rename_i ha; subst ha; cases hu
        exact h k b x v (by omega) h2 hb hx hv
      · exact h a b u v h1 h2 hb hu hv
theorem near_all {L : List ByteArray} {n : Nat} (hn : L.length ≤ n + 1) (h : Near L n (n + 1)) {l : List ByteArray} (hp : L.Perm l) : L = sortB l := by
  have hs : L.Pairwise (fun a b => bLe a b = true) := by
    rw [List.pairwise_iff_getElem]
    intro a b ha hb hab
    exact h a b _ _ hab (by omega) (by omega) (List.getElem?_eq_getElem ha) (List.getElem?_eq_getElem hb)
  rw [← sortB_congr hp, sortB_self hs]

theorem strV_set (L : List ByteArray) (i : Nat) (x : ByteArray) : (strV L).set i (.string x) = strV (L.set i x) := by simp [strV, List.map_set]

def RisAt (base g c : Nat) (l : List ByteArray) (w : World) (i k : Nat) (wr : World) : Prop := ∃ L, L.Perm l ∧ Near L i k ∧ wr.ownsRow base 9 1 (.slice (some ⟨g, 0, none⟩) l.length c) l.length (strV L) ∧ Keep (fun k => k = g) w wr
theorem RisAt.drewN {base g c : Nat} {l : List ByteArray} {w wr : World} {i k : Nat} (h : RisAt base g c l w i k wr) (n : Nat) : RisAt base g c l w i k (wr.drewN n) := by
  obtain ⟨L, h1, h2, h3, h4⟩ := h; exact ⟨L, h1, h2, h3, h4.same (Keep.drewN _ _ n)⟩
theorem RisAt.near {base g c : Nat} {l : List ByteArray} {w wr : World} {i k j m : Nat} (h : RisAt base g c l w i k wr) (hn : ∀ L : List ByteArray, Near L i k → Near L j m) : RisAt base g c l w j m wr := by
  obtain ⟨L, h1, h2, h3, h4⟩ := h; exact ⟨L, h1, hn L h2, h3, h4⟩

set_option maxRecDepth 100000 in
set_option maxHeartbeats 2000000 in
theorem rrising_calls {w : World} {base : Nat} {v : Value} {l : List ByteArray} (h : w.ownsRow base 9 1 v l.length (strV l)) (hz : ∀ s ∈ l, s.size ≤ 9223372036854775807) :
    Calls Try.prog 62 #[v] w fun e w' => e = .returned v ∧ w'.ownsRow base 9 1 v l.length (strV (sortB l)) ∧ Keep (fun k => v.ownBlock = some k) w w' := by
  by_cases hl : l.length ≤ 1
  · have hs : sortB l = l := sortB_self (by
      rw [List.pairwise_iff_getElem]; intro a b ha hb hab; omega)
    rw [hs]
    obtain ⟨A, c, rfl, hc1, hc2⟩ := own_slice h
    have HH := Lib.hid h
    have h1 : ¬ ((1 : Int) < l.length) := by omega
    clear h hs hz
    go_enter Try.func62, Try.ntmps62
    go_wp2
    go_loopw [3] (fun i wr => i = .int .i64 1 ∧ w = wr) (fun i _ => 0)
    case atStart => exact ⟨rfl, rfl⟩
    case round =>
      obtain ⟨rfl, rfl⟩ := hrel
      go_wp2
      go_ret
      exact ⟨rfl, HH.out, Keep.refl _ _⟩
  · obtain ⟨g, c, rfl, hc1, _⟩ := own_block h (by omega)
    have hmx : l.length ≤ 9223372036854775807 := by obtain ⟨A', c', e, h1, h2⟩ := own_slice h; cases e; unfold maxLen at h2; omega
    have HZ := Lib.hid hz
    have H0 : Hid (RisAt base g c l w 0 1 w) := ⟨l, List.Perm.refl _, fun a b x y h1 h2 => by omega, h, Keep.refl _ _⟩
    have hl2 : 1 < l.length := by omega
    clear h hz hl
    go_enter Try.func62, Try.ntmps62
    go_wp2
    go_loopw [3] (fun i wr => ∃ k : Nat, k + 1 ≤ l.length ∧ i = .int .i64 ((k : Int) + 1) ∧ Hid (RisAt base g c l w k (k + 1) wr)) (fun i _ => l.length - (intOf i).toNat)
    case atStart => exact ⟨0, by omega, rfl, H0⟩
    case round =>
      clear H0
      obtain ⟨k, hk, rfl, HO⟩ := hrel
      by_cases hlt : k + 1 < l.length
      · obtain ⟨wo, rfl⟩ : ∃ wo : World, wo = wr := ⟨_, rfl⟩
        have H1 : Hid (RisAt base g c l w (k + 1) (k + 1) wo) := by
          exact HO.out.near fun L => near_start
        clear HO
        go_wp2
        go_loopw [4, 5] (fun j t wr => ∃ m : Nat, m ≤ k + 1 ∧ j = .int .i64 m ∧ Hid (RisAt base g c l w (k + 1) m wr)) (fun j _ _ => (intOf j).toNat)
        case atStart => exact ⟨k + 1, by omega, by go_num, H1⟩
        case round =>
          clear H1
          obtain ⟨m, hm, rfl, HO⟩ := hrel
          cases m with
          | zero =>
            have H2 : Hid (RisAt base g c l w (k + 1) (k + 1 + 1) wr) := by
              exact HO.out.near fun L => near_zero
            clear HO
            have e0 : decide ((0 : Int) < ((0 : Nat) : Int)) = false := rfl
            go_wp2
            go_quiet (fail)
            go_wp2
            go_roundw
            case rel => exact ⟨k + 1, by omega, by go_num, H2.out.drewN _⟩
            case measure => simp [intOf]; omega
          | succ m =>
            obtain ⟨L, h1, h2, h3, h4⟩ := HO.out
            have hLl : L.length = l.length := h1.length_eq
            obtain ⟨x, hx⟩ : ∃ x, L[m]? = some x := ⟨_, List.getElem?_eq_getElem (by omega)⟩
            obtain ⟨y, hy⟩ : ∃ y, L[m + 1]? = some y := ⟨_, List.getElem?_eq_getElem (by omega)⟩
            obtain ⟨g', cap', hgg, _, hcell⟩ := own_block h3 (by omega)
            cases hgg
            have c0 := hcell m (.string x) (by rw [strV_get, hx]; rfl)
            have c1 := hcell (m + 1) (.string y) (by rw [strV_get, hy]; rfl)
            have zx : x.size ≤ 9223372036854775807 := HZ.out x (h1.mem_iff.1 (List.mem_of_getElem? hx))
            have zy : y.size ≤ 9223372036854775807 := HZ.out y (h1.mem_iff.1 (List.mem_of_getElem? hy))
            obtain ⟨c0, f0⟩ := c0
            obtain ⟨c1, f1⟩ := c1
            cases hlt' : bLt y x with
            | true =>
              have H2 : Hid (∀ n, RisAt base g c l w (k + 1) m (((wr.drewN n).setCell ⟨g, m + 1, none⟩ (.string x)).setCell ⟨g, m, none⟩ (.string y))) := by
                intro n
                have h3 : (wr.drewN n).ownsRow base 9 1 (.slice (some ⟨g, 0, none⟩) l.length c) l.length (strV L) := h3
                refine ⟨swapL L m x y, (swapL_perm hx hy).trans h1, near_swap h2 hm (by omega) hx hy hlt', ?_, ?_⟩
                · have s1 := (h3.stored (m + 1) (.string x)).1
                  have s2 := (s1.stored m (.string y)).1
                  rw [strV_set, strV_set] at s2
                  exact s2
                · exact ((h4.same (Keep.drewN _ _ n)).same (Keep.setCell (fun k => k = g) _ (p := ⟨g, m + 1, none⟩) rfl _)).same (Keep.setCell (fun k => k = g) _ (p := ⟨g, m, none⟩) rfl _)
              have HB := Lib.hid hlt'
              clear HO h1 h2 h3 h4 hLl hx hy hcell hlt'
              go_wp2
              go_quiet ((go_at_call 65; exact Calls.quiet_of (v := .bool true) ((rless_calls y x _ zy zx).mono fun e w' hh => ⟨by rw [hh.1, HB.out], hh.2⟩)))
              go_wp2
              go_roundw
              case rel => exact ⟨m, by omega, rfl, H2.out _⟩
              case measure => simp [intOf]
            | false =>
              have H2 : Hid (RisAt base g c l w (k + 1) (k + 1 + 1) wr) := ⟨L, h1, near_stop h2 hm hx hy hlt', h3, h4⟩
              have HB := Lib.hid hlt'
              clear HO h1 h2 h3 h4 hLl hx hy hcell hlt'
              go_wp2
              go_quiet ((go_at_call 65; exact Calls.quiet_of (v := .bool false) ((rless_calls y x _ zy zx).mono fun e w' hh => ⟨by rw [hh.1, HB.out], hh.2⟩)))
              go_wp2
              go_roundw
              case rel => exact ⟨k + 1, by omega, by go_num, H2.out.drewN _⟩
              case measure => simp [intOf]; omega
      · have H2 : Hid (wr.ownsRow base 9 1 (.slice (some ⟨g, 0, none⟩) l.length c) l.length (strV (sortB l)) ∧ Keep (fun k => k = g) w wr) := by
          obtain ⟨L, h1, h2, h3, h4⟩ := HO.out
          rw [← near_all (by rw [h1.length_eq]; omega) h2 h1]
          exact ⟨h3, h4⟩
        clear HO
        go_wp2
        go_ret
        exact ⟨rfl, H2.out.1, H2.out.2.mono fun k e => by rw [e]; rfl⟩
end Go.Proofs.Ytcalfjakgidhfaa
