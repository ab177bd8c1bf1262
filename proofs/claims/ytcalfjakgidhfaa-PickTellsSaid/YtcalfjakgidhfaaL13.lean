/- The helpers of chapter 13's laws: which, same, keys, shown. -/
import Derived.Test.YtcalfjakgidhfaaP3
namespace Go.Proofs.Ytcalfjakgidhfaa
open Go.RowKit
set_option linter.unusedVariables false
set_option linter.unusedSimpArgs false

set_option maxHeartbeats 400000 in
theorem which_calls (c n : Int) (w : World) (h : -9223372036854775808 ≤ c) (h' : c ≤ 9223372036854775807) (hn : 1 ≤ n) (hn' : n ≤ 1000) :
    Calls Try.prog 27 #[.int .i64 c, .int .i64 n] w fun e w' => e = .returned (.int .i64 (pickZ c n)) ∧ w = w' := by
  by_cases hc : c < 0
  · have e : pickZ c n = -((c + 1).tmod n) := by rw [pickZ, if_pos hc, ← Int.neg_tmod, Int.tmod_eq_emod_of_nonneg (by omega)]
    rw [e]; clear e
    go_enter Try.func27, Try.ntmps27
    go_wp2
    go_ret
    exact ⟨rfl, rfl⟩
  · have e : pickZ c n = c % n := by rw [pickZ, if_neg hc]
    rw [e]; clear e
    have hc' : 0 ≤ c := by omega
    go_enter Try.func27, Try.ntmps27
    go_wp2
    go_ret
    exact ⟨rfl, rfl⟩

set_option maxHeartbeats 400000 in
theorem same13_calls (w : World) (v u : Value) (l m : List ByteArray) (hv : strs w v l) (hu : strs w u m) :
    Calls Try.prog 31 #[v, u] w fun e w' => e = .returned (.bool (decide (l = m))) ∧ Drawn w w' := by
  obtain ⟨A, c, rfl, h1, h2, h3⟩ := hv
  obtain ⟨B, d, rfl, g1, g2, g3⟩ := hu
  by_cases hl : l.length = m.length
  · have hl1 : ((l.length : Int) != m.length) = false := by simp; omega
    have hl2 : (l.length != m.length) = false := by simp [hl]
    have HL := Lib.hid hl
    clear hl
    go_enter Try.func31, Try.ntmps31
    go_wp2
    go_loopw [5] (fun i wr => ∃ k : Nat, k ≤ l.length ∧ i = .int .i64 k ∧ l.take k = m.take k ∧ Drawn w wr) (fun i _ => l.length - (intOf i).toNat)
    case atStart => exact ⟨0, Nat.zero_le _, rfl, rfl, Drawn.refl w⟩
    case round =>
      obtain ⟨k, hk, rfl, ht, ⟨n, rfl⟩⟩ := hrel
      have HT := Lib.hid ht
      clear ht
      by_cases hlt : k < l.length
      · obtain ⟨x, hx⟩ : ∃ x, l[k]? = some x := ⟨_, List.getElem?_eq_getElem hlt⟩
        obtain ⟨y, hy⟩ : ∃ y, m[k]? = some y := ⟨_, List.getElem?_eq_getElem (by have := HL.out; omega)⟩
        obtain ⟨b, off, rfl, hc⟩ := h3 (by omega)
        obtain ⟨b', off', rfl, hc'⟩ := g3 (by have := HL.out; omega)
        have c1 := hc k x hx
        have c2 := hc' k y hy
        have hlt' : k < m.length := by have := HL.out; omega
        have HX := Lib.hid hx
        have HY := Lib.hid hy
        clear hc hc' h3 g3 hx hy
        by_cases hxy : x = y
        · have e1 : (x.toList == y.toList) = true := by rw [hxy]; simp
          have e2 : (x.toList != y.toList) = false := by rw [hxy]; simp
          have HE := Lib.hid hxy
          clear hxy
          go_wp2
          go_quiet (fail)
          go_wp2
          go_roundw
          case rel => exact ⟨k + 1, by omega, by go_num, by rw [take_succ_get HX.out, take_succ_get HY.out, HT.out, HE.out], _, rfl⟩
          case measure => simp [intOf]; omega
        · have e1 : (x.toList == y.toList) = false := by simp; exact fun e => hxy (list_inj e)
          have e2 : (x.toList != y.toList) = true := by simp; exact fun e => hxy (list_inj e)
          have E3 : Hid (decide (l = m) = false) := Lib.hid (by
            simp; intro e; apply hxy; have a := HX.out; rw [e, HY.out] at a; cases a; rfl)
          clear hxy
          go_wp2
          go_quiet (fail)
          go_wp2
          go_ret
          exact ⟨by rw [E3.out]; rfl, by first | exact ⟨_, rfl⟩ | exact Drawn.drewN ⟨_, rfl⟩ _⟩
      · have E3 : Hid (decide (l = m) = true) := Lib.hid (by
          have a := HT.out
          rw [List.take_of_length_le (by omega), List.take_of_length_le (by have := HL.out; omega)] at a
          simp [a])
        go_wp2
        go_ret
        exact ⟨by rw [E3.out]; rfl, by first | exact ⟨_, rfl⟩ | exact Drawn.drewN ⟨_, rfl⟩ _⟩
  · have hl1 : ((l.length : Int) != m.length) = true := by simp; omega
    have hl2 : (l.length != m.length) = true := by simp [hl]
    have E3 : Hid (decide (l = m) = false) := Lib.hid (by simp; intro e; exact hl (by rw [e]))
    clear hl
    go_enter Try.func31, Try.ntmps31
    go_wp2
    go_ret
    exact ⟨by rw [E3.out]; rfl, Drawn.refl w⟩

def key13List : List ByteArray := [⟨#[97]⟩, ⟨#[98]⟩, ⟨#[97, 98]⟩, ⟨#[99]⟩, ⟨#[110, 111, 110, 101]⟩]
def key13 (k : Int) : ByteArray := key13List.getD (pickZ k 5).toNat ByteArray.empty

set_option maxHeartbeats 400000 in
theorem keys_calls (k : Int) (w : World) (h : -9223372036854775808 ≤ k) (h' : k ≤ 9223372036854775807) :
    Calls Try.prog 29 #[.int .i64 k] w fun e w' => e = .returned (.string (key13 k)) ∧ Below w.heap.size w w' := by
  have hp := pickZ_lt k (n := 5) (by omega)
  obtain ⟨p, hpp⟩ : ∃ p, pickZ k 5 = p := ⟨_, rfl⟩
  rw [hpp] at hp
  obtain ⟨hp0, hp1⟩ := hp
  have E : Hid (key13 k = key13List.getD p.toNat ByteArray.empty) := Lib.hid (by rw [key13, hpp])
  have HP := Lib.hid hpp
  clear hpp
  have hc : p = 0 ∨ p = 1 ∨ p = 2 ∨ p = 3 ∨ p = 4 := by omega
  clear hp0 hp1
  rcases hc with rfl | rfl | rfl | rfl | rfl
  all_goals
    go_enter Try.func29, Try.ntmps29
    go_wp2_with (go_at_call 27; refine (which_calls k 5 _ h h' (by omega) (by omega)).mono ?_; rintro e w' ⟨rfl, rfl⟩; rw [HP.out])
    go_ret
    exact ⟨by rw [E.out]; rfl, (Below.refl _ _).alloc (Nat.le_refl _) _⟩

set_option maxRecDepth 100000 in
set_option maxHeartbeats 800000 in
theorem shown13_calls (w : World) : Calls Try.prog 24 #[] w fun e w' => e = .returned (.bool true) ∧ Below w.heap.size w w' := by
  obtain ⟨B, hB⟩ : ∃ B, B = w.heap.size := ⟨_, rfl⟩
  rw [← hB]
  have HB := Lib.hid hB
  clear hB
  go_enter Try.func24, Try.ntmps24
  go_wp2_with fail
  refine (storeB_new w B (by rw [HB.out]; exact Nat.le_refl _)).mono ?_
  rintro e w1 ⟨v, rfl, hS, hb⟩
  obtain ⟨b, rfl⟩ := hS.ptr
  have k1 : Keep (fun k => B ≤ k) w w1 := Keep.of_below hb
  have z1 := k1.size
  rw [← HB.out] at z1
  clear hb
  go_wp2_with fail
  refine (storeB_put hS z1 ⟨#[97]⟩ ⟨#[120]⟩).mono ?_
  rintro e w2 ⟨rfl, hS2, hk⟩
  rw [sh1]
  have k2 := k1.same hk
  clear k1 z1 hk hS
  go_wp2_with fail
  refine (pick_get hS2 ⟨#[97]⟩ ⟨100, 0, ⟨#[]⟩, ⟨#[]⟩⟩).mono ?_
  rintro e w3 ⟨rfl, hb3⟩
  rw [show (St.new.put ⟨#[97]⟩ ⟨#[120]⟩).ans ⟨100, 0, ⟨#[]⟩, ⟨#[]⟩⟩ ⟨#[97]⟩ = (⟨#[]⟩, 4) by rfl]
  have hS3 := hS2.below hb3
  have k3 := k2.same (Keep.of_below hb3)
  clear k2 hb3 hS2
  go_wp2_with fail
  refine (pick_get hS3 ⟨#[97]⟩ ⟨0, 0, ⟨#[]⟩, ⟨#[]⟩⟩).mono ?_
  rintro e w4 ⟨rfl, hb4⟩
  rw [show (St.new.put ⟨#[97]⟩ ⟨#[120]⟩).ans ⟨0, 0, ⟨#[]⟩, ⟨#[]⟩⟩ ⟨#[97]⟩ = (⟨#[120]⟩, 0) by decide]
  have k4 := k3.same (Keep.of_below hb4)
  have K4 := Lib.hid k4
  clear k3 hb4 hS3 k4
  go_wp2_with fail
  go_ret
  exact ⟨rfl, by have := K4.out; rw [HB.out] at this ⊢; exact this.new⟩
end Go.Proofs.Ytcalfjakgidhfaa
