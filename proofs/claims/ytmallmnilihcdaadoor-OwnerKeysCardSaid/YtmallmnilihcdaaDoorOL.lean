/- The law OwnerKeys, walked. -/
import Derived.Test.YtmallmnilihcdaaDoorOK
namespace Go.Proofs.YtmallmnilihcdaaDoor
open Go.RowKit
set_option linter.unusedVariables false
set_option linter.unusedSimpArgs false

set_option maxRecDepth 100000 in
set_option maxHeartbeats 4000000 in
theorem ownerKeys_calls (w : World) (a b c d : Int) (ha : -9223372036854775808 ≤ a) (ha' : a ≤ 9223372036854775807) (hb : -9223372036854775808 ≤ b) (hb' : b ≤ 9223372036854775807) (hc : -9223372036854775808 ≤ c) (hc' : c ≤ 9223372036854775807) (hd : -9223372036854775808 ≤ d) (hd' : d ≤ 9223372036854775807) :
    Calls Tryd.prog 3 #[.int .i64 a, .int .i64 b, .int .i64 c, .int .i64 d] w fun e w' => e = .returned (.bool true) ∧ Below w.heap.size w w' := by
  obtain ⟨pa, x, ea, la, ga, fa⟩ := names8_get a
  obtain ⟨pb, f, eb, lb, gb, fb⟩ := names8_get b
  obtain ⟨pc, y, ec, lc, gc, fc⟩ := names8_get c
  obtain ⟨pd, g, ed, ld, gd, fd⟩ := names8_get d
  have EA := Lib.hid ea
  have EB := Lib.hid eb
  have EC := Lib.hid ec
  have ED := Lib.hid ed
  have FA := Lib.hid fa
  have FB := Lib.hid fb
  have FC := Lib.hid fc
  have FD := Lib.hid fd
  have GA := Lib.hid ga
  have GB := Lib.hid gb
  have GC := Lib.hid gc
  have GD := Lib.hid gd
  clear ea eb ec ed fa fb fc fd ga gb gc gd
  have cell : ∀ (W : World) (p : Nat) (s : ByteArray), names8[p]? = some s → (W.alloc (.cells #[.string ⟨#[97, 110, 110, 97]⟩, .string ⟨#[98, 101, 110]⟩, .string ⟨#[97]⟩, .string ⟨#[98]⟩, .string ⟨#[110, 111, 116, 101, 115]⟩, .string ⟨#[97, 110]⟩, .string ⟨#[110, 97]⟩, .string ⟨#[110]⟩] 9)).cell? ⟨W.heap.size, p, none⟩ = some (.string s) := fun W p s h => by
    rw [cell_of_row _ _ _ _ _ _ (MapKept.heap_alloc W _).1]
    have h2 : (strV names8)[p]? = some (.string s) := by rw [strV_get, h]; rfl
    rw [← Array.getElem?_toList]; exact h2
  have CELL := Lib.hid cell
  clear cell
  go_enter Tryd.func3, Tryd.ntmps3
  go_wp2_with fail
  refine (shown15_calls w).mono ?_
  rintro e w1 ⟨rfl, hb1⟩
  have HB := Lib.hid hb1
  clear hb1
  have c1 := CELL.out w1 pa x GA.out
  have c2 := CELL.out w1 pb f GB.out
  have c3 := CELL.out w1 pc y GC.out
  have c4 := CELL.out w1 pd g GD.out
  go_wp2_with fail
  refine (pick15_calls a 8 _ ha ha' (by decide) (by decide)).mono ?_
  rintro e w' ⟨rfl, rfl⟩
  rw [EA.out]
  go_wp2_with fail
  refine (pick15_calls b 8 _ hb hb' (by decide) (by decide)).mono ?_
  rintro e w' ⟨rfl, rfl⟩
  rw [EB.out]
  go_wp2_with fail
  refine (pick15_calls c 8 _ hc hc' (by decide) (by decide)).mono ?_
  rintro e w' ⟨rfl, rfl⟩
  rw [EC.out]
  go_wp2_with fail
  refine (pick15_calls d 8 _ hd hd' (by decide) (by decide)).mono ?_
  rintro e w' ⟨rfl, rfl⟩
  rw [ED.out]
  obtain ⟨m1, hm1⟩ : ∃ m, keyS ⟨#[102]⟩ x f = m := ⟨_, rfl⟩
  obtain ⟨m2, hm2⟩ : ∃ m, keyS ⟨#[102]⟩ y g = m := ⟨_, rfl⟩
  obtain ⟨d1, hd1⟩ : ∃ m, keyS ⟨#[100]⟩ x f = m := ⟨_, rfl⟩
  obtain ⟨d2, hd2⟩ : ∃ m, keyS ⟨#[100]⟩ y g = m := ⟨_, rfl⟩
  have zf : (x.size : Int) ≤ 5 := by have := FA.out.2; omega
  have zg : (f.size : Int) ≤ 5 := by have := FB.out.2; omega
  have s1 : ((m1.size : Int) == (x.size : Int) + f.size + 3) = true := by rw [← hm1, keyS_size]; simp; show ((1 + 1 + x.size + 1 + f.size : Nat) : Int) = _; omega
  have s2 : ((d1.size : Int) == (x.size : Int) + f.size + 3) = true := by rw [← hd1, keyS_size]; simp; show ((1 + 1 + x.size + 1 + f.size : Nat) : Int) = _; omega
  have n1 : (m1.toList == d2.toList) = false := by
    rw [beq_eq_false_iff_ne]; intro e
    have e2 : m1 = d2 := bytes_ext (by rw [← ByteArray.toList_eq, ← ByteArray.toList_eq]; exact e)
    rw [← hm1, ← hd2] at e2; exact keyS_ne _ _ _ _ e2
  have I1 : Hid (m1 = m2 → x = y ∧ f = g) := Lib.hid fun e => by rw [← hm1, ← hm2] at e; exact keyS_inj (by decide) FA.out FC.out e
  have I2 : Hid (d1 = d2 → x = y ∧ f = g) := Lib.hid fun e => by rw [← hd1, ← hd2] at e; exact keyS_inj (by decide) FA.out FC.out e
  have M1 := Lib.hid hm1
  have M2 := Lib.hid hm2
  have D1 := Lib.hid hd1
  have D2 := Lib.hid hd2
  clear hm1 hm2 hd1 hd2
  by_cases hxy : x = y
  · by_cases hfg : f = g
    · have e1 : (x.toList == y.toList) = true := by rw [hxy]; simp
      have e2 : (f.toList == g.toList) = true := by rw [hfg]; simp
      have q1 : (m1.toList == m2.toList) = true := by rw [← M1.out, ← M2.out, hxy, hfg]; simp
      have q2 : (d1.toList == d2.toList) = true := by rw [← D1.out, ← D2.out, hxy, hfg]; simp
      clear hxy hfg
      go_wp2_with fail
      refine (metaKey_calls x f _ (by have := FA.out.2; omega) (by have := FB.out.2; omega)).mono ?_
      rintro e w' ⟨rfl, rfl⟩
      rw [M1.out]
      go_wp2_with fail
      refine (metaKey_calls y g _ (by have := FC.out.2; omega) (by have := FD.out.2; omega)).mono ?_
      rintro e w' ⟨rfl, rfl⟩
      rw [M2.out]
      go_wp2_with fail
      refine (dataKey_calls x f _ (by have := FA.out.2; omega) (by have := FB.out.2; omega)).mono ?_
      rintro e w' ⟨rfl, rfl⟩
      rw [D1.out]
      go_wp2_with fail
      refine (dataKey_calls y g _ (by have := FC.out.2; omega) (by have := FD.out.2; omega)).mono ?_
      rintro e w' ⟨rfl, rfl⟩
      rw [D2.out]
      go_wp2_with fail
      refine (metaKey_calls x f _ (by have := FA.out.2; omega) (by have := FB.out.2; omega)).mono ?_
      rintro e w' ⟨rfl, rfl⟩
      rw [M1.out]
      go_wp2_with fail
      refine (dataKey_calls y g _ (by have := FC.out.2; omega) (by have := FD.out.2; omega)).mono ?_
      rintro e w' ⟨rfl, rfl⟩
      rw [D2.out]
      go_wp2_with fail
      refine (metaKey_calls x f _ (by have := FA.out.2; omega) (by have := FB.out.2; omega)).mono ?_
      rintro e w' ⟨rfl, rfl⟩
      rw [M1.out]
      go_wp2_with fail
      refine (dataKey_calls x f _ (by have := FA.out.2; omega) (by have := FB.out.2; omega)).mono ?_
      rintro e w' ⟨rfl, rfl⟩
      rw [D1.out]
      go_wp2_with fail
      go_ret
      exact ⟨rfl, HB.out.trans ((Below.refl _ w1).alloc HB.out.size _)⟩
    · have e1 : (x.toList == y.toList) = true := by rw [hxy]; simp
      have e2 : (f.toList == g.toList) = false := by rw [beq_eq_false_iff_ne]; exact fun e => hfg (bytes_ext (by rw [← ByteArray.toList_eq, ← ByteArray.toList_eq]; exact e))
      have q1 : (m1.toList == m2.toList) = false := by rw [beq_eq_false_iff_ne]; exact fun e => hfg (I1.out (bytes_ext (by rw [← ByteArray.toList_eq, ← ByteArray.toList_eq]; exact e))).2
      have q2 : (d1.toList == d2.toList) = false := by rw [beq_eq_false_iff_ne]; exact fun e => hfg (I2.out (bytes_ext (by rw [← ByteArray.toList_eq, ← ByteArray.toList_eq]; exact e))).2
      clear hxy hfg
      go_wp2_with fail
      refine (metaKey_calls x f _ (by have := FA.out.2; omega) (by have := FB.out.2; omega)).mono ?_
      rintro e w' ⟨rfl, rfl⟩
      rw [M1.out]
      go_wp2_with fail
      refine (metaKey_calls y g _ (by have := FC.out.2; omega) (by have := FD.out.2; omega)).mono ?_
      rintro e w' ⟨rfl, rfl⟩
      rw [M2.out]
      go_wp2_with fail
      refine (dataKey_calls x f _ (by have := FA.out.2; omega) (by have := FB.out.2; omega)).mono ?_
      rintro e w' ⟨rfl, rfl⟩
      rw [D1.out]
      go_wp2_with fail
      refine (dataKey_calls y g _ (by have := FC.out.2; omega) (by have := FD.out.2; omega)).mono ?_
      rintro e w' ⟨rfl, rfl⟩
      rw [D2.out]
      go_wp2_with fail
      refine (metaKey_calls x f _ (by have := FA.out.2; omega) (by have := FB.out.2; omega)).mono ?_
      rintro e w' ⟨rfl, rfl⟩
      rw [M1.out]
      go_wp2_with fail
      refine (dataKey_calls y g _ (by have := FC.out.2; omega) (by have := FD.out.2; omega)).mono ?_
      rintro e w' ⟨rfl, rfl⟩
      rw [D2.out]
      go_wp2_with fail
      refine (metaKey_calls x f _ (by have := FA.out.2; omega) (by have := FB.out.2; omega)).mono ?_
      rintro e w' ⟨rfl, rfl⟩
      rw [M1.out]
      go_wp2_with fail
      refine (dataKey_calls x f _ (by have := FA.out.2; omega) (by have := FB.out.2; omega)).mono ?_
      rintro e w' ⟨rfl, rfl⟩
      rw [D1.out]
      go_wp2_with fail
      go_ret
      exact ⟨rfl, HB.out.trans ((Below.refl _ w1).alloc HB.out.size _)⟩
  · have e1 : (x.toList == y.toList) = false := by rw [beq_eq_false_iff_ne]; exact fun e => hxy (bytes_ext (by rw [← ByteArray.toList_eq, ← ByteArray.toList_eq]; exact e))
    have q1 : (m1.toList == m2.toList) = false := by rw [beq_eq_false_iff_ne]; exact fun e => hxy (I1.out (bytes_ext (by rw [← ByteArray.toList_eq, ← ByteArray.toList_eq]; exact e))).1
    have q2 : (d1.toList == d2.toList) = false := by rw [beq_eq_false_iff_ne]; exact fun e => hxy (I2.out (bytes_ext (by rw [← ByteArray.toList_eq, ← ByteArray.toList_eq]; exact e))).1
    clear hxy
    go_wp2_with fail
    refine (metaKey_calls x f _ (by have := FA.out.2; omega) (by have := FB.out.2; omega)).mono ?_
    rintro e w' ⟨rfl, rfl⟩
    rw [M1.out]
    go_wp2_with fail
    refine (metaKey_calls y g _ (by have := FC.out.2; omega) (by have := FD.out.2; omega)).mono ?_
    rintro e w' ⟨rfl, rfl⟩
    rw [M2.out]
    go_wp2_with fail
    refine (dataKey_calls x f _ (by have := FA.out.2; omega) (by have := FB.out.2; omega)).mono ?_
    rintro e w' ⟨rfl, rfl⟩
    rw [D1.out]
    go_wp2_with fail
    refine (dataKey_calls y g _ (by have := FC.out.2; omega) (by have := FD.out.2; omega)).mono ?_
    rintro e w' ⟨rfl, rfl⟩
    rw [D2.out]
    go_wp2_with fail
    refine (metaKey_calls x f _ (by have := FA.out.2; omega) (by have := FB.out.2; omega)).mono ?_
    rintro e w' ⟨rfl, rfl⟩
    rw [M1.out]
    go_wp2_with fail
    refine (dataKey_calls y g _ (by have := FC.out.2; omega) (by have := FD.out.2; omega)).mono ?_
    rintro e w' ⟨rfl, rfl⟩
    rw [D2.out]
    go_wp2_with fail
    refine (metaKey_calls x f _ (by have := FA.out.2; omega) (by have := FB.out.2; omega)).mono ?_
    rintro e w' ⟨rfl, rfl⟩
    rw [M1.out]
    go_wp2_with fail
    refine (dataKey_calls x f _ (by have := FA.out.2; omega) (by have := FB.out.2; omega)).mono ?_
    rintro e w' ⟨rfl, rfl⟩
    rw [D1.out]
    go_wp2_with fail
    go_ret
    exact ⟨rfl, HB.out.trans ((Below.refl _ w1).alloc HB.out.size _)⟩
end Go.Proofs.YtmallmnilihcdaaDoor
