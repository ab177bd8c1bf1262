/- The law PickMade. -/
import Derived.Test.YtcalfjakgidhfaaL13f
namespace Go.Proofs.Ytcalfjakgidhfaa
open Go.RowKit
set_option linter.unusedVariables false
set_option linter.unusedSimpArgs false

def dbl (s : ByteArray) : Nat → ByteArray
  | 0 => s
  | i + 1 => dbl s i ++ dbl s i
theorem dbl_size (s : ByteArray) (i : Nat) : (dbl s i).size = s.size * 2 ^ i := by
  induction i with
  | zero => simp [dbl]
  | succ i ih => simp only [dbl, ByteArray.size_append, ih, Nat.pow_succ]; rw [← Nat.mul_assoc]; omega

set_option maxRecDepth 100000 in
set_option maxHeartbeats 4000000 in
theorem made_calls (w : World) (v : Value) (l : List PutV) (s : ByteArray) (tm ky ot : Int) (hv : rowsOf 3 putV w v l) (hw : ∀ a ∈ l, a.wf) (ht0 : -9223372036854775808 ≤ tm) (ht1 : tm ≤ 9223372036854775807) (hk0 : -9223372036854775808 ≤ ky) (hk1 : ky ≤ 9223372036854775807) (ho0 : -9223372036854775808 ≤ ot) (ho1 : ot ≤ 9223372036854775807) :
    Calls Try.prog 4 #[v, .string s, .int .i64 tm, .int .i64 ky, .int .i64 ot] w fun e w' => e = .returned (.bool true) ∧ Below w.heap.size w w' := by
  obtain ⟨B, hB⟩ : ∃ B, B = w.heap.size := ⟨_, rfl⟩
  rw [← hB]
  have HB := Lib.hid hB
  clear hB
  have HV := Lib.hid hv
  have HW := Lib.hid hw
  obtain ⟨A, c, rfl, hlc, hmx, h3⟩ := hv
  clear hw h3
  go_enter Try.func4, Try.ntmps4
  go_wp2_with fail
  refine (shown13_calls _).mono ?_
  rintro e w1 ⟨rfl, hb1⟩
  have W1 : Hid (Below w.heap.size w w1) := hb1
  clear hb1
  go_wp2_with fail
  refine (light13_calls w1 _ l (HV.out.below W1.out) HW.out).mono ?_
  rintro e w2 ⟨rfl, hd2⟩
  have W2 : Hid (Below w.heap.size w w2) := W1.out.trans (hd2.below.mono W1.out.size)
  clear hd2
  cases hlb : light13B l with
  | false =>
    have HLB := Lib.hid hlb
    clear hlb
    go_wp2_with fail
    go_ret
    exact ⟨rfl, by rw [HB.out]; exact W2.out⟩
  | true =>
  have HLB := Lib.hid hlb
  clear hlb
  by_cases hs : (100 : Int) < s.size
  · go_wp2_with fail
    go_ret
    exact ⟨rfl, by rw [HB.out]; exact W2.out⟩
  go_wp2_with fail
  refine (filled_calls w2 _ l (HV.out.below W2.out) HW.out).mono ?_
  rintro e w3 ⟨vs, vr, rfl, hbo, hb3⟩
  obtain ⟨⟨bs, rfl⟩, ⟨br, rfl⟩⟩ := hbo.ptr
  obtain ⟨S, hS⟩ : ∃ S, fillS (l.take 60) = S := ⟨_, rfl⟩
  have S3 := Lib.hid hbo.store
  rw [hS] at S3
  have W3 : Hid (Below w.heap.size w w3) := W2.out.trans (hb3.mono W2.out.size)
  clear hbo hb3 hS
  go_wp2_with fail
  have hq := pickZ_lt tm (n := 12) (by omega)
  obtain ⟨q, hq'⟩ : ∃ q : Nat, pickZ tm 12 = q := ⟨(pickZ tm 12).toNat, by omega⟩
  rw [hq'] at hq
  have hq11 : q ≤ 11 := by omega
  have HQ := Lib.hid hq'
  clear hq' hq
  have hsz : ∀ k, k ≤ 11 → (dbl s k).size ≤ 204800 := fun k hk => by
    rw [dbl_size]
    have h1 : s.size ≤ 100 := by omega
    have h2 : 2 ^ k ≤ 2 ^ 11 := Nat.pow_le_pow_right (by decide) hk
    exact Nat.le_trans (Nat.mul_le_mul h1 h2) (by decide)
  have HSZ := Lib.hid hsz
  clear hsz
  go_loopw [15, 16] (fun b i wr => ∃ k : Nat, k ≤ q ∧ b = .string (dbl s k) ∧ i = .int .i64 k ∧ w3 = wr) (fun _ i _ => q - (intOf i).toNat)
  case atStart => exact ⟨0, Nat.zero_le _, rfl, rfl, rfl⟩
  case round =>
    obtain ⟨k, hk, rfl, rfl, rfl⟩ := hrel
    by_cases hlt : k < q
    · have hz := HSZ.out k (by omega)
      have hz1 : ((dbl s k).size : Int) ≤ 204800 := by omega
      obtain ⟨bb, hbb⟩ : ∃ bb, dbl s k = bb := ⟨_, rfl⟩
      have hb2 : dbl s (k + 1) = bb ++ bb := by rw [dbl, hbb]
      rw [hbb] at hz hz1 ⊢
      have H2 := Lib.hid hb2
      clear hb2 hbb
      go_wp2_with fail
      refine (which_calls tm 12 _ ht0 ht1 (by omega) (by omega)).mono ?_
      rintro e w4 ⟨rfl, rfl⟩
      rw [HQ.out]
      go_wp2_with fail
      go_roundw
      case rel => exact ⟨k + 1, by omega, by rw [H2.out], by go_num, by trivial⟩
      case measure => simp [intOf]; omega
    · obtain rfl : k = q := by omega
      obtain ⟨bb, hbb⟩ : ∃ bb, dbl s k = bb := ⟨_, rfl⟩
      rw [hbb]
      have hz := HSZ.out k (by omega)
      rw [hbb] at hz
      have hz1 : (bb.size : Int) ≤ 204800 := by omega
      clear hbb hz
      have hp := pickZ_lt tm (n := 20) (by omega)
      obtain ⟨p, hp'⟩ : ∃ p : Nat, pickZ tm 20 = p := ⟨(pickZ tm 20).toNat, by omega⟩
      rw [hp'] at hp
      have hp20 : p ≤ 19 := by omega
      have HP := Lib.hid hp'
      clear hp' hp
      go_wp2_with fail
      refine (which_calls tm 12 _ ht0 ht1 (by omega) (by omega)).mono ?_
      rintro e w4 ⟨rfl, rfl⟩
      rw [HQ.out]
      by_cases hbig : (41000 : Int) < bb.size
      · have hj1 : (39990 : Int) + p ≤ bb.size := by omega
        have hj2 : (0 : Int) ≤ 39990 + (p : Int) := by omega
        have hj3 : IntKind.i64.wrap ((39990 : Int) + p) = 39990 + p := by rw [IntKind.wrap_i64]; omega
        go_wp2_with fail
        refine (which_calls tm 20 _ ht0 ht1 (by omega) (by omega)).mono ?_
        rintro e w4 ⟨rfl, rfl⟩
        rw [HP.out]
        go_wp2_with fail
        obtain ⟨bx, hbx⟩ : ∃ bx, bb.extract 0 (39990 + p) = bx := ⟨_, rfl⟩
        rw [hbx]
        clear hj1 hj2 hj3 hbx hbig hz1
        refine (keys_calls ky _ hk0 hk1).mono ?_
        rintro e w5 ⟨rfl, hb5⟩
        have S5 := Lib.hid (S3.out.below hb5)
        have W5 : Hid (Below w.heap.size w w5) := W3.out.trans (hb5.mono W3.out.size)
        clear hb5
        go_wp2_with fail
        refine (pick_get S5.out (key13 ky) ⟨98, 0, ⟨#[]⟩, bx⟩).mono ?_
        rintro e w6 ⟨rfl, hb6⟩
        have S6 := Lib.hid (S5.out.below hb6)
        have W6 : Hid (Below w.heap.size w w6) := W5.out.trans (hb6.mono W5.out.size)
        clear hb6
        by_cases h4 : (40000 : Int) < bx.size
        · have ha : S.ans ⟨98, 0, ⟨#[]⟩, bx⟩ (key13 ky) = (⟨#[]⟩, 10) := by unfold St.ans; simp [h4]; rfl
          rw [ha]
          clear ha
          go_wp2_with fail
          refine (keys_calls ky _ hk0 hk1).mono ?_
          rintro e w7 ⟨rfl, hb7⟩
          have S7 := Lib.hid (S6.out.below hb7)
          have W7 : Hid (Below w.heap.size w w7) := W6.out.trans (hb7.mono W6.out.size)
          clear hb7
          go_wp2_with fail
          refine (keys_calls ot _ ho0 ho1).mono ?_
          rintro e w8 ⟨rfl, hb8⟩
          have S8 := Lib.hid (S7.out.below hb8)
          have W8 : Hid (Below w.heap.size w w8) := W7.out.trans (hb8.mono W7.out.size)
          clear hb8
          go_wp2_with fail
          refine (pick_get S8.out (key13 ky) ⟨120, 1, key13 ot, ⟨#[113]⟩⟩).mono ?_
          rintro e w9 ⟨rfl, hb9⟩
          have hx : S.ans ⟨120, 1, key13 ot, ⟨#[113]⟩⟩ (key13 ky) = (S.get (key13 ot), S.getErr (key13 ot)) := by unfold St.ans; simp
          rw [hx]
          clear hx
          have S9 := Lib.hid (S8.out.below hb9)
          have W9 : Hid (Below w.heap.size w w9) := W8.out.trans (hb9.mono W8.out.size)
          clear hb9
          go_wp2_with fail
          refine (keys_calls ot _ ho0 ho1).mono ?_
          rintro e w10 ⟨rfl, hb10⟩
          have S10 := Lib.hid (S9.out.below hb10)
          have W10 : Hid (Below w.heap.size w w10) := W9.out.trans (hb10.mono W9.out.size)
          clear hb10
          go_wp2_with fail
          refine (store_get S10.out (key13 ot)).mono ?_
          rintro e w11 ⟨rfl, rfl⟩
          obtain ⟨u1, hu1⟩ : ∃ u1, S.get (key13 ot) = u1 := ⟨_, rfl⟩
          obtain ⟨u2, hu2⟩ : ∃ u2, S.getErr (key13 ot) = u2 := ⟨_, rfl⟩
          rw [hu1, hu2]
          clear hu1 hu2
          by_cases hko : ky = ot
          · subst hko
            go_wp2_with fail
            refine (keys_calls ky _ hk0 hk1).mono ?_
            rintro e w11 ⟨rfl, hb11⟩
            have S11 := Lib.hid (S10.out.below hb11)
            have W11 : Hid (Below w.heap.size w w11) := W10.out.trans (hb11.mono W10.out.size)
            clear hb11
            go_wp2_with fail
            refine (keys_calls ky _ hk0 hk1).mono ?_
            rintro e w12 ⟨rfl, hb12⟩
            have S12 := Lib.hid (S11.out.below hb12)
            have W12 : Hid (Below w.heap.size w w12) := W11.out.trans (hb12.mono W11.out.size)
            clear hb12
            go_wp2_with fail
            refine (pick_lies S12.out (key13 ky) ⟨120, 0, key13 ky, ⟨#[]⟩⟩).mono ?_
            rintro e w13 ⟨rfl, hb13⟩
            have hl : S.lies ⟨120, 0, key13 ky, ⟨#[]⟩⟩ (key13 ky) = false := by
              have hx : S.ans ⟨120, 0, key13 ky, ⟨#[]⟩⟩ (key13 ky) = (S.get (key13 ky), S.getErr (key13 ky)) := by unfold St.ans; simp
              unfold St.lies; rw [hx]; simp
            rw [hl]
            clear hl
            have S13 := Lib.hid (S12.out.below hb13)
            have W13 : Hid (Below w.heap.size w w13) := W12.out.trans (hb13.mono W12.out.size)
            clear hb13
            go_wp2_with fail
            go_ret
            exact ⟨rfl, by rw [HB.out]; exact W13.out⟩
          · go_wp2_with fail
            go_ret
            exact ⟨rfl, by rw [HB.out]; exact W10.out⟩
        · have ha : S.ans ⟨98, 0, ⟨#[]⟩, bx⟩ (key13 ky) = (bx, 0) := by unfold St.ans; simp [h4]
          rw [ha]
          clear ha
          go_wp2_with fail
          refine (keys_calls ky _ hk0 hk1).mono ?_
          rintro e w7 ⟨rfl, hb7⟩
          have S7 := Lib.hid (S6.out.below hb7)
          have W7 : Hid (Below w.heap.size w w7) := W6.out.trans (hb7.mono W6.out.size)
          clear hb7
          go_wp2_with fail
          refine (keys_calls ot _ ho0 ho1).mono ?_
          rintro e w8 ⟨rfl, hb8⟩
          have S8 := Lib.hid (S7.out.below hb8)
          have W8 : Hid (Below w.heap.size w w8) := W7.out.trans (hb8.mono W7.out.size)
          clear hb8
          go_wp2_with fail
          refine (pick_get S8.out (key13 ky) ⟨120, 1, key13 ot, ⟨#[113]⟩⟩).mono ?_
          rintro e w9 ⟨rfl, hb9⟩
          have hx : S.ans ⟨120, 1, key13 ot, ⟨#[113]⟩⟩ (key13 ky) = (S.get (key13 ot), S.getErr (key13 ot)) := by unfold St.ans; simp
          rw [hx]
          clear hx
          have S9 := Lib.hid (S8.out.below hb9)
          have W9 : Hid (Below w.heap.size w w9) := W8.out.trans (hb9.mono W8.out.size)
          clear hb9
          go_wp2_with fail
          refine (keys_calls ot _ ho0 ho1).mono ?_
          rintro e w10 ⟨rfl, hb10⟩
          have S10 := Lib.hid (S9.out.below hb10)
          have W10 : Hid (Below w.heap.size w w10) := W9.out.trans (hb10.mono W9.out.size)
          clear hb10
          go_wp2_with fail
          refine (store_get S10.out (key13 ot)).mono ?_
          rintro e w11 ⟨rfl, rfl⟩
          obtain ⟨u1, hu1⟩ : ∃ u1, S.get (key13 ot) = u1 := ⟨_, rfl⟩
          obtain ⟨u2, hu2⟩ : ∃ u2, S.getErr (key13 ot) = u2 := ⟨_, rfl⟩
          rw [hu1, hu2]
          clear hu1 hu2
          by_cases hko : ky = ot
          · subst hko
            go_wp2_with fail
            refine (keys_calls ky _ hk0 hk1).mono ?_
            rintro e w11 ⟨rfl, hb11⟩
            have S11 := Lib.hid (S10.out.below hb11)
            have W11 : Hid (Below w.heap.size w w11) := W10.out.trans (hb11.mono W10.out.size)
            clear hb11
            go_wp2_with fail
            refine (keys_calls ky _ hk0 hk1).mono ?_
            rintro e w12 ⟨rfl, hb12⟩
            have S12 := Lib.hid (S11.out.below hb12)
            have W12 : Hid (Below w.heap.size w w12) := W11.out.trans (hb12.mono W11.out.size)
            clear hb12
            go_wp2_with fail
            refine (pick_lies S12.out (key13 ky) ⟨120, 0, key13 ky, ⟨#[]⟩⟩).mono ?_
            rintro e w13 ⟨rfl, hb13⟩
            have hl : S.lies ⟨120, 0, key13 ky, ⟨#[]⟩⟩ (key13 ky) = false := by
              have hx : S.ans ⟨120, 0, key13 ky, ⟨#[]⟩⟩ (key13 ky) = (S.get (key13 ky), S.getErr (key13 ky)) := by unfold St.ans; simp
              unfold St.lies; rw [hx]; simp
            rw [hl]
            clear hl
            have S13 := Lib.hid (S12.out.below hb13)
            have W13 : Hid (Below w.heap.size w w13) := W12.out.trans (hb13.mono W12.out.size)
            clear hb13
            go_wp2_with fail
            go_ret
            exact ⟨rfl, by rw [HB.out]; exact W13.out⟩
          · go_wp2_with fail
            go_ret
            exact ⟨rfl, by rw [HB.out]; exact W10.out⟩

      · go_wp2_with fail
        obtain ⟨bx, hbx⟩ : ∃ bx, bb = bx := ⟨_, rfl⟩
        rw [hbx]
        clear hbx
        clear hbig hz1
        refine (keys_calls ky _ hk0 hk1).mono ?_
        rintro e w5 ⟨rfl, hb5⟩
        have S5 := Lib.hid (S3.out.below hb5)
        have W5 : Hid (Below w.heap.size w w5) := W3.out.trans (hb5.mono W3.out.size)
        clear hb5
        go_wp2_with fail
        refine (pick_get S5.out (key13 ky) ⟨98, 0, ⟨#[]⟩, bx⟩).mono ?_
        rintro e w6 ⟨rfl, hb6⟩
        have S6 := Lib.hid (S5.out.below hb6)
        have W6 : Hid (Below w.heap.size w w6) := W5.out.trans (hb6.mono W5.out.size)
        clear hb6
        by_cases h4 : (40000 : Int) < bx.size
        · have ha : S.ans ⟨98, 0, ⟨#[]⟩, bx⟩ (key13 ky) = (⟨#[]⟩, 10) := by unfold St.ans; simp [h4]; rfl
          rw [ha]
          clear ha
          go_wp2_with fail
          refine (keys_calls ky _ hk0 hk1).mono ?_
          rintro e w7 ⟨rfl, hb7⟩
          have S7 := Lib.hid (S6.out.below hb7)
          have W7 : Hid (Below w.heap.size w w7) := W6.out.trans (hb7.mono W6.out.size)
          clear hb7
          go_wp2_with fail
          refine (keys_calls ot _ ho0 ho1).mono ?_
          rintro e w8 ⟨rfl, hb8⟩
          have S8 := Lib.hid (S7.out.below hb8)
          have W8 : Hid (Below w.heap.size w w8) := W7.out.trans (hb8.mono W7.out.size)
          clear hb8
          go_wp2_with fail
          refine (pick_get S8.out (key13 ky) ⟨120, 1, key13 ot, ⟨#[113]⟩⟩).mono ?_
          rintro e w9 ⟨rfl, hb9⟩
          have hx : S.ans ⟨120, 1, key13 ot, ⟨#[113]⟩⟩ (key13 ky) = (S.get (key13 ot), S.getErr (key13 ot)) := by unfold St.ans; simp
          rw [hx]
          clear hx
          have S9 := Lib.hid (S8.out.below hb9)
          have W9 : Hid (Below w.heap.size w w9) := W8.out.trans (hb9.mono W8.out.size)
          clear hb9
          go_wp2_with fail
          refine (keys_calls ot _ ho0 ho1).mono ?_
          rintro e w10 ⟨rfl, hb10⟩
          have S10 := Lib.hid (S9.out.below hb10)
          have W10 : Hid (Below w.heap.size w w10) := W9.out.trans (hb10.mono W9.out.size)
          clear hb10
          go_wp2_with fail
          refine (store_get S10.out (key13 ot)).mono ?_
          rintro e w11 ⟨rfl, rfl⟩
          obtain ⟨u1, hu1⟩ : ∃ u1, S.get (key13 ot) = u1 := ⟨_, rfl⟩
          obtain ⟨u2, hu2⟩ : ∃ u2, S.getErr (key13 ot) = u2 := ⟨_, rfl⟩
          rw [hu1, hu2]
          clear hu1 hu2
          by_cases hko : ky = ot
          · subst hko
            go_wp2_with fail
            refine (keys_calls ky _ hk0 hk1).mono ?_
            rintro e w11 ⟨rfl, hb11⟩
            have S11 := Lib.hid (S10.out.below hb11)
            have W11 : Hid (Below w.heap.size w w11) := W10.out.trans (hb11.mono W10.out.size)
            clear hb11
            go_wp2_with fail
            refine (keys_calls ky _ hk0 hk1).mono ?_
            rintro e w12 ⟨rfl, hb12⟩
            have S12 := Lib.hid (S11.out.below hb12)
            have W12 : Hid (Below w.heap.size w w12) := W11.out.trans (hb12.mono W11.out.size)
            clear hb12
            go_wp2_with fail
            refine (pick_lies S12.out (key13 ky) ⟨120, 0, key13 ky, ⟨#[]⟩⟩).mono ?_
            rintro e w13 ⟨rfl, hb13⟩
            have hl : S.lies ⟨120, 0, key13 ky, ⟨#[]⟩⟩ (key13 ky) = false := by
              have hx : S.ans ⟨120, 0, key13 ky, ⟨#[]⟩⟩ (key13 ky) = (S.get (key13 ky), S.getErr (key13 ky)) := by unfold St.ans; simp
              unfold St.lies; rw [hx]; simp
            rw [hl]
            clear hl
            have S13 := Lib.hid (S12.out.below hb13)
            have W13 : Hid (Below w.heap.size w w13) := W12.out.trans (hb13.mono W12.out.size)
            clear hb13
            go_wp2_with fail
            go_ret
            exact ⟨rfl, by rw [HB.out]; exact W13.out⟩
          · go_wp2_with fail
            go_ret
            exact ⟨rfl, by rw [HB.out]; exact W10.out⟩
        · have ha : S.ans ⟨98, 0, ⟨#[]⟩, bx⟩ (key13 ky) = (bx, 0) := by unfold St.ans; simp [h4]
          rw [ha]
          clear ha
          go_wp2_with fail
          refine (keys_calls ky _ hk0 hk1).mono ?_
          rintro e w7 ⟨rfl, hb7⟩
          have S7 := Lib.hid (S6.out.below hb7)
          have W7 : Hid (Below w.heap.size w w7) := W6.out.trans (hb7.mono W6.out.size)
          clear hb7
          go_wp2_with fail
          refine (keys_calls ot _ ho0 ho1).mono ?_
          rintro e w8 ⟨rfl, hb8⟩
          have S8 := Lib.hid (S7.out.below hb8)
          have W8 : Hid (Below w.heap.size w w8) := W7.out.trans (hb8.mono W7.out.size)
          clear hb8
          go_wp2_with fail
          refine (pick_get S8.out (key13 ky) ⟨120, 1, key13 ot, ⟨#[113]⟩⟩).mono ?_
          rintro e w9 ⟨rfl, hb9⟩
          have hx : S.ans ⟨120, 1, key13 ot, ⟨#[113]⟩⟩ (key13 ky) = (S.get (key13 ot), S.getErr (key13 ot)) := by unfold St.ans; simp
          rw [hx]
          clear hx
          have S9 := Lib.hid (S8.out.below hb9)
          have W9 : Hid (Below w.heap.size w w9) := W8.out.trans (hb9.mono W8.out.size)
          clear hb9
          go_wp2_with fail
          refine (keys_calls ot _ ho0 ho1).mono ?_
          rintro e w10 ⟨rfl, hb10⟩
          have S10 := Lib.hid (S9.out.below hb10)
          have W10 : Hid (Below w.heap.size w w10) := W9.out.trans (hb10.mono W9.out.size)
          clear hb10
          go_wp2_with fail
          refine (store_get S10.out (key13 ot)).mono ?_
          rintro e w11 ⟨rfl, rfl⟩
          obtain ⟨u1, hu1⟩ : ∃ u1, S.get (key13 ot) = u1 := ⟨_, rfl⟩
          obtain ⟨u2, hu2⟩ : ∃ u2, S.getErr (key13 ot) = u2 := ⟨_, rfl⟩
          rw [hu1, hu2]
          clear hu1 hu2
          by_cases hko : ky = ot
          · subst hko
            go_wp2_with fail
            refine (keys_calls ky _ hk0 hk1).mono ?_
            rintro e w11 ⟨rfl, hb11⟩
            have S11 := Lib.hid (S10.out.below hb11)
            have W11 : Hid (Below w.heap.size w w11) := W10.out.trans (hb11.mono W10.out.size)
            clear hb11
            go_wp2_with fail
            refine (keys_calls ky _ hk0 hk1).mono ?_
            rintro e w12 ⟨rfl, hb12⟩
            have S12 := Lib.hid (S11.out.below hb12)
            have W12 : Hid (Below w.heap.size w w12) := W11.out.trans (hb12.mono W11.out.size)
            clear hb12
            go_wp2_with fail
            refine (pick_lies S12.out (key13 ky) ⟨120, 0, key13 ky, ⟨#[]⟩⟩).mono ?_
            rintro e w13 ⟨rfl, hb13⟩
            have hl : S.lies ⟨120, 0, key13 ky, ⟨#[]⟩⟩ (key13 ky) = false := by
              have hx : S.ans ⟨120, 0, key13 ky, ⟨#[]⟩⟩ (key13 ky) = (S.get (key13 ky), S.getErr (key13 ky)) := by unfold St.ans; simp
              unfold St.lies; rw [hx]; simp
            rw [hl]
            clear hl
            have S13 := Lib.hid (S12.out.below hb13)
            have W13 : Hid (Below w.heap.size w w13) := W12.out.trans (hb13.mono W12.out.size)
            clear hb13
            go_wp2_with fail
            go_ret
            exact ⟨rfl, by rw [HB.out]; exact W13.out⟩
          · go_wp2_with fail
            go_ret
            exact ⟨rfl, by rw [HB.out]; exact W10.out⟩

end Go.Proofs.Ytcalfjakgidhfaa
