/- The law PickOld. -/
import Derived.Test.YtcalfjakgidhfaaL13f
namespace Go.Proofs.Ytcalfjakgidhfaa
open Go.RowKit
set_option linter.unusedVariables false
set_option linter.unusedSimpArgs false

theorem ans_stale_in (S : St) (k : ByteArray) (n i : Nat) (hn : (S.versions k).length = n) (hi : i < n) (a b : ByteArray) : S.ans ⟨115, (n : Int) - 1 - i, a, b⟩ k = ((S.versions k).getD i ByteArray.empty, 0) := by
  unfold St.ans
  rw [if_pos rfl, hn]
  dsimp only
  rw [if_neg (by omega), show n - 1 - ((n : Int) - 1 - i).toNat = i by omega]
theorem ans_stale_out (S : St) (k : ByteArray) (n : Nat) (j : Int) (hn : (S.versions k).length = n) (hj : j < 0 ∨ (n : Int) ≤ j) (a b : ByteArray) : S.ans ⟨115, j, a, b⟩ k = (⟨#[]⟩, 4) := by
  unfold St.ans
  rw [if_pos rfl, hn]
  dsimp only
  rw [if_pos hj]; rfl

set_option maxRecDepth 100000 in
set_option maxHeartbeats 4000000 in
theorem old_calls (w : World) (v : Value) (l : List PutV) (ky bk : Int) (hv : rowsOf 3 putV w v l) (hw : ∀ a ∈ l, a.wf) (hk0 : -9223372036854775808 ≤ ky) (hk1 : ky ≤ 9223372036854775807) (hb0 : -9223372036854775808 ≤ bk) (hb1 : bk ≤ 9223372036854775807) :
    Calls Try.prog 5 #[v, .int .i64 ky, .int .i64 bk] w fun e w' => e = .returned (.bool true) ∧ Below w.heap.size w w' := by
  obtain ⟨B, hB⟩ : ∃ B, B = w.heap.size := ⟨_, rfl⟩
  rw [← hB]
  have HB := Lib.hid hB
  clear hB
  have HV := Lib.hid hv
  have HW := Lib.hid hw
  obtain ⟨A, c, rfl, hlc, hmx, h3⟩ := hv
  clear hw h3
  go_enter Try.func5, Try.ntmps5
  go_wp2_with fail
  refine (shown13_calls _).mono ?_
  rintro e w1 ⟨rfl, hb1'⟩
  have W1 : Hid (Below w.heap.size w w1) := hb1'
  clear hb1'
  go_wp2_with fail
  refine (light13_calls w1 _ l (HV.out.below W1.out) HW.out).mono ?_
  rintro e w2 ⟨rfl, hd2⟩
  have W2 : Hid (Below w.heap.size w w2) := W1.out.trans (hd2.below.mono W1.out.size)
  clear hd2
  cases hlb : light13B l with
  | false =>
    have HLB := Lib.hid hlb
    clear hlb
    go_wp2_with fail
    go_ret
    exact ⟨rfl, by rw [HB.out]; exact W2.out⟩
  | true =>
  have HLB := Lib.hid hlb
  clear hlb
  go_wp2_with fail
  refine (filled_calls w2 _ l (HV.out.below W2.out) HW.out).mono ?_
  rintro e w3 ⟨vs, vr, rfl, hbo, hb3⟩
  obtain ⟨⟨bs, rfl⟩, ⟨br, rfl⟩⟩ := hbo.ptr
  obtain ⟨S, hS⟩ : ∃ S, fillS (l.take 60) = S := ⟨_, rfl⟩
  have S3 := Lib.hid hbo.store
  rw [hS] at S3
  have W3 : Hid (Below w.heap.size w w3) := W2.out.trans (hb3.mono W2.out.size)
  clear hbo hb3 hS
  go_wp2_with fail
  refine (keys_calls ky _ hk0 hk1).mono ?_
  rintro e w4 ⟨rfl, hb4⟩
  have S4 := Lib.hid (S3.out.below hb4)
  have W4 : Hid (Below w.heap.size w w4) := W3.out.trans (hb4.mono W3.out.size)
  clear hb4
  obtain ⟨k, hkk⟩ : ∃ k, key13 ky = k := ⟨_, rfl⟩
  rw [hkk]
  have HKK := Lib.hid hkk
  clear hkk
  go_wp2_with fail
  refine (store_versions S4.out k).mono ?_
  rintro e w5 ⟨v5, rfl, hv5, hb5⟩
  have S5 := Lib.hid (S4.out.below hb5)
  have W5 : Hid (Below w.heap.size w w5) := W4.out.trans (hb5.mono W4.out.size)
  obtain ⟨L, hL⟩ : ∃ L, S.versions k = L := ⟨_, rfl⟩
  rw [hL] at hv5
  have HL := Lib.hid hL
  have hs5 := strs_own hv5
  have V5 := Lib.hid hs5
  obtain ⟨A5, c5, rfl, hl5, hm5, hc5⟩ := hs5
  clear hv5 hb5 hL hc5
  go_wp2_with fail
  refine (store_puts S5.out).mono ?_
  rintro e w6 ⟨rfl, rfl⟩
  obtain ⟨pz, hpz⟩ : ∃ pz : Int, (S.puts : Int) = pz := ⟨_, rfl⟩
  rw [hpz]
  have HPZ := Lib.hid hpz
  clear hpz
  go_wp2_with fail
  have hlv : (S.versions k).length = L.length := by rw [HL.out]
  have hl2000 : L.length ≤ 2000 := by
    have hok := IsStore.ok S5.out
    rw [← hlv]
    unfold St.versions
    cases e : aget S.ever k with
    | none => simp
    | some x => have := hok.len k x e; have := hok.puts; simp; omega
  have HLV := Lib.hid hlv
  clear hlv
  go_loopw [14] (fun i wr => ∃ m : Nat, m ≤ L.length ∧ i = .int .i64 m ∧ Hid (Below w5.heap.size w5 wr)) (fun i _ => L.length - (intOf i).toNat)
  case atStart => exact ⟨0, Nat.zero_le _, rfl, Below.refl _ _⟩
  case round =>
    obtain ⟨m, hm, rfl, HR⟩ := hrel
    by_cases hlt : m < L.length
    · obtain ⟨x, hx⟩ : ∃ x, L[m]? = some x := ⟨_, List.getElem?_eq_getElem hlt⟩
      have hans := ans_stale_in S k L.length m HLV.out hlt ⟨#[]⟩ ⟨#[]⟩
      rw [HL.out, List.getD_eq_getElem?_getD, hx] at hans
      have HANS : Hid (S.ans ⟨115, (L.length : Int) - 1 - m, ⟨#[]⟩, ⟨#[]⟩⟩ k = (x, 0)) := hans
      have hA5 : ∃ b off, A5 = some ⟨b, off, none⟩ ∧ ∀ i s, L[i]? = some s → w5.cell? ⟨b, off + i, none⟩ = some (.string s) := by
        obtain ⟨A', c', e, _, _, h3⟩ := V5.out
        cases e
        exact h3 (by omega)
      obtain ⟨b5, off5, rfl, hcell⟩ := hA5
      have hcx := hcell m x hx
      have HCX := Lib.hid hcx
      clear hcell hcx hx hans
      go_wp2_with fail
      refine (pick_get (S5.out.below HR.out) k ⟨115, (L.length : Int) - 1 - m, ⟨#[]⟩, ⟨#[]⟩⟩).mono ?_
      rintro e wq ⟨rfl, hbq⟩
      rw [HANS.out]
      have HQ : Hid (Below w5.heap.size w5 wq) := HR.out.trans (hbq.mono HR.out.size)
      have hcq := (Keep.of_below HQ.out (F := fun _ => False)).cell HCX.out (fun e => e)
      clear hbq HR
      go_wp2_with fail
      refine ⟨⟨m + 1, by omega, by simp, HQ⟩, ?_⟩
      simp only [intOf]; omega
    · obtain rfl : m = L.length := by omega
      have S6 := Lib.hid (S5.out.below HR.out)
      have W6 : Hid (Below w.heap.size w wr) := W5.out.trans (HR.out.mono W5.out.size)
      have V6 := Lib.hid (V5.out.below HR.out)
      clear HR
      have hq := pickZ_lt bk (n := 9) (by omega)
      obtain ⟨q, hq'⟩ : ∃ q : Nat, pickZ bk 9 = q := ⟨(pickZ bk 9).toNat, by omega⟩
      rw [hq'] at hq
      have hq9 : q ≤ 8 := by omega
      have HQQ := Lib.hid hq'
      clear hq' hq
      go_wp2_with fail
      refine (which_calls bk 9 _ hb0 hb1 (by omega) (by omega)).mono ?_
      rintro e wz ⟨rfl, rfl⟩
      rw [HQQ.out]
      go_wp2_with fail
      refine (pick_get S6.out k ⟨115, (L.length : Int) + q, ⟨#[]⟩, ⟨#[]⟩⟩).mono ?_
      rintro e w7 ⟨rfl, hb7⟩
      rw [ans_stale_out S k L.length _ HLV.out (Or.inr (by omega))]
      have V7 := Lib.hid (V6.out.below hb7)
      have S7 := Lib.hid (S6.out.below hb7)
      have W7 : Hid (Below w.heap.size w w7) := W6.out.trans (hb7.mono W6.out.size)
      clear hb7
      go_wp2_with fail
      refine (which_calls bk 9 _ hb0 hb1 (by omega) (by omega)).mono ?_
      rintro e wz ⟨rfl, rfl⟩
      rw [HQQ.out]
      go_wp2_with fail
      refine (pick_get S7.out k ⟨115, -1 - (q : Int), ⟨#[]⟩, ⟨#[]⟩⟩).mono ?_
      rintro e w8 ⟨rfl, hb8⟩
      rw [ans_stale_out S k L.length _ HLV.out (Or.inl (by omega))]
      have V8 := Lib.hid (V7.out.below hb8)
      have S8 := Lib.hid (S7.out.below hb8)
      have W8 : Hid (Below w.heap.size w w8) := W7.out.trans (hb8.mono W7.out.size)
      clear hb8
      go_wp2_with fail
      refine (store_get S8.out k).mono ?_
      rintro e wz ⟨rfl, rfl⟩
      go_wp2_with fail
      refine (pick_get S8.out k ⟨104, bk, ⟨#[98]⟩, ⟨#[113]⟩⟩).mono ?_
      rintro e w9 ⟨rfl, hb9⟩
      rw [show S.ans ⟨104, bk, ⟨#[98]⟩, ⟨#[113]⟩⟩ k = (S.get k, S.getErr k) by unfold St.ans; simp]
      have V9 := Lib.hid (V8.out.below hb9)
      have S9 := Lib.hid (S8.out.below hb9)
      have W9 : Hid (Below w.heap.size w w9) := W8.out.trans (hb9.mono W8.out.size)
      clear hb9
      go_wp2_with fail
      refine (pick_get S9.out ⟨#[122, 122]⟩ ⟨120, 0, k, ⟨#[]⟩⟩).mono ?_
      rintro e w10 ⟨rfl, hb10⟩
      rw [show S.ans ⟨120, 0, k, ⟨#[]⟩⟩ ⟨#[122, 122]⟩ = (S.get k, S.getErr k) by unfold St.ans; simp]
      have V10 := Lib.hid (V9.out.below hb10)
      have S10 := Lib.hid (S9.out.below hb10)
      have W10 : Hid (Below w.heap.size w w10) := W9.out.trans (hb10.mono W9.out.size)
      clear hb10
      go_wp2_with fail
      refine (pick_lies S10.out k ⟨104, bk, ⟨#[]⟩, ⟨#[]⟩⟩).mono ?_
      rintro e w11 ⟨rfl, hb11⟩
      rw [show S.lies ⟨104, bk, ⟨#[]⟩, ⟨#[]⟩⟩ k = false by
        have hx : S.ans ⟨104, bk, ⟨#[]⟩, ⟨#[]⟩⟩ k = (S.get k, S.getErr k) := by unfold St.ans; simp
        unfold St.lies; rw [hx]; simp]
      have V11 := Lib.hid (V10.out.below hb11)
      have S11 := Lib.hid (S10.out.below hb11)
      have W11 : Hid (Below w.heap.size w w11) := W10.out.trans (hb11.mono W10.out.size)
      clear hb11
      go_wp2_with fail
      refine (store_puts S11.out).mono ?_
      rintro e wz ⟨rfl, rfl⟩
      rw [HPZ.out]
      go_wp2_with fail
      refine (store_versions S11.out k).mono ?_
      rintro e w12 ⟨v12, rfl, hv12, hb12⟩
      rw [HL.out] at hv12
      have V12 := Lib.hid (V11.out.below hb12)
      have U12 := Lib.hid (strs_own hv12)
      clear hv12
      have S12 := Lib.hid (S11.out.below hb12)
      have W12 : Hid (Below w.heap.size w w12) := W11.out.trans (hb12.mono W11.out.size)
      clear hb12
      go_wp2_with fail
      refine (same13_calls w12 _ _ L L U12.out V12.out).mono ?_
      rintro e w13 ⟨rfl, hd13⟩
      rw [decide_eq_true rfl]
      have hb13 := hd13.below
      clear hd13
      have S13 := Lib.hid (S12.out.below hb13)
      have W13 : Hid (Below w.heap.size w w13) := W12.out.trans (hb13.mono W12.out.size)
      clear hb13
      obtain ⟨u1, hu1⟩ : ∃ u1, S.get k = u1 := ⟨_, rfl⟩
      have HU1 := Lib.hid hu1
      rw [hu1]
      clear hu1
      have hge : S.getErr k = 0 ∨ S.getErr k = 4 := by unfold St.getErr; split <;> simp
      rcases hge with hge | hge
      · rw [hge]
        have HGE := Lib.hid hge
        clear hge
        go_wp2_with fail
        refine (pick_lies S13.out k ⟨100, 0, ⟨#[]⟩, ⟨#[]⟩⟩).mono ?_
        rintro e w14 ⟨rfl, hb14⟩
        rw [show S.lies ⟨100, 0, ⟨#[]⟩, ⟨#[]⟩⟩ k = true by
          have hx : S.ans ⟨100, 0, ⟨#[]⟩, ⟨#[]⟩⟩ k = (⟨#[]⟩, 4) := by unfold St.ans; simp; rfl
          unfold St.lies; rw [hx, HGE.out]; simp]
        have W14 : Hid (Below w.heap.size w w14) := W13.out.trans (hb14.mono W13.out.size)
        clear hb14
        go_wp2_with fail
        go_ret
        exact ⟨rfl, by rw [HB.out]; exact W14.out⟩
      · rw [hge]
        clear hge
        go_wp2_with fail
        go_ret
        exact ⟨rfl, by rw [HB.out]; exact W13.out⟩
end Go.Proofs.Ytcalfjakgidhfaa
