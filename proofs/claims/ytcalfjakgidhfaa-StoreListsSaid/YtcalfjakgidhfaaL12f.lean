/- The law StoreFills, walked. -/
import Derived.Test.YtcalfjakgidhfaaList
import Derived.Test.YtcalfjakgidhfaaL12b
namespace Go.Proofs.Ytcalfjakgidhfaa
open Go.RowKit Go.Sort
set_option linter.unusedVariables false
set_option linter.unusedSimpArgs false

def letter (j : Nat) : ByteArray := ⟨#[UInt8.ofNat (97 + j)]⟩
def alphabet : ByteArray := ⟨#[97, 98, 99, 100, 101, 102, 103, 104, 105, 106, 107, 108, 109, 110, 111, 112, 113, 114, 115, 116, 117, 118, 119, 120, 121, 122]⟩
theorem alphabet_at : ∀ j, j < 26 → alphabet.extract j (j + 1) = letter j := by decide
theorem letter_inj : ∀ i, i < 26 → ∀ j, j < 26 → letter i = letter j → i = j := by decide
theorem letter_size (j : Nat) : (letter j).size = 1 := rfl
theorem letter_zero : letter 0 = ⟨#[97]⟩ := rfl

/-- behind so many blobs, put under n letters in turn -/
def fill (n : Nat) : Nat → St
  | 0 => St.new
  | i + 1 => (fill n i).put (letter (i % n)) ⟨#[120]⟩

theorem mem_letters {n m j : Nat} (hn : n ≤ 26) (hj : j < 26) (hm : m ≤ n) : letter j ∈ (List.range m).map letter ↔ j < m := by
  rw [List.mem_map]
  constructor
  · rintro ⟨i, hi, e⟩
    rw [List.mem_range] at hi
    have := letter_inj i (by omega) j hj e; omega
  · intro h; exact ⟨j, List.mem_range.2 h, rfl⟩

theorem fill_ok (n : Nat) (h1 : 1 ≤ n) (h26 : n ≤ 26) (i : Nat) : i ≤ 2000 → (fill n i).puts = i ∧ akeys (fill n i).there = (List.range (min i n)).map letter := by
  induction i with
  | zero => intro _; exact ⟨rfl, by simp [fill, St.new, akeys]⟩
  | succ i ih =>
    intro h
    obtain ⟨h2, h3⟩ := ih (by omega)
    have hz : (fill n i).putErr (letter (i % n)) ⟨#[120]⟩ = 0 := by
      unfold St.putErr; rw [letter_size, h2, if_neg (by omega), if_neg (by decide), if_neg (by omega)]
    have hj : i % n < n := Nat.mod_lt _ h1
    simp only [fill, St.put, if_pos hz]
    refine ⟨by rw [h2], ?_⟩
    rw [akeys_aput, h3]
    by_cases hi : i < n
    · rw [show min i n = i by omega, show min (i + 1) n = i + 1 by omega, Nat.mod_eq_of_lt hi, if_neg (fun e => by rw [mem_letters h26 (by omega) (by omega)] at e; omega), List.range_succ, List.map_append]; rfl
    · rw [show min i n = n by omega, show min (i + 1) n = n by omega, if_pos ((mem_letters h26 (by omega) (Nat.le_refl _)).2 hj)]
theorem fill_err (n : Nat) (h1 : 1 ≤ n) (h26 : n ≤ 26) (i : Nat) (h : i < 2000) : (fill n i).putErr (letter (i % n)) ⟨#[120]⟩ = 0 := by
  unfold St.putErr; rw [letter_size, (fill_ok n h1 h26 i (by omega)).1, if_neg (by omega), if_neg (by decide), if_neg (by omega)]
theorem hasPre_nil (s : ByteArray) : hasPre ByteArray.empty s = true := by
  unfold hasPre; cases s.data.toList <;> rfl
theorem list_nil_length (S : St) : (S.list ByteArray.empty).length = (akeys S.there).length := by
  unfold St.list; rw [sortB_length]; congr 1; rw [List.filter_eq_self]; intro a _; exact hasPre_nil a

structure Filled (n : Nat) (S : St) : Prop where
  e1 : S.putErr ⟨#[97]⟩ ⟨#[121]⟩ = 11
  e2 : S.putErr ByteArray.empty ⟨#[121]⟩ = 1
  puts : S.puts = 2000
  len : (S.list ByteArray.empty).length = n
  d : S.delErr ⟨#[97]⟩ = 0
  e3 : (S.del ⟨#[97]⟩).putErr ⟨#[97]⟩ ⟨#[121]⟩ = 11
  len' : ((S.del ⟨#[97]⟩).list ByteArray.empty).length = n - 1
theorem filled_of {n : Nat} (h1 : 1 ≤ n) (h26 : n ≤ 26) (S : St) (h2 : S.puts = 2000) (h3 : akeys S.there = (List.range n).map letter) : Filled n S := by
  have hp : ∀ T : St, T.puts = 2000 → T.putErr ⟨#[97]⟩ ⟨#[121]⟩ = 11 := fun T hT => by
    unfold St.putErr; rw [hT, if_neg (by decide), if_neg (by decide), if_pos rfl]
  refine ⟨hp S h2, by unfold St.putErr; exact if_pos (Or.inl rfl), h2, by rw [list_nil_length, h3]; simp, ?_, hp _ h2, ?_⟩
  · unfold St.delErr; rw [if_pos (aget_isSome.2 ?_)]
    rw [h3, ← letter_zero, mem_letters h26 (by omega) (Nat.le_refl _)]; omega
  · rw [list_nil_length]; simp only [St.del]; rw [akeys_adel, h3]
    obtain ⟨m, rfl⟩ : ∃ m, n = m + 1 := ⟨n - 1, by omega⟩
    rw [List.range_succ_eq_map, List.map_cons, List.filter_cons, ← letter_zero]
    simp only [ne_eq, not_true_eq_false, decide_false, Bool.false_eq_true, if_false]
    rw [List.filter_eq_self.2]
    · simp
    · intro a ha
      simp only [List.map_map, List.mem_map, List.mem_range, Function.comp] at ha
      obtain ⟨i, hi, rfl⟩ := ha
      simp only [not_false_eq_true, decide_eq_true_eq]
      intro e; have := letter_inj (i + 1) (by omega) 0 (by omega) e; omega

set_option maxRecDepth 100000 in
set_option maxHeartbeats 1000000 in
theorem fills_calls (w : World) (k0 : Int) (hk0 : -9223372036854775808 ≤ k0) (hk1 : k0 ≤ 9223372036854775807) :
    Calls Try.prog 6 #[.int .i64 k0] w fun e w' => e = .returned (.bool true) ∧ Below w.heap.size w w' := by
  obtain ⟨B, hB⟩ : ∃ B, B = w.heap.size := ⟨_, rfl⟩
  rw [← hB]
  have HB := Lib.hid hB
  clear hB
  obtain ⟨m, hm⟩ : ∃ m : Nat, pickZ k0 26 = m := ⟨(pickZ k0 26).toNat, by have := pickZ_lt k0 (n := 26) (by omega); omega⟩
  have hm26 : m < 26 := by have := pickZ_lt k0 (n := 26) (by omega); omega
  have HM := Lib.hid hm
  clear hm
  go_enter Try.func6, Try.ntmps6
  go_wp2_with fail
  refine (shown_calls w).mono ?_
  rintro e w1 ⟨rfl, hb1⟩
  go_wp2_with fail
  refine (storeB_new w1 B (by rw [HB.out]; exact hb1.size)).mono ?_
  rintro e w2 ⟨va, rfl, hS, hb2⟩
  obtain ⟨ba, rfl⟩ := hS.ptr
  have hk : Keep (fun k => B ≤ k) w w2 := Keep.of_below (hb1.trans (hb2.mono hb1.size))
  clear hb1 hb2
  go_wp2_with fail
  refine (pick_calls k0 26 _ hk0 hk1 (by omega) (by omega)).mono ?_
  rintro e w3 ⟨rfl, rfl⟩
  rw [HM.out]
  go_wp2_with fail
  have N1 : 1 ≤ m + 1 := by omega
  have HS : Hid (StoreB w2 (.pointer (some ⟨ba, 0, none⟩)) (fill (m + 1) 0) B ∧ Keep (fun k => B ≤ k) w w2) := ⟨hS, hk⟩
  clear hS hk
  go_loopw [6] (fun i wr => ∃ k : Nat, k ≤ 2000 ∧ i = .int .i64 k ∧ Hid (StoreB wr (.pointer (some ⟨ba, 0, none⟩)) (fill (m + 1) k) B ∧ Keep (fun k => B ≤ k) w wr)) (fun i _ => 2000 - (intOf i).toNat)
  case atStart => exact ⟨0, by omega, rfl, HS⟩
  case round =>
    clear HS
    obtain ⟨k, hk, rfl, HS⟩ := hrel
    have hBr : B ≤ wr.heap.size := by rw [HB.out]; exact HS.out.2.size
    by_cases hlt : k < 2000
    · obtain ⟨j, hj⟩ : ∃ j, k % (m + 1) = j := ⟨_, rfl⟩
      have hj26 : j < 26 := by have := Nat.mod_lt k N1; omega
      have hmod : (k : Int) % (1 + (m : Int)) = j := by rw [show (1 + (m : Int)) = ((m + 1 : Nat) : Int) by omega]; omega
      have hmod' : (k : Int).tmod (1 + (m : Int)) = j := by rw [Int.tmod_eq_emod_of_nonneg (by omega)]; exact hmod
      have herr := fill_err (m + 1) N1 (by omega) k hlt
      have hal := alphabet_at j hj26
      rw [hj] at herr
      have hsl : ∀ w : World, (Instr.slice 9 (.string alphabet) (some (.int .i64 j)) (some (.int .i64 (j + 1))) none).run Try.prog w = .ok (.string (letter j)) w := by
        intro w
        have e1 : (Instr.slice 9 (.string alphabet) (some (.int .i64 (j : Int))) (some (.int .i64 ((j + 1 : Nat) : Int))) none).run Try.prog w = .ok (.string (alphabet.extract j (j + 1))) w := by
          rw [run_slice_string_if (h := Try.underlying9)]
          rw [if_pos ⟨by omega, by show _ ≤ (26 : Int); omega⟩, if_pos ⟨by omega, by omega⟩]
          rfl
        rw [hal] at e1; exact e1
      unfold alphabet at hsl
      have hnz : ¬ ((1 + (m : Int)) = 0) := by omega
      have hw1 : IntKind.i64.wrap (j : Int) = j := by rw [IntKind.wrap_i64]; omega
      have hw2 : IntKind.i64.wrap ((j : Int) + 1) = (j : Int) + 1 := by rw [IntKind.wrap_i64]; omega
      have hb1 : (j : Int) + 1 ≤ 26 := by omega
      have hb2 : (0 : Int) ≤ (j : Int) + 1 := by omega
      have hb3 : (j : Int) ≤ (j : Int) + 1 := by omega
      have hb4 : (0 : Int) ≤ (j : Int) := by omega
      have HH : Hid (k % (m + 1) = j ∧ alphabet.extract j (j + 1) = letter j) := ⟨hj, hal⟩
      clear hj hal
      go_wp2_with fail
      clear hsl; go_region_held3 (fun _ => True) (exact True.intro) (first
        | (go_at_call 19; refine (storeB_put (HS.out.1.below (Below.refl _ _).drew) hBr _ _).mono ?_; rintro e w4 ⟨rfl, hS4, hk4⟩))
      have hal : (⟨#[97, 98, 99, 100, 101, 102, 103, 104, 105, 106, 107, 108, 109, 110, 111, 112, 113, 114, 115, 116, 117, 118, 119, 120, 121, 122]⟩ : ByteArray).extract j (j + 1) = letter j := HH.out.2
      rw [hal] at hS4 ⊢
      rw [herr]
      have HS4 : Hid (StoreB w4 (.pointer (some ⟨ba, 0, none⟩)) (fill (m + 1) (k + 1)) B ∧ Keep (fun k => B ≤ k) w w4) := by
        refine ⟨?_, (HS.out.2.trans (Keep.of_below (Below.refl _ _).drew (F := fun k => B ≤ k)) (fun _ h => Or.inl h)).trans hk4 (fun _ h => Or.inl h)⟩
        show StoreB _ _ ((fill (m + 1) k).put (letter (k % (m + 1))) ⟨#[120]⟩) _
        rw [HH.out.1]; exact hS4
      clear hS4 hk4 herr hal
      go_wp2
      refine ⟨⟨k + 1, by omega, by simp, HS4⟩, ?_⟩
      simp only [intOf]; omega
    · obtain ⟨h2, h3⟩ := fill_ok (m + 1) N1 (by omega) k hk
      obtain ⟨S, hS⟩ : ∃ S, fill (m + 1) k = S := ⟨_, rfl⟩
      rw [hS] at h2 h3 HS
      clear hS
      have e2 : k = 2000 := by omega
      subst e2
      rw [show min 2000 (m + 1) = m + 1 by omega] at h3
      have HF := filled_of N1 (by omega) S h2 h3
      clear h2 h3
      obtain ⟨he1, he2, hpu, hl, hd, he3, hl'⟩ := HF
      have hp1 : S.put ⟨#[97]⟩ ⟨#[121]⟩ = S := if_neg (by rw [he1]; decide)
      have hp2 : S.put ⟨#[]⟩ ⟨#[121]⟩ = S := if_neg (by show ¬ S.putErr ByteArray.empty _ = 0; rw [he2]; decide)
      have he2' : S.putErr ⟨#[]⟩ ⟨#[121]⟩ = 1 := he2
      have hl2 : (S.list ⟨#[]⟩).length = m + 1 := hl
      have hl3 : ((S.del ⟨#[97]⟩).list ⟨#[]⟩).length = m := hl'
      have H1 := Lib.hid hp1
      have H2 := Lib.hid hp2
      have E1 := Lib.hid he1
      have E2 := Lib.hid he2'
      have PU := Lib.hid hpu
      have L2 := Lib.hid hl2
      have L3 := Lib.hid hl3
      have D1 := Lib.hid hd
      have E3 := Lib.hid he3
      clear hp1 hp2 he1 he2 he2' hpu hl hl2 hl' hl3 hd he3
      go_wp2_with fail
      refine (storeB_put HS.out.1 hBr _ _).mono ?_
      rintro e w3 ⟨rfl, hS3, hk3⟩
      rw [E1.out]
      rw [H1.out] at hS3
      have hB3 : B ≤ w3.heap.size := Nat.le_trans hBr hk3.size
      have HS3 : Hid (StoreB w3 (.pointer (some ⟨ba, 0, none⟩)) S B ∧ Keep (fun k => B ≤ k) w w3) := ⟨hS3, HS.out.2.trans hk3 (fun _ h => Or.inl h)⟩
      clear hS3 hk3 HS hBr
      go_wp2_with fail
      refine (storeB_put HS3.out.1 hB3 _ _).mono ?_
      rintro e w4 ⟨rfl, hS4, hk4⟩
      rw [E2.out]
      rw [H2.out] at hS4
      have hB4 : B ≤ w4.heap.size := Nat.le_trans hB3 hk4.size
      have HS4 : Hid (StoreB w4 (.pointer (some ⟨ba, 0, none⟩)) S B ∧ Keep (fun k => B ≤ k) w w4) := ⟨hS4, HS3.out.2.trans hk4 (fun _ h => Or.inl h)⟩
      clear hS4 hk4 HS3 hB3
      go_wp2_with fail
      refine (store_puts HS4.out.1).mono ?_
      rintro e w5 ⟨rfl, rfl⟩
      rw [PU.out]
      go_wp2_with fail
      refine (store_list HS4.out.1 _).mono ?_
      rintro e w5 ⟨v', rfl, hv5, hb5⟩
      rw [L2.out] at hv5
      obtain ⟨A5, c5, hv, hlc5, hmx5, hc5⟩ := strs_own hv5
      rw [L2.out] at hv hlc5 hmx5
      subst hv
      have hS5 := (StoreB.below HS4.out.1 hb5)
      have hB5 : B ≤ w5.heap.size := Nat.le_trans hB4 hb5.size
      have HS5 : Hid (StoreB w5 (.pointer (some ⟨ba, 0, none⟩)) S B ∧ Keep (fun k => B ≤ k) w w5) := ⟨hS5, HS4.out.2.trans (Keep.of_below hb5 (F := fun k => B ≤ k)) (fun _ h => Or.inl h)⟩
      have hn : ((m + 1 : Nat) : Int) = 1 + m := by omega
      clear hv5 hb5 hc5 HS4 hB4 hS5
      go_wp2_with fail
      refine (storeB_delete HS5.out.1 _).mono ?_
      rintro e w6 ⟨rfl, hS6, hk6⟩
      rw [D1.out]
      have hB6 : B ≤ w6.heap.size := Nat.le_trans hB5 hk6.size
      have HS6 : Hid (StoreB w6 (.pointer (some ⟨ba, 0, none⟩)) (S.del ⟨#[97]⟩) B ∧ Keep (fun k => B ≤ k) w w6) := ⟨hS6, HS5.out.2.trans hk6 (fun _ h => Or.inl h)⟩
      clear hS6 hk6 HS5 hB5
      go_wp2_with fail
      refine (storeB_put HS6.out.1 hB6 _ _).mono ?_
      rintro e w7 ⟨rfl, hS7, hk7⟩
      rw [E3.out]
      have H3 : (S.del ⟨#[97]⟩).put ⟨#[97]⟩ ⟨#[121]⟩ = S.del ⟨#[97]⟩ := if_neg (by rw [E3.out]; decide)
      rw [H3] at hS7
      clear H3
      have hB7 : B ≤ w7.heap.size := Nat.le_trans hB6 hk7.size
      have HS7 : Hid (StoreB w7 (.pointer (some ⟨ba, 0, none⟩)) (S.del ⟨#[97]⟩) B ∧ Keep (fun k => B ≤ k) w w7) := ⟨hS7, HS6.out.2.trans hk7 (fun _ h => Or.inl h)⟩
      clear hS7 hk7 HS6 hB6
      go_wp2_with fail
      refine (store_list HS7.out.1 _).mono ?_
      rintro e w8 ⟨v', rfl, hv8, hb8⟩
      rw [L3.out] at hv8
      obtain ⟨A8, c8, hv, hlc8, hmx8, hc8⟩ := strs_own hv8
      rw [L3.out] at hv hlc8 hmx8
      subst hv
      have HK : Hid (Below w.heap.size w w8) := Keep.new (by rw [← HB.out]; exact HS7.out.2.trans (Keep.of_below hb8 (F := fun k => B ≤ k)) (fun _ h => Or.inl h))
      clear hv8 hb8 hc8 HS7 hB7
      have hn2 : (1 + (m : Int)) - 1 = m := by omega
      go_wp2_with fail
      go_ret
      exact ⟨rfl, by rw [HB.out]; exact HK.out⟩
end Go.Proofs.Ytcalfjakgidhfaa
