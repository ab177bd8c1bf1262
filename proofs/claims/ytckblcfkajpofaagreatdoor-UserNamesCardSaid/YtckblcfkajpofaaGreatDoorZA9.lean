/- document 5: Mix, Draw. document 14: draw, New, Public. law 14: UserNames. -/
import Derived.Test.YtckblcfkajpofaaGreatDoorZA4
import Derived.Test.YtckblcfkajpofaaGreatDoorZA6
import Derived.Test.YtckblcfkajpofaaGreatDoorZA7
import Derived.Test.YtckblcfkajpofaaGreatDoorZA8
import Derived.Test.YtckblcfkajpofaaGreatDoorZA1
namespace Go.Proofs.YtckblcfkajpofaaGreatDoor
open Go.RowKit
set_option linter.unusedVariables false
set_option linter.unusedSimpArgs false

set_option maxRecDepth 100000 in
set_option maxHeartbeats 400000 in
theorem rmix_calls (w : World) (n : Nat) (hn : n < 18446744073709551616) :
    Calls Tryz.prog 285 #[.int .u64 n] w fun e w' => e = .returned (.int .u64 (mixN n)) ∧ w' = w := by
  have h0 := wrap_step n hn
  obtain ⟨a0, ha0⟩ : ∃ a, (n + stepN) % 18446744073709551616 = a := ⟨_, rfl⟩
  have hl0 : a0 < 18446744073709551616 := by rw [← ha0]; exact Nat.mod_lt _ (by decide)
  rw [ha0] at h0
  have h1 := mixStep_u64 a0 1073741824 13787848793156543929 hl0
  obtain ⟨a1, ha1⟩ : ∃ a, (a0 ^^^ a0 / 1073741824) * 13787848793156543929 % 18446744073709551616 = a := ⟨_, rfl⟩
  have hl1 : a1 < 18446744073709551616 := by rw [← ha1]; exact Nat.mod_lt _ (by decide)
  rw [ha1] at h1
  have h2 := mixStep_u64 a1 134217728 10723151780598845931 hl1
  obtain ⟨a2, ha2⟩ : ∃ a, (a1 ^^^ a1 / 134217728) * 10723151780598845931 % 18446744073709551616 = a := ⟨_, rfl⟩
  have hl2 : a2 < 18446744073709551616 := by rw [← ha2]; exact Nat.mod_lt _ (by decide)
  rw [ha2] at h2
  have h3 := xorShift_u64 a2 2147483648 hl2
  have hx : a2 ^^^ a2 / 2147483648 < 18446744073709551616 := Nat.xor_lt_two_pow (n := 64) (by omega) (by have := Nat.div_le_self a2 2147483648; omega)
  have hm : mixN n = a2 ^^^ a2 / 2147483648 := by
    unfold mixN fold1
    rw [ha0, ha1, ha2, Nat.mul_one, Nat.mod_eq_of_lt hx]
  simp only [Int.cast_ofNat_Int] at h1 h2 h3
  rw [hm]
  obtain ⟨a3, ha3⟩ : ∃ a, a2 ^^^ a2 / 2147483648 = a := ⟨_, rfl⟩
  rw [ha3] at h3 ⊢
  clear ha0 ha1 ha2 ha3 hm hx
  go_enter Tryz.func285, Tryz.ntmps285
  go_wp2_with fail
  go_ret
  exact ⟨rfl, rfl⟩
set_option maxRecDepth 100000 in
set_option maxHeartbeats 400000 in
theorem rdraw_calls (w : World) (s i : Nat) (hs : s < 18446744073709551616) (hi : i ≤ 1000000) :
    Calls Tryz.prog 222 #[.int .u64 s, .int .i64 i] w fun e w' => e = .returned (.int .u64 (drawN s i)) ∧ w' = w := by
  have hM := rmix_calls w ((s + i * stepN) % 18446744073709551616) (Nat.mod_lt _ (by decide))
  rw [show mixN ((s + i * stepN) % 18446744073709551616) = drawN s i from rfl] at hM
  have e1 : IntKind.u64.wrap (i : Int) = (i : Int) := by rw [IntKind.wrap_u64]; omega
  have e2 : IntKind.u64.wrap ((i : Int) * 11400714819323198485) = (((i * stepN) % 18446744073709551616 : Nat) : Int) := by rw [IntKind.wrap_u64]; unfold stepN; omega
  have e3 : IntKind.u64.wrap ((s : Int) + (((i * stepN) % 18446744073709551616 : Nat) : Int)) = (((s + i * stepN) % 18446744073709551616 : Nat) : Int) := by rw [IntKind.wrap_u64]; unfold stepN; omega
  obtain ⟨a, ha⟩ : ∃ a, (i * stepN) % 18446744073709551616 = a := ⟨_, rfl⟩
  obtain ⟨b, hb⟩ : ∃ b, (s + i * stepN) % 18446744073709551616 = b := ⟨_, rfl⟩
  obtain ⟨c, hc⟩ : ∃ c, drawN s i = c := ⟨_, rfl⟩
  rw [ha] at e2 e3
  rw [hb] at e3 hM
  rw [hc] at hM ⊢
  clear ha hb hc
  go_enter Tryz.func222, Tryz.ntmps222
  go_wp2_with fail
  refine hM.mono ?_
  rintro e w1 ⟨rfl, rfl⟩
  go_wp2_with fail
  go_ret
  exact ⟨rfl, rfl⟩
end Go.Proofs.YtckblcfkajpofaaGreatDoor
namespace Go.Proofs.YtckblcfkajpofaaGreatDoor
open Go.RowKit Go.Sort
set_option linter.unusedVariables false
set_option linter.unusedSimpArgs false

def ruCells (N S : ByteArray) (seed k : Nat) (L : Value) : Array Value := #[.string N, .string S, .int .u64 seed, .int .i64 k, L]
set_option maxRecDepth 100000 in
set_option maxHeartbeats 1000000 in
theorem rdraw14_calls {w : World} {p : Nat} {N S : ByteArray} {seed k : Nat} {L : Value} (h : w.heap[p]? = some (.cells (ruCells N S seed k L) 34 (0, 0))) (hs : seed < 18446744073709551616) (hk : k < 1000000) :
    Calls Tryz.prog 122 #[.pointer (some ⟨p, 0, none⟩)] w fun e w' => e = .returned (.int .u64 (drawN seed k)) ∧ w'.heap[p]? = some (.cells (ruCells N S seed (k + 1) L) 34 (0, 0)) ∧ Keep (fun i => i = p) w w' := by
  unfold ruCells at h
  obtain ⟨c0, c1, c2, c3, c4⟩ := row5 h
  have f3 := frozen_of_row h 3
  have hr1 := set_at h 3 (.int .i64 ((k + 1 : Nat) : Int))
  have hk1 : Keep (fun i => i = p) w (w.setCell ⟨p, 3, none⟩ (.int .i64 ((k + 1 : Nat) : Int))) := Keep.setCell (fun i => i = p) w (p := ⟨p, 3, none⟩) rfl _
  rw [show ((k + 1 : Nat) : Int) = (k : Int) + 1 from rfl] at hr1 hk1
  obtain ⟨W, hW⟩ : ∃ W, w.setCell ⟨p, 3, none⟩ (.int .i64 ((k : Int) + 1)) = W := ⟨_, rfl⟩
  rw [hW] at hr1 hk1
  have hr1' : W.heap[p]? = some (.cells #[.string N, .string S, .int .u64 seed, .int .i64 ((k : Int) + 1), L] 34 (0, 0)) := by simpa using hr1
  obtain ⟨d0, d1, d2, d3, d4⟩ := row5 hr1'
  have HD := Lib.hid (fun W => rdraw_calls W seed k hs (by omega))
  have HF : Hid (W.heap[p]? = some (.cells (ruCells N S seed (k + 1) L) 34 (0, 0)) ∧ Keep (fun i => i = p) w W) := Lib.hid ⟨hr1', hk1⟩
  have e1 : (k : Int) + 1 - 1 = (k : Int) := by omega
  have ek : IntKind.i64.wrap (k : Int) = (k : Int) := by rw [IntKind.wrap_i64]; omega
  obtain ⟨D, hD⟩ : ∃ D, drawN seed k = D := ⟨_, rfl⟩
  rw [hD] at HD ⊢
  clear h hr1 hr1' hk1 hD c0 c1 c2 c4 d0 d1 d4
  go_enter Tryz.func122, Tryz.ntmps122
  go_wp2_with fail
  refine wp_region_G (fun w' => w'.cell? ⟨p, 2, none⟩ = some (.int .u64 seed) ∧ w'.cell? ⟨p, 3, none⟩ = some (.int .i64 ((k : Int) + 1))) [9] (by kernel_rfl) ?_
  have hS : (fun w' : World => w'.cell? ⟨p, 2, none⟩ = some (.int .u64 seed) ∧ w'.cell? ⟨p, 3, none⟩ = some (.int .i64 ((k : Int) + 1))) W.drew := by dsimp only; exact ⟨by go_simp, by go_simp⟩
  refine wpAnyG_pure (i := 0) (v := ?va0) at0 (by kernel_rfl) (fun _ _ _ h => h) (Or.inl ⟨by rfl, ?ha0⟩) (Or.inr (by assumption)) ?ra0
  case ha0 => (intro w hSw; (try dsimp only at hSw); go_simp; try with_reducible rfl)
  case' ra0 => skip
  try simp only [Act.put, List.setIfInBounds_toArray, List.set_cons_zero, List.set_cons_succ]
  refine wpAnyG_pure (i := 1) (v := ?va1) at1 (by kernel_rfl) (fun _ _ _ h => h) (Or.inl ⟨by rfl, ?ha1⟩) (Or.inr (by assumption)) ?ra1
  case ha1 => (intro w hSw; (try dsimp only at hSw); go_simp; try with_reducible rfl)
  case' ra1 => skip
  try simp only [Act.put, List.setIfInBounds_toArray, List.set_cons_zero, List.set_cons_succ]
  refine wpAnyG_pure (i := 2) (v := ?va2) at2 (by kernel_rfl) (fun _ _ _ h => h) (Or.inl ⟨by rfl, ?ha2⟩) (Or.inr (by assumption)) ?ra2
  case ha2 => (intro w hSw; (try dsimp only at hSw); go_simp; try with_reducible rfl)
  case' ra2 => skip
  try simp only [Act.put, List.setIfInBounds_toArray, List.set_cons_zero, List.set_cons_succ]
  refine wpAnyG_take (ws := [0,1,2,3,4,5,6,7,8]) (i := 3) (v := ?va3) at3 (by kernel_rfl) (fun _ _ _ h => h) (Or.inl ⟨by rfl, ?ha3⟩) (by assumption) ?ra3
  case ha3 => (intro w hSw; (try dsimp only at hSw); go_simp; try with_reducible rfl)
  case' ra3 => skip
  try simp only [Act.put, List.setIfInBounds_toArray, List.set_cons_zero, List.set_cons_succ]
  refine wpAnyG_pure (i := 4) (v := ?va4) at4 (by kernel_rfl) (fun _ _ _ h => h) (Or.inl ⟨by rfl, ?ha4⟩) (Or.inr (by assumption)) ?ra4
  case ha4 => (intro w hSw; (try dsimp only at hSw); go_simp; try with_reducible rfl)
  case' ra4 => skip
  try simp only [Act.put, List.setIfInBounds_toArray, List.set_cons_zero, List.set_cons_succ]
  refine wpAnyG_pure (i := 5) (v := ?va5) at5 (by kernel_rfl) (fun _ _ _ h => h) (Or.inl ⟨by rfl, ?ha5⟩) (Or.inr (by assumption)) ?ra5
  case ha5 => (intro w hSw; (try dsimp only at hSw); go_simp; try with_reducible rfl)
  case' ra5 => skip
  try simp only [Act.put, List.setIfInBounds_toArray, List.set_cons_zero, List.set_cons_succ]
  refine wpAnyG_pure (i := 6) (v := ?va6) at6 (by kernel_rfl) (fun _ _ _ h => h) (Or.inl ⟨by rfl, ?ha6⟩) (Or.inr (by assumption)) ?ra6
  case ha6 => (intro w hSw; (try dsimp only at hSw); go_simp; try with_reducible rfl)
  case' ra6 => skip
  try simp only [Act.put, List.setIfInBounds_toArray, List.set_cons_zero, List.set_cons_succ]
  refine wpAnyG_take (ws := [0,1,2,3,4,5,6,7,8]) (i := 7) (v := ?va7) at7 (by kernel_rfl) (fun _ _ _ h => h) (Or.inl ⟨by rfl, ?ha7⟩) (by assumption) ?ra7
  case ha7 => (intro w hSw; (try dsimp only at hSw); go_simp; try with_reducible rfl)
  case' ra7 => skip
  try simp only [Act.put, List.setIfInBounds_toArray, List.set_cons_zero, List.set_cons_succ]
  refine wpAnyG_pure (i := 8) (v := ?va8) at8 (by kernel_rfl) (fun _ _ _ h => h) (Or.inl ⟨by rfl, ?ha8⟩) (Or.inr (by assumption)) ?ra8
  case ha8 => (intro w hSw; (try dsimp only at hSw); go_simp; try with_reducible rfl)
  case' ra8 => skip
  try simp only [Act.put, List.setIfInBounds_toArray, List.set_cons_zero, List.set_cons_succ]
  refine wpAnyG_one 9 at9 (by kernel_rfl) (fun Kn hK => ?_)
  go_simp
  refine (HD.out _).mono ?_
  rintro e w2 ⟨rfl, rfl⟩
  refine hK.out _ _ (Or.inl (by kernel_rfl)) ?_
  clear hK Kn
  try simp only [Act.put, List.setIfInBounds_toArray, List.set_cons_zero, List.set_cons_succ]
  refine wpAnyG_pure (i := 10) (v := ?vb10) at10 (by kernel_rfl) (fun _ _ _ h => h) (Or.inl ⟨by rfl, ?hb10⟩) (Or.inl (by kernel_rfl)) ?rb10
  case hb10 => (intro w hSw; (try dsimp only at hSw); go_simp; try with_reducible rfl)
  case' rb10 => skip
  try simp only [Act.put, List.setIfInBounds_toArray, List.set_cons_zero, List.set_cons_succ]
  refine wpAnyG_done (by kernel_rfl) ?_
  try simp only [Act.put, List.setIfInBounds_toArray, List.set_cons_zero, List.set_cons_succ]
  go_wp2_with fail
  go_ret
  exact ⟨rfl, HF.out.1, HF.out.2.same (Keep.drew _ _)⟩
theorem rpublic14_calls {w : World} {p : Nat} {N S : ByteArray} {seed k : Nat} {L : Value} (h : w.heap[p]? = some (.cells (ruCells N S seed k L) 34 (0, 0))) (hs : S.size ≤ 4000) :
    Calls Tryz.prog 27 #[.pointer (some ⟨p, 0, none⟩)] w fun e w' => e = .returned (.string (pubT S)) ∧ Below w.heap.size w w' := by
  unfold ruCells at h
  obtain ⟨c0, c1, c2, c3, c4⟩ := row5 h
  have hp := tpublic_calls S w (by omega)
  obtain ⟨er, he⟩ := exV_L (ofOne 117 (toL S))
  rw [he, show mkB (exS (ofOne 117 (toL S))) = pubT S from rfl] at hp
  have HP := Lib.hid hp
  clear hp he h c0 c2 c3 c4
  go_enter Tryz.func27, Tryz.ntmps27
  go_wp2_with fail
  refine HP.out.mono ?_
  rintro e w1 ⟨rfl, hb⟩
  have HB := Lib.hid hb
  clear hb
  go_wp2_with fail
  go_ret
  exact ⟨rfl, HB.out⟩
set_option maxRecDepth 100000 in
set_option maxHeartbeats 2000000 in
theorem rnew14_calls (w : World) (s : ByteArray) (seed : Nat) (hs : s.size ≤ 1000000000) (hd : seed < 18446744073709551616) :
    Calls Tryz.prog 23 #[.string s, .int .u64 seed] w fun e w' => Below w.heap.size w w' ∧ if nameR s then ∃ p, e = .returned (.tuple #[.pointer (some ⟨p, 0, none⟩), .int .i64 0]) ∧ w'.heap[p]? = some (.cells (ruCells s (unew s seed).secret seed 1 (.slice none 0 0)) 34 (0, 0)) ∧ w.heap.size ≤ p
      else e = .returned (.tuple #[.pointer none, .int .i64 3]) := by
  have HR := Lib.hid (nright1_calls s w hs)
  cases hn : nameR s with
  | false =>
    rw [hn] at HR
    clear hn
    go_enter Tryz.func23, Tryz.ntmps23
    go_wp2_with fail
    refine HR.out.mono ?_
    rintro e w1 ⟨rfl, hb⟩
    have HB := Lib.hid hb
    clear hb
    go_wp2_with fail
    go_ret2
    exact ⟨HB.out, by simp⟩
  | true =>
    have hsz := nameR_size hn
    rw [hn] at HR
    clear hn
    have HSC := Lib.hid (fun W => rsecret_calls ⟨#[117, 115, 101, 114]⟩ s (drawN seed 0) W (by decide) (by omega) (mixN_lt _))
    obtain ⟨er, he⟩ := exV_L (secretT (toL ⟨#[117, 115, 101, 114]⟩) (toL s) (drawN seed 0))
    rw [he, show mkB (exS (secretT (toL ⟨#[117, 115, 101, 114]⟩) (toL s) (drawN seed 0))) = (unew s seed).secret from rfl] at HSC
    obtain ⟨T, hT⟩ : ∃ T, (unew s seed).secret = T := ⟨_, rfl⟩
    rw [hT] at HSC ⊢
    obtain ⟨D, hD⟩ : ∃ D, drawN seed 0 = D := ⟨_, rfl⟩
    rw [hD] at HSC
    have HDD := Lib.hid hD
    clear he hT hD
    go_enter Tryz.func23, Tryz.ntmps23
    go_wp2_with fail
    refine HR.out.mono ?_
    rintro e w1 ⟨rfl, hb1⟩
    have B1 := Lib.hid hb1
    clear hb1
    have hrow : (w1.alloc (.cells #[.string s, .string ⟨#[]⟩, .int .u64 seed, .int .i64 ((0 : Nat) : Int), .slice none 0 0] 34)).heap[w1.heap.size]? = some (.cells (ruCells s ⟨#[]⟩ seed 0 (.slice none 0 0)) 34 (0, 0)) := (get_alloc _ _ _).trans (if_pos rfl)
    have HD := Lib.hid (rdraw14_calls hrow hd (by omega))
    have BA : Hid (Below w.heap.size w (w1.alloc (.cells #[.string s, .string ⟨#[]⟩, .int .u64 seed, .int .i64 ((0 : Nat) : Int), .slice none 0 0] 34))) := Lib.hid (B1.out.alloc B1.out.size _)
    have HSZ := Lib.hid B1.out.size
    rw [HDD.out] at HD
    simp only [Int.natCast_zero] at HD BA
    clear hrow
    go_wp2_with fail
    refine HD.out.mono ?_
    rintro e w2 ⟨rfl, hr2, hk2⟩
    obtain ⟨p, hp⟩ : ∃ p, w1.heap.size = p := ⟨_, rfl⟩
    rw [hp] at hr2 hk2 ⊢
    have hpw : w.heap.size ≤ p := by rw [← hp]; exact HSZ.out
    have HP := Lib.hid hpw
    have B2 : Hid (Below w.heap.size w w2) := Lib.hid (((Keep.of_below BA.out (F := fun i => w.heap.size ≤ i)).same (hk2.mono fun i hi => by rw [hi]; exact hpw)).new)
    have HR2 := Lib.hid hr2
    clear hr2 hk2 hpw hp
    go_wp2_with fail
    refine (HSC.out _).mono ?_
    rintro e w3 ⟨rfl, hb3⟩
    have hr3 := (Keep.of_below hb3 : Keep (fun _ => False) w2 w3).at HR2.out fun e => e
    have B3 := Lib.hid (B2.out.trans (hb3.mono B2.out.size))
    unfold ruCells at hr3
    have c1 := (row5 hr3).2.1
    have f1 := frozen_of_row hr3 1
    have hr4 := set_at hr3 1 (.string T)
    have hb4 : Below w.heap.size w (w3.setCell ⟨p, 1, none⟩ (.string T)) := ((Keep.of_below B3.out (F := fun i => w.heap.size ≤ i)).same (Keep.setCell (fun i => w.heap.size ≤ i) w3 (p := ⟨p, 1, none⟩) HP.out _)).new
    have HF : Hid ((w3.setCell ⟨p, 1, none⟩ (.string T)).heap[p]? = some (.cells (ruCells s T seed 1 (.slice none 0 0)) 34 (0, 0)) ∧ Below w.heap.size w (w3.setCell ⟨p, 1, none⟩ (.string T))) := Lib.hid ⟨by simpa [ruCells] using hr4, hb4⟩
    clear hb3 hr3 hr4 hb4
    go_wp2_with fail
    go_ret2
    exact ⟨HF.out.2, by simp only [if_true]; exact ⟨p, rfl, HF.out.1, HP.out⟩⟩
end Go.Proofs.YtckblcfkajpofaaGreatDoor
namespace Go.Proofs.YtckblcfkajpofaaGreatDoor
open Go.RowKit Go.Sort
set_option linter.unusedVariables false
set_option linter.unusedSimpArgs false

set_option maxRecDepth 100000 in
set_option maxHeartbeats 4000000 in
theorem userNames_yes (w w0 : World) (s : ByteArray) (seed : Nat) (hsz : s.size ≤ 500) (hn : nameR s = true) (HS1 : Hid (Calls Tryz.prog 21 #[] w0 fun e w' => e = .returned (.bool true) ∧ Below w0.heap.size w0 w'))
    (HU1 : Hid (∀ W, Below w0.heap.size w0 W → Calls Tryz.prog 22 #[.string s, .int .u64 seed] W fun e w' => Below W.heap.size W w' ∧ ∃ p d b m, e = .returned (.tuple #[.pointer (some ⟨p, 0, none⟩), .int .i64 0]) ∧ UsAt w' (unew s seed) (four p d b m) p d b m []))
    (HR1 : Hid (∀ W, Calls Tryz.prog 23 #[.string s, .int .u64 seed] W fun e w' => Below W.heap.size W w' ∧ ∃ q, e = .returned (.tuple #[.pointer (some ⟨q, 0, none⟩), .int .i64 0]) ∧ w'.heap[q]? = some (.cells (ruCells s (unew s seed).secret seed 1 (.slice none 0 0)) 34 (0, 0)))) :
    Calls Tryz.prog 3 #[.string s, .int .u64 seed] w0 fun e w' => e = .returned (.bool true) ∧ Below w0.heap.size w0 w' := by
  have hTs : (unew s seed).secret.size ≤ 4000 := secT_size _ _ _
  go_enter Tryz.func3, Tryz.ntmps3
  go_wp2_with fail
  refine HS1.out.mono ?_
  rintro e w1 ⟨rfl, hb⟩
  have B1 := Lib.hid hb
  clear hb
  go_wp2_with fail
  refine (HU1.out _ B1.out).mono ?_
  rintro e w2 ⟨hb, p, d, b, m, rfl, hU⟩
  have B2 := Lib.hid (B1.out.trans (hb.mono B1.out.size))
  have U2 := Lib.hid hU
  clear hb hU
  go_wp2_with fail
  refine (HR1.out _).mono ?_
  rintro e w3 ⟨hb, q, rfl, hrow⟩
  have B3 := Lib.hid (B2.out.trans (hb.mono B2.out.size))
  have hU3 := U2.out.below hb
  obtain ⟨T, hT⟩ : ∃ T, (unew s seed).secret = T := ⟨_, rfl⟩
  obtain ⟨SS, hSS⟩ : ∃ SS : World → Prop, SS = fun W => UsAt W (unew s seed) (four p d b m) p d b m [] ∧ W.heap[q]? = some (.cells (ruCells s T seed 1 (.slice none 0 0)) 34 (0, 0)) ∧ Below w0.heap.size w0 W := ⟨_, rfl⟩
  have hcell : ∀ W, SS W → W.cell? ⟨q, 1, none⟩ = some (.string T) := fun W h => by
    subst hSS
    have h2 := h.2.1
    unfold ruCells at h2
    exact (row5 h2).2.1
  have HCELL := Lib.hid hcell
  have HBEL : Hid (∀ W W', SS W → Below W.heap.size W W' → SS W') := Lib.hid (fun W W' h hb => by
    subst hSS
    exact ⟨h.1.below hb, (Keep.of_below hb : Keep (fun _ => False) W W').at h.2.1 fun e => e, h.2.2.trans (hb.mono h.2.2.size)⟩)
  have HNM : Hid (∀ W, SS W → Calls Tryz.prog 24 #[.pointer (some ⟨p, 0, none⟩)] W fun e w' => e = .returned (.string s) ∧ w' = W) := Lib.hid (fun W h => by
    subst hSS; exact name_calls h.1)
  have HSC : Hid (∀ W, SS W → Calls Tryz.prog 25 #[.pointer (some ⟨p, 0, none⟩)] W fun e w' => e = .returned (.string T) ∧ w' = W) := Lib.hid (fun W h => by
    subst hSS; rw [← hT]; exact usecret_calls h.1)
  have HPB : Hid (∀ W, SS W → Calls Tryz.prog 26 #[.pointer (some ⟨p, 0, none⟩)] W fun e w' => e = .returned (.string (pubT T)) ∧ Below W.heap.size W w') := Lib.hid (fun W h => by
    subst hSS; rw [← hT]; exact public_calls h.1 hTs)
  have HRP : Hid (∀ W, SS W → Calls Tryz.prog 27 #[.pointer (some ⟨q, 0, none⟩)] W fun e w' => e = .returned (.string (pubT T)) ∧ Below W.heap.size W w') := Lib.hid (fun W h => by
    have := hTs
    subst hSS; exact rpublic14_calls h.2.1 (by rw [← hT]; exact hTs))
  have HFL : Hid (∀ W, SS W → Calls Tryz.prog 28 #[.pointer (some ⟨p, 0, none⟩)] W fun e w' => ∃ A c, e = .returned (.slice A 0 c) ∧ Below W.heap.size W w') := Lib.hid (fun W h => by
    subst hSS
    refine (files_calls h.1 (by simp [unew]) (by simp [unew, akeys])).mono ?_
    rintro e w' ⟨v, rfl, ho, hb⟩
    have hl : (unew s seed).list.length = 0 := by
      unfold Us.list; simp [unew, akeys, sortB]
    rw [hl] at ho
    obtain ⟨A, c, hv, _, _⟩ := own_slice ho
    exact ⟨A, c, by rw [hv], hb⟩)
  have HFIN : Hid (∀ W, SS W → Below w0.heap.size w0 W) := Lib.hid (fun W h => by subst hSS; exact h.2.2)
  have H3 : SS w3 := by subst hSS; exact ⟨hU3, by rw [← hT]; exact hrow, B3.out⟩
  obtain ⟨P, hP⟩ : ∃ P, pubT T = P := ⟨_, rfl⟩
  rw [hP] at HPB HRP
  clear hb hU3 hrow hSS hT hcell hP hTs
  go_wp2_with fail
  refine wp_region_G (fun W => SS W ∧ W.cell? ⟨q, 1, none⟩ = some (.string T)) [31] (by kernel_rfl) ?_
  have hS : (fun W => SS W ∧ W.cell? ⟨q, 1, none⟩ = some (.string T)) w3.drew := by
    have := HBEL.out _ _ H3 ((Below.refl _ w3).drew)
    exact ⟨this, HCELL.out _ this⟩
  clear H3
  refine wpAnyG_pure (i := 0) (v := ?va0) at0 (by kernel_rfl) (fun _ _ _ h => h) (Or.inl ⟨by rfl, ?ha0⟩) (Or.inr (by assumption)) ?ra0
  case ha0 => (intro w hSw; (try dsimp only at hSw); go_simp; try with_reducible rfl)
  case' ra0 => skip
  try simp only [Act.put, List.setIfInBounds_toArray, List.set_cons_zero, List.set_cons_succ]
  refine wpAnyG_pure (i := 1) (v := ?va1) at1 (by kernel_rfl) (fun _ _ _ h => h) (Or.inl ⟨by rfl, ?ha1⟩) (Or.inr (by assumption)) ?ra1
  case ha1 => (intro w hSw; (try dsimp only at hSw); go_simp; try with_reducible rfl)
  case' ra1 => skip
  try simp only [Act.put, List.setIfInBounds_toArray, List.set_cons_zero, List.set_cons_succ]
  refine wpAnyG_pure (i := 2) (v := ?va2) at2 (by kernel_rfl) (fun _ _ _ h => h) (Or.inl ⟨by rfl, ?ha2⟩) (Or.inr (by assumption)) ?ra2
  case ha2 => (intro w hSw; (try dsimp only at hSw); go_simp; try with_reducible rfl)
  case' ra2 => skip
  try simp only [Act.put, List.setIfInBounds_toArray, List.set_cons_zero, List.set_cons_succ]
  refine wpAnyG_pure (i := 3) (v := ?va3) at3 (by kernel_rfl) (fun _ _ _ h => h) (Or.inl ⟨by rfl, ?ha3⟩) (Or.inr (by assumption)) ?ra3
  case ha3 => (intro w hSw; (try dsimp only at hSw); go_simp; try with_reducible rfl)
  case' ra3 => skip
  try simp only [Act.put, List.setIfInBounds_toArray, List.set_cons_zero, List.set_cons_succ]
  refine wpAnyG_pure (i := 4) (v := ?va4) at4 (by kernel_rfl) (fun _ _ _ h => h) (Or.inl ⟨by rfl, ?ha4⟩) (Or.inr (by assumption)) ?ra4
  case ha4 => (intro w hSw; (try dsimp only at hSw); go_simp; try with_reducible rfl)
  case' ra4 => skip
  try simp only [Act.put, List.setIfInBounds_toArray, List.set_cons_zero, List.set_cons_succ]
  refine wpAnyG_pure (i := 6) (v := ?va6) at6 (by kernel_rfl) (fun _ _ _ h => h) (Or.inl ⟨by rfl, ?ha6⟩) (Or.inr (by assumption)) ?ra6
  case ha6 => (intro w hSw; (try dsimp only at hSw); go_simp; try with_reducible rfl)
  case' ra6 => skip
  try simp only [Act.put, List.setIfInBounds_toArray, List.set_cons_zero, List.set_cons_succ]
  refine wpAnyG_one 5 at5 (by kernel_rfl) (fun Kn hK => ?_)
  go_simp
  refine (HNM.out _ hS.1).mono ?_
  rintro e w4 ⟨rfl, rfl⟩
  refine hK.out _ _ (Or.inr hS) ?_
  clear hK Kn
  try simp only [Act.put, List.setIfInBounds_toArray, List.set_cons_zero, List.set_cons_succ]
  refine wpAnyG_pure (i := 7) (v := ?vb7) at7 (by kernel_rfl) (fun _ _ _ h => h) (Or.inl ⟨by rfl, ?hb7⟩) (Or.inr (by assumption)) ?rb7
  case hb7 => (intro w hSw; (try dsimp only at hSw); go_simp; try with_reducible rfl)
  case' rb7 => skip
  try simp only [Act.put, List.setIfInBounds_toArray, List.set_cons_zero, List.set_cons_succ]
  refine wpAnyG_pure (i := 8) (v := ?vb8) at8 (by kernel_rfl) (fun _ _ _ h => h) (Or.inl ⟨by rfl, ?hb8⟩) (Or.inr (by assumption)) ?rb8
  case hb8 => (intro w hSw; (try dsimp only at hSw); go_simp; try with_reducible rfl)
  case' rb8 => skip
  try simp only [Act.put, List.setIfInBounds_toArray, List.set_cons_zero, List.set_cons_succ]
  refine wpAnyG_pure (i := 9) (v := ?vb9) at9 (by kernel_rfl) (fun _ _ _ h => h) (Or.inl ⟨by rfl, ?hb9⟩) (Or.inr (by assumption)) ?rb9
  case hb9 => (intro w hSw; (try dsimp only at hSw); go_simp; try with_reducible rfl)
  case' rb9 => skip
  try simp only [Act.put, List.setIfInBounds_toArray, List.set_cons_zero, List.set_cons_succ]
  refine wpAnyG_pure (i := 10) (v := ?vb10) at10 (by kernel_rfl) (fun _ _ _ h => h) (Or.inl ⟨by rfl, ?hb10⟩) (Or.inr (by assumption)) ?rb10
  case hb10 => (intro w hSw; (try dsimp only at hSw); go_simp; try with_reducible rfl)
  case' rb10 => skip
  try simp only [Act.put, List.setIfInBounds_toArray, List.set_cons_zero, List.set_cons_succ]
  refine wpAnyG_pure (i := 12) (v := ?vb12) at12 (by kernel_rfl) (fun _ _ _ h => h) (Or.inl ⟨by rfl, ?hb12⟩) (Or.inr (by assumption)) ?rb12
  case hb12 => (intro w hSw; (try dsimp only at hSw); go_simp; try with_reducible rfl)
  case' rb12 => skip
  try simp only [Act.put, List.setIfInBounds_toArray, List.set_cons_zero, List.set_cons_succ]
  refine wpAnyG_pure (i := 13) (v := ?vb13) at13 (by kernel_rfl) (fun _ _ _ h => h) (Or.inl ⟨by rfl, ?hb13⟩) (Or.inr (by assumption)) ?rb13
  case hb13 => (intro w hSw; (try dsimp only at hSw); go_simp; try with_reducible rfl)
  case' rb13 => skip
  try simp only [Act.put, List.setIfInBounds_toArray, List.set_cons_zero, List.set_cons_succ]
  refine wpAnyG_pure (i := 14) (v := ?vb14) at14 (by kernel_rfl) (fun _ _ _ h => h) (Or.inl ⟨by rfl, ?hb14⟩) (Or.inr (by assumption)) ?rb14
  case hb14 => (intro w hSw; (try dsimp only at hSw); go_simp; try with_reducible rfl)
  case' rb14 => skip
  try simp only [Act.put, List.setIfInBounds_toArray, List.set_cons_zero, List.set_cons_succ]
  refine wpAnyG_take (ws := [0,1,2,3,4,5,6,7,8,9,10,11,12,13,14,15,16,17,18,19,20,21,22,23,24,25,26,27,28,29,30]) (i := 15) (v := ?vb15) at15 (by kernel_rfl) (fun _ _ _ h => h) (Or.inl ⟨by rfl, ?hb15⟩) (by assumption) ?rb15
  case hb15 => (intro w hSw; (try dsimp only at hSw); go_simp; try with_reducible rfl)
  case' rb15 => skip
  try simp only [Act.put, List.setIfInBounds_toArray, List.set_cons_zero, List.set_cons_succ]
  refine wpAnyG_one 11 at11 (by kernel_rfl) (fun Kn hK => ?_)
  go_simp
  refine (HSC.out _ hS.1).mono ?_
  rintro e w5 ⟨rfl, rfl⟩
  refine hK.out _ _ (Or.inr hS) ?_
  clear hK Kn
  try simp only [Act.put, List.setIfInBounds_toArray, List.set_cons_zero, List.set_cons_succ]
  refine wpAnyG_pure (i := 16) (v := ?vc16) at16 (by kernel_rfl) (fun _ _ _ h => h) (Or.inl ⟨by rfl, ?hc16⟩) (Or.inr (by assumption)) ?rc16
  case hc16 => (intro w hSw; (try dsimp only at hSw); go_simp; try with_reducible rfl)
  case' rc16 => skip
  try simp only [Act.put, List.setIfInBounds_toArray, List.set_cons_zero, List.set_cons_succ]
  refine wpAnyG_pure (i := 17) (v := ?vc17) at17 (by kernel_rfl) (fun _ _ _ h => h) (Or.inl ⟨by rfl, ?hc17⟩) (Or.inr (by assumption)) ?rc17
  case hc17 => (intro w hSw; (try dsimp only at hSw); go_simp; try with_reducible rfl)
  case' rc17 => skip
  try simp only [Act.put, List.setIfInBounds_toArray, List.set_cons_zero, List.set_cons_succ]
  refine wpAnyG_pure (i := 18) (v := ?vc18) at18 (by kernel_rfl) (fun _ _ _ h => h) (Or.inl ⟨by rfl, ?hc18⟩) (Or.inr (by assumption)) ?rc18
  case hc18 => (intro w hSw; (try dsimp only at hSw); go_simp; try with_reducible rfl)
  case' rc18 => skip
  try simp only [Act.put, List.setIfInBounds_toArray, List.set_cons_zero, List.set_cons_succ]
  refine wpAnyG_pure (i := 19) (v := ?vc19) at19 (by kernel_rfl) (fun _ _ _ h => h) (Or.inl ⟨by rfl, ?hc19⟩) (Or.inr (by assumption)) ?rc19
  case hc19 => (intro w hSw; (try dsimp only at hSw); go_simp; try with_reducible rfl)
  case' rc19 => skip
  try simp only [Act.put, List.setIfInBounds_toArray, List.set_cons_zero, List.set_cons_succ]
  refine wpAnyG_pure (i := 21) (v := ?vc21) at21 (by kernel_rfl) (fun _ _ _ h => h) (Or.inl ⟨by rfl, ?hc21⟩) (Or.inr (by assumption)) ?rc21
  case hc21 => (intro w hSw; (try dsimp only at hSw); go_simp; try with_reducible rfl)
  case' rc21 => skip
  try simp only [Act.put, List.setIfInBounds_toArray, List.set_cons_zero, List.set_cons_succ]
  refine wpAnyG_one 20 at20 (by kernel_rfl) (fun Kn hK => ?_)
  go_simp
  refine (HPB.out _ hS.1).mono ?_
  rintro e w6 ⟨rfl, hb6⟩
  have hS6 : (fun W => SS W ∧ W.cell? ⟨q, 1, none⟩ = some (.string T)) w6 := by
    have := HBEL.out _ _ hS.1 hb6
    exact ⟨this, HCELL.out _ this⟩
  refine hK.out _ _ (Or.inr hS6) ?_
  clear hK Kn hS hb6
  try simp only [Act.put, List.setIfInBounds_toArray, List.set_cons_zero, List.set_cons_succ]
  refine wpAnyG_one 22 at22 (by kernel_rfl) (fun Kn hK => ?_)
  go_simp
  refine (HRP.out _ hS6.1).mono ?_
  rintro e w7 ⟨rfl, hb7⟩
  have hS7 : (fun W => SS W ∧ W.cell? ⟨q, 1, none⟩ = some (.string T)) w7 := by
    have := HBEL.out _ _ hS6.1 hb7
    exact ⟨this, HCELL.out _ this⟩
  refine hK.out _ _ (Or.inr hS7) ?_
  clear hK Kn hS6 hb7
  try simp only [Act.put, List.setIfInBounds_toArray, List.set_cons_zero, List.set_cons_succ]
  refine wpAnyG_pure (i := 23) (v := ?vd23) at23 (by kernel_rfl) (fun _ _ _ h => h) (Or.inl ⟨by rfl, ?hd23⟩) (Or.inr (by assumption)) ?rd23
  case hd23 => (intro w hSw; (try dsimp only at hSw); go_simp; try with_reducible rfl)
  case' rd23 => skip
  try simp only [Act.put, List.setIfInBounds_toArray, List.set_cons_zero, List.set_cons_succ]
  refine wpAnyG_pure (i := 24) (v := ?vd24) at24 (by kernel_rfl) (fun _ _ _ h => h) (Or.inl ⟨by rfl, ?hd24⟩) (Or.inr (by assumption)) ?rd24
  case hd24 => (intro w hSw; (try dsimp only at hSw); go_simp; try with_reducible rfl)
  case' rd24 => skip
  try simp only [Act.put, List.setIfInBounds_toArray, List.set_cons_zero, List.set_cons_succ]
  refine wpAnyG_pure (i := 25) (v := ?vd25) at25 (by kernel_rfl) (fun _ _ _ h => h) (Or.inl ⟨by rfl, ?hd25⟩) (Or.inr (by assumption)) ?rd25
  case hd25 => (intro w hSw; (try dsimp only at hSw); go_simp; try with_reducible rfl)
  case' rd25 => skip
  try simp only [Act.put, List.setIfInBounds_toArray, List.set_cons_zero, List.set_cons_succ]
  refine wpAnyG_pure (i := 26) (v := ?vd26) at26 (by kernel_rfl) (fun _ _ _ h => h) (Or.inl ⟨by rfl, ?hd26⟩) (Or.inr (by assumption)) ?rd26
  case hd26 => (intro w hSw; (try dsimp only at hSw); go_simp; try with_reducible rfl)
  case' rd26 => skip
  try simp only [Act.put, List.setIfInBounds_toArray, List.set_cons_zero, List.set_cons_succ]
  refine wpAnyG_one 27 at27 (by kernel_rfl) (fun Kn hK => ?_)
  go_simp
  refine (HFL.out _ hS7.1).mono ?_
  rintro e w8 ⟨A, cc, rfl, hb8⟩
  have hS8 : (fun W => SS W ∧ W.cell? ⟨q, 1, none⟩ = some (.string T)) w8 := by
    have := HBEL.out _ _ hS7.1 hb8
    exact ⟨this, HCELL.out _ this⟩
  refine hK.out _ _ (Or.inr hS8) ?_
  clear hK Kn hS7 hb8
  try simp only [Act.put, List.setIfInBounds_toArray, List.set_cons_zero, List.set_cons_succ]
  refine wpAnyG_pure (i := 28) (v := ?ve28) at28 (by kernel_rfl) (fun _ _ _ h => h) (Or.inl ⟨by rfl, ?he28⟩) (Or.inr (by assumption)) ?re28
  case he28 => (intro w hSw; (try dsimp only at hSw); go_simp; try with_reducible rfl)
  case' re28 => skip
  try simp only [Act.put, List.setIfInBounds_toArray, List.set_cons_zero, List.set_cons_succ]
  refine wpAnyG_pure (i := 29) (v := ?ve29) at29 (by kernel_rfl) (fun _ _ _ h => h) (Or.inl ⟨by rfl, ?he29⟩) (Or.inr (by assumption)) ?re29
  case he29 => (intro w hSw; (try dsimp only at hSw); go_simp; try with_reducible rfl)
  case' re29 => skip
  try simp only [Act.put, List.setIfInBounds_toArray, List.set_cons_zero, List.set_cons_succ]
  refine wpAnyG_pure (i := 30) (v := ?ve30) at30 (by kernel_rfl) (fun _ _ _ h => h) (Or.inl ⟨by rfl, ?he30⟩) (Or.inr (by assumption)) ?re30
  case he30 => (intro w hSw; (try dsimp only at hSw); go_simp; try with_reducible rfl)
  case' re30 => skip
  try simp only [Act.put, List.setIfInBounds_toArray, List.set_cons_zero, List.set_cons_succ]
  refine wpAnyG_one 31 at31 (by kernel_rfl) (fun Kn hK => ?_)
  go_simp
  refine hK.out _ _ (Or.inl (by kernel_rfl)) ?_
  clear hK Kn
  refine wpAnyG_done (by kernel_rfl) ?_
  try simp only [Act.put, List.setIfInBounds_toArray, List.set_cons_zero, List.set_cons_succ]
  go_wp2_with fail
  go_ret
  exact ⟨rfl, HFIN.out _ hS8.1⟩
set_option maxRecDepth 100000 in
set_option maxHeartbeats 2000000 in
theorem userNames_calls (w : World) (s : ByteArray) (seed : Nat) (hs : s.size ≤ 9223372036854775807) (hd : seed < 18446744073709551616) (hT : Tabs w) :
    Calls Tryz.prog 3 #[.string s, .int .u64 seed] w fun e w' => e = .returned (.bool true) ∧ Below w.heap.size w w' := by
  have HS1 := Lib.hid (shown14_calls hT)
  by_cases hbig : 500 < s.size
  · clear hT
    go_enter Tryz.func3, Tryz.ntmps3
    go_wp2_with fail
    refine HS1.out.mono ?_
    rintro e w1 ⟨rfl, hb⟩
    have B1 := Lib.hid hb
    clear hb
    go_wp2_with fail
    go_ret
    exact ⟨rfl, B1.out⟩
  · have HU : Hid (∀ W, Below w.heap.size w W → _) := Lib.hid (fun W hb => unew_calls W s seed hs hd (hT.below hb))
    have HR := Lib.hid (fun W => rnew14_calls W s seed (by omega) hd)
    cases hn : nameR s with
    | true =>
      refine userNames_yes w w s seed (by omega) hn HS1 (Lib.hid fun W hb => (HU.out W hb).mono ?_) (Lib.hid fun W => (HR.out W).mono ?_)
      · rintro e w' ⟨h1, h2⟩
        rw [hn, if_pos rfl] at h2
        obtain ⟨p, d, b, m, he, hU, _⟩ := h2
        exact ⟨h1, p, d, b, m, he, hU⟩
      · rintro e w' ⟨h1, h2⟩
        rw [hn, if_pos rfl] at h2
        obtain ⟨q, he, hr, _⟩ := h2
        exact ⟨h1, q, he, hr⟩
    | false =>
      rw [hn] at HU HR
      simp only [Bool.false_eq_true, if_false] at HU HR
      clear hT hn
      go_enter Tryz.func3, Tryz.ntmps3
      go_wp2_with fail
      refine HS1.out.mono ?_
      rintro e w1 ⟨rfl, hb⟩
      have B1 := Lib.hid hb
      clear hb
      go_wp2_with fail
      refine (HU.out _ B1.out).mono ?_
      rintro e w2 ⟨hb, rfl⟩
      have B2 := Lib.hid (B1.out.trans (hb.mono B1.out.size))
      clear hb
      go_wp2_with fail
      refine (HR.out _).mono ?_
      rintro e w3 ⟨hb, rfl⟩
      have B3 := Lib.hid (B2.out.trans (hb.mono B2.out.size))
      clear hb
      go_wp2_with fail
      go_ret
      exact ⟨rfl, B3.out⟩
end Go.Proofs.YtckblcfkajpofaaGreatDoor
