/- draw: no two draws of a seed are the same: plain law. draw: secrets of different draws differ: plain law. -/
import Derived.Test.YtckblcfkajpofaaGreatDoorZA4
import Derived.Test.YtckblcfkajpofaaGreatDoorZA8
namespace Go.Proofs.YtckblcfkajpofaaGreatDoor
set_option linter.unusedVariables false
set_option linter.unusedSimpArgs false

theorem xorShift_inj {a b k : Nat} (hk : 1 ≤ k) (h : a ^^^ a >>> k = b ^^^ b >>> k) : a = b := by
  have h1 : a ^^^ b = (a ^^^ b) >>> k := by
    rw [Nat.shiftRight_xor_distrib]
    have h2 : (a ^^^ a >>> k) ^^^ (b ^^^ a >>> k) = (b ^^^ b >>> k) ^^^ (b ^^^ a >>> k) := by rw [h]
    have e1 : (a ^^^ a >>> k) ^^^ (b ^^^ a >>> k) = a ^^^ b := by
      rw [Nat.xor_assoc, ← Nat.xor_assoc (a >>> k), Nat.xor_comm (a >>> k) b, Nat.xor_assoc b, Nat.xor_self, Nat.xor_zero]
    have e2 : (b ^^^ b >>> k) ^^^ (b ^^^ a >>> k) = a >>> k ^^^ b >>> k := by
      rw [Nat.xor_comm b (b >>> k), Nat.xor_assoc, ← Nat.xor_assoc b b, Nat.xor_self, Nat.zero_xor, Nat.xor_comm]
    rw [e1, e2] at h2; exact h2
  have h2 : a ^^^ b = 0 := by
    rw [Nat.shiftRight_eq_div_pow] at h1
    have h3 : 2 ≤ 2 ^ k := by
      calc 2 = 2 ^ 1 := rfl
        _ ≤ 2 ^ k := Nat.pow_le_pow_right (by omega) hk
    have h4 : (a ^^^ b) / 2 ^ k ≤ (a ^^^ b) / 2 := Nat.div_le_div_left h3 (by omega)
    omega
  have h3 : (a ^^^ b) ^^^ b = b := by rw [h2, Nat.zero_xor]
  rw [Nat.xor_assoc, Nat.xor_self, Nat.xor_zero] at h3
  exact h3
theorem mul_inj {t u a b : Nat} (hu : t * u % 18446744073709551616 = 1) (ha : a < 18446744073709551616) (hb : b < 18446744073709551616) (h : a * t % 18446744073709551616 = b * t % 18446744073709551616) : a = b := by
  have key : ∀ x, x < 18446744073709551616 → x * t % 18446744073709551616 * u % 18446744073709551616 = x := fun x hx => by
    rw [Nat.mod_mul_mod, Nat.mul_assoc, Nat.mul_mod, hu, Nat.mul_one, Nat.mod_mod, Nat.mod_eq_of_lt hx]
  rw [← key a ha, h, key b hb]
theorem fold1_inj {a b k s t u : Nat} (hs : s = 2 ^ k) (hk : 1 ≤ k) (hk2 : k < 64) (hu : t * u % 18446744073709551616 = 1) (ha : a < 18446744073709551616) (hb : b < 18446744073709551616) (h : fold1 a s t = fold1 b s t) : a = b := by
  subst hs
  unfold fold1 at h
  rw [← Nat.shiftRight_eq_div_pow, ← Nat.shiftRight_eq_div_pow] at h
  have hlt : ∀ x, x < 18446744073709551616 → x ^^^ x >>> k < 18446744073709551616 := fun x hx => Nat.xor_lt_two_pow (n := 64) hx (by rw [Nat.shiftRight_eq_div_pow]; exact Nat.lt_of_le_of_lt (Nat.div_le_self _ _) hx)
  exact xorShift_inj hk (mul_inj hu (hlt a ha) (hlt b hb) h)
theorem shift1_inj {a b : Nat} (ha : a < 18446744073709551616) (hb : b < 18446744073709551616) (h : (a + stepN) % 18446744073709551616 = (b + stepN) % 18446744073709551616) : a = b := by
  unfold stepN at h; omega
theorem mixN_inj {a b : Nat} (ha : a < 18446744073709551616) (hb : b < 18446744073709551616) (h : mixN a = mixN b) : a = b := by
  unfold mixN at h
  refine shift1_inj ha hb ?_
  obtain ⟨a0, ha0⟩ : ∃ a0, (a + stepN) % 18446744073709551616 = a0 := ⟨_, rfl⟩
  obtain ⟨b0, hb0⟩ : ∃ b0, (b + stepN) % 18446744073709551616 = b0 := ⟨_, rfl⟩
  have la : a0 < 18446744073709551616 := by rw [← ha0]; exact Nat.mod_lt _ (by decide)
  have lb : b0 < 18446744073709551616 := by rw [← hb0]; exact Nat.mod_lt _ (by decide)
  rw [ha0, hb0] at h ⊢
  clear ha0 hb0
  obtain ⟨a1, ha1⟩ : ∃ a1, fold1 a0 1073741824 13787848793156543929 = a1 := ⟨_, rfl⟩
  obtain ⟨b1, hb1⟩ : ∃ b1, fold1 b0 1073741824 13787848793156543929 = b1 := ⟨_, rfl⟩
  have la1 : a1 < 18446744073709551616 := by rw [← ha1]; exact fold1_lt _ _ _
  have lb1 : b1 < 18446744073709551616 := by rw [← hb1]; exact fold1_lt _ _ _
  rw [ha1, hb1] at h
  obtain ⟨a2, ha2⟩ : ∃ a2, fold1 a1 134217728 10723151780598845931 = a2 := ⟨_, rfl⟩
  obtain ⟨b2, hb2⟩ : ∃ b2, fold1 b1 134217728 10723151780598845931 = b2 := ⟨_, rfl⟩
  have la2 : a2 < 18446744073709551616 := by rw [← ha2]; exact fold1_lt _ _ _
  have lb2 : b2 < 18446744073709551616 := by rw [← hb2]; exact fold1_lt _ _ _
  rw [ha2, hb2] at h
  have h1 : a2 = b2 := fold1_inj (k := 31) (s := 2147483648) (t := 1) (u := 1) (by decide) (by omega) (by omega) (by decide) la2 lb2 h
  rw [h1, ← hb2] at ha2
  have h2 : a1 = b1 := fold1_inj (k := 27) (s := 134217728) (t := 10723151780598845931) (u := 3573116690164977347) (by decide) (by omega) (by omega) (by decide) la1 lb1 ha2
  rw [h2, ← hb1] at ha1
  exact fold1_inj (k := 30) (s := 1073741824) (t := 13787848793156543929) (u := 10871156337175269513) (by decide) (by omega) (by omega) (by decide) la lb ha1
theorem drawN_inj {s i j : Nat} (hi : i < 18446744073709551616) (hj : j < 18446744073709551616) (h : drawN s i = drawN s j) : i = j := by
  unfold drawN at h
  have h1 := mixN_inj (Nat.mod_lt _ (by decide)) (Nat.mod_lt _ (by decide)) h
  refine mul_inj (t := stepN) (u := 17428512612931826493) (by decide) hi hj ?_
  generalize i * stepN = x at h1 ⊢
  generalize j * stepN = y at h1 ⊢
  omega
end Go.Proofs.YtckblcfkajpofaaGreatDoor
namespace Go.Proofs.YtckblcfkajpofaaGreatDoor
set_option linter.unusedVariables false
set_option linter.unusedSimpArgs false

def secTm (use who : List UInt8) (n : Nat) : Tm := .one 104 (.two 112 (.text (use ++ 58 :: who)) (.atom n))
theorem secTm_len {use who : List UInt8} {n : Nat} (h : use.length + who.length ≤ 1000) (hn : n < 18446744073709551616) : (secTm use who n).enc.length ≤ 2000 := by
  have h1 := wput_len_le hn
  have h2 := wput_len_le (n := (use ++ 58 :: who).length) (by simp; omega)
  simp only [secTm, Tm.enc, wtext, List.length_cons, List.length_append] at *
  omega
theorem secTm_wf {use who : List UInt8} {n : Nat} (h : use.length + who.length ≤ 1000) (hn : n < 18446744073709551616) : (secTm use who n).wf 40 :=
  ⟨rfl, rfl, (by show (use ++ 58 :: who).length ≤ 4000; simp; omega), hn, fun e => absurd e (by decide)⟩
theorem secretT_eq {use who : List UInt8} {n : Nat} (h : use.length + who.length ≤ 1000) (hn : n < 18446744073709551616) : secretT use who n = .ok (secTm use who n).enc := by
  have hl := secTm_len h hn
  have hw := secTm_wf h hn
  have hl2 : (116 :: wtext (use ++ 58 :: who)).length + (ofAtom n).length ≤ 1900 := by
    have h1 := wput_len_le hn
    have h2 := wput_len_le (n := (use ++ 58 :: who).length) (by simp; omega)
    simp only [ofAtom, wtext, List.length_cons, List.length_append] at *
    omega
  have ht : ofText (use ++ 58 :: who) = .ok (116 :: wtext (use ++ 58 :: who)) := by
    unfold ofText; rw [if_neg (by omega)]
  have r1 : rightT (116 :: wtext (use ++ 58 :: who)) = true := right_text (by omega)
  have r2 : rightT (ofAtom n) = true := right_atom hn
  have r3 : rightT (112 :: ((116 :: wtext (use ++ 58 :: who)) ++ ofAtom n)) = true := rightT_iff.2 ⟨.two 112 (.text (use ++ 58 :: who)) (.atom n), rfl, Tm.wf_mono (d := 39) hw.2 (by omega), by rw [List.length_cons, List.length_append]; omega⟩
  have r4 : rightT (104 :: (112 :: ((116 :: wtext (use ++ 58 :: who)) ++ ofAtom n))) = true := rightT_iff.2 ⟨secTm use who n, rfl, hw, by rw [List.length_cons, List.length_cons, List.length_append]; omega⟩
  unfold secretT
  rw [ht]
  simp only
  unfold ofTwo
  rw [r1, r2, if_pos (show (true && true) = true from rfl)]
  unfold made
  rw [if_pos r3]
  simp only
  unfold ofOne made
  rw [if_pos r3, if_pos r4]
  rfl
theorem secT_inj {u1 w1 u2 w2 : ByteArray} {a b : Nat} (h1 : u1.size + w1.size ≤ 1000) (h2 : u2.size + w2.size ≤ 1000) (ha : a < 18446744073709551616) (hb : b < 18446744073709551616) (h : secT u1 w1 a = secT u2 w2 b) : a = b := by
  have e1 : (toL u1).length + (toL w1).length ≤ 1000 := by rw [show (toL u1).length = u1.size from list_size u1, show (toL w1).length = w1.size from list_size w1]; exact h1
  have e2 : (toL u2).length + (toL w2).length ≤ 1000 := by rw [show (toL u2).length = u2.size from list_size u2, show (toL w2).length = w2.size from list_size w2]; exact h2
  unfold secT at h
  rw [secretT_eq e1 ha, secretT_eq e2 hb] at h
  have h3 : (secTm (toL u1) (toL w1) a).enc = (secTm (toL u2) (toL w2) b).enc := mkB_inj h
  have h4 := enc_inj h3 (secTm_wf e1 ha) (secTm_wf e2 hb)
  unfold secTm at h4
  have h5 := (Tm.one.inj h4).2
  have h6 := (Tm.two.inj h5).2.2
  exact Tm.atom.inj h6
theorem secT_ne {u1 w1 u2 w2 : ByteArray} {s i j : Nat} (h1 : u1.size + w1.size ≤ 1000) (h2 : u2.size + w2.size ≤ 1000) (hi : i < 18446744073709551616) (hj : j < 18446744073709551616) (hij : i ≠ j) : secT u1 w1 (drawN s i) ≠ secT u2 w2 (drawN s j) := fun h =>
  hij (drawN_inj hi hj (secT_inj h1 h2 (mixN_lt _) (mixN_lt _) h))
end Go.Proofs.YtckblcfkajpofaaGreatDoor
