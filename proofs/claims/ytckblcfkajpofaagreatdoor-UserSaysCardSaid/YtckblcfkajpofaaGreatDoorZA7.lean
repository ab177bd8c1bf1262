/- document 1, plain law: the first rune, the runes of a text, and that its names are the program's. document 1: in, letter, valid, first. document 1: Runes, Right. -/
import Derived.Test.YtckblcfkajpofaaGreatDoorZA1
import Derived.Test.YtckblcfkajpofaaGreatDoorZA6
import Derived.Test.YtckblcfkajpofaaGreatDoorZA2
namespace Go.Proofs.YtckblcfkajpofaaGreatDoor
open Go.Lib
set_option linter.unusedVariables false
set_option linter.unusedSimpArgs false

/-- the rune that bytes begin with, and its length; 0: there is none -/
def firstD (l : List UInt8) : Nat × Nat := if l = [] then (0, 0) else if (decodeL l).1 = 65533 ∧ (decodeL l).2 = 1 then (0, 0) else decodeL l
def validN (r : Nat) : Prop := r ≤ 1114111 ∧ (r < 55296 ∨ 57343 < r)
instance (r : Nat) : Decidable (validN r) := inferInstanceAs (Decidable (_ ∧ _))
def accL (r : Nat) : List UInt8 → Option Nat
  | [] => some r
  | b :: t => if b.toNat < 128 ∨ 191 < b.toNat then none else accL (64 * r + (b.toNat - 128)) t
def firstK (t : List UInt8) (k r0 least : Nat) : Nat × Nat := match accL r0 (t.take (k - 1)) with
  | none => (0, 0)
  | some r => if r < least ∨ ¬ validN r then (0, 0) else (r, k)

theorem firstD_ascii (b : UInt8) (t : List UInt8) (h : b.toNat < 128) : firstD (b :: t) = (b.toNat, 1) := by
  unfold firstD
  rw [if_neg (by simp), decodeL_ascii b t h, if_neg (by simp; omega)]
theorem dec0 (n b0 b1 b2 b3 : Nat) (h : 128 ≤ b0) (h2 : b0 < 192 ∨ 248 ≤ b0) (h3 : b0 < 256) : decodeN n b0 b1 b2 b3 = (65533, 1) := by
  unfold decodeN
  rw [if_neg (by omega), if_neg (fun e => by have := e.1; omega), if_neg (fun e => by have := e.1; omega), if_neg (fun e => by have := e.1; omega)]
theorem dec2 (n b0 b1 b2 b3 : Nat) (h : 192 ≤ b0) (h2 : b0 < 224) : decodeN n b0 b1 b2 b3 = if 1 < n ∧ 128 ≤ b1 ∧ b1 ≤ 191 then (if 128 ≤ 64 * (b0 - 192) + (b1 - 128) then (64 * (b0 - 192) + (b1 - 128), 2) else (65533, 1)) else (65533, 1) := by
  unfold decodeN
  rw [if_neg (show ¬ b0 < 128 by omega)]
  by_cases hk : 1 < n ∧ 128 ≤ b1 ∧ b1 ≤ 191
  · rw [if_pos hk, if_pos ⟨by omega, hk.1, by omega⟩]
    have e : b0 % 32 * 64 + b1 % 64 = 64 * (b0 - 192) + (b1 - 128) := by omega
    rw [e]
  · rw [if_neg hk, if_neg (fun e => hk ⟨e.2.1, by have := e.2.2; omega, by have := e.2.2; omega⟩), if_neg (fun e => by have := e.1; omega), if_neg (fun e => by have := e.1; omega)]
theorem dec3 (n b0 b1 b2 b3 : Nat) (h : 224 ≤ b0) (h2 : b0 < 240) : decodeN n b0 b1 b2 b3 = if (1 < n ∧ 128 ≤ b1 ∧ b1 ≤ 191) ∧ (2 < n ∧ 128 ≤ b2 ∧ b2 ≤ 191) then (if 2048 ≤ 64 * (64 * (b0 - 224) + (b1 - 128)) + (b2 - 128) ∧ validN (64 * (64 * (b0 - 224) + (b1 - 128)) + (b2 - 128)) then (64 * (64 * (b0 - 224) + (b1 - 128)) + (b2 - 128), 3) else (65533, 1)) else (65533, 1) := by
  unfold decodeN validN
  rw [if_neg (show ¬ b0 < 128 by omega), if_neg (fun e => by have := e.1; omega)]
  by_cases hk : (1 < n ∧ 128 ≤ b1 ∧ b1 ≤ 191) ∧ (2 < n ∧ 128 ≤ b2 ∧ b2 ≤ 191)
  · rw [if_pos hk, if_pos ⟨by omega, ⟨hk.1.1, by omega⟩, hk.2.1, by omega⟩]
    have e : b0 % 16 * 4096 + b1 % 64 * 64 + b2 % 64 = 64 * (64 * (b0 - 224) + (b1 - 128)) + (b2 - 128) := by omega
    rw [e]
    generalize 64 * (64 * (b0 - 224) + (b1 - 128)) + (b2 - 128) = V
    by_cases hv : 2048 ≤ V ∧ V ≤ 1114111 ∧ (V < 55296 ∨ 57343 < V)
    · rw [if_pos hv, if_pos (by omega)]
    · rw [if_neg hv, if_neg (by omega)]
  · rw [if_neg hk, if_neg (fun e => hk ⟨⟨e.2.1.1, by have := e.2.1.2; omega, by have := e.2.1.2; omega⟩, e.2.2.1, by have := e.2.2.2; omega, by have := e.2.2.2; omega⟩), if_neg (fun e => by have := e.1; omega)]
theorem dec4 (n b0 b1 b2 b3 : Nat) (h : 240 ≤ b0) (h2 : b0 < 248) : decodeN n b0 b1 b2 b3 = if (1 < n ∧ 128 ≤ b1 ∧ b1 ≤ 191) ∧ (2 < n ∧ 128 ≤ b2 ∧ b2 ≤ 191) ∧ (3 < n ∧ 128 ≤ b3 ∧ b3 ≤ 191) then (if 65536 ≤ 64 * (64 * (64 * (b0 - 240) + (b1 - 128)) + (b2 - 128)) + (b3 - 128) ∧ validN (64 * (64 * (64 * (b0 - 240) + (b1 - 128)) + (b2 - 128)) + (b3 - 128)) then (64 * (64 * (64 * (b0 - 240) + (b1 - 128)) + (b2 - 128)) + (b3 - 128), 4) else (65533, 1)) else (65533, 1) := by
  unfold decodeN validN
  rw [if_neg (show ¬ b0 < 128 by omega), if_neg (fun e => by have := e.1; omega), if_neg (fun e => by have := e.1; omega)]
  by_cases hk : (1 < n ∧ 128 ≤ b1 ∧ b1 ≤ 191) ∧ (2 < n ∧ 128 ≤ b2 ∧ b2 ≤ 191) ∧ (3 < n ∧ 128 ≤ b3 ∧ b3 ≤ 191)
  · rw [if_pos hk, if_pos ⟨by omega, ⟨hk.1.1, by omega⟩, ⟨hk.2.1.1, by omega⟩, hk.2.2.1, by omega⟩]
    have e : b0 % 8 * 262144 + b1 % 64 * 4096 + b2 % 64 * 64 + b3 % 64 = 64 * (64 * (64 * (b0 - 240) + (b1 - 128)) + (b2 - 128)) + (b3 - 128) := by omega
    rw [e]
    generalize 64 * (64 * (64 * (b0 - 240) + (b1 - 128)) + (b2 - 128)) + (b3 - 128) = V
    by_cases hv : 65536 ≤ V ∧ V ≤ 1114111 ∧ (V < 55296 ∨ 57343 < V)
    · rw [if_pos hv, if_pos (by omega)]
    · rw [if_neg hv, if_neg (by omega)]
  · rw [if_neg hk, if_neg (fun e => hk ⟨⟨e.2.1.1, by have := e.2.1.2; omega, by have := e.2.1.2; omega⟩, ⟨e.2.2.1.1, by have := e.2.2.1.2; omega, by have := e.2.2.1.2; omega⟩, e.2.2.2.1, by have := e.2.2.2.2; omega, by have := e.2.2.2.2; omega⟩)]
theorem firstD_of {l : List UInt8} {x : Nat × Nat} (hl : l ≠ []) (h : decodeL l = x) : firstD l = if x.1 = 65533 ∧ x.2 = 1 then (0, 0) else x := by
  unfold firstD; rw [if_neg hl, h]
theorem firstD_bad {l : List UInt8} (hl : l ≠ []) (h : decodeL l = (65533, 1)) : firstD l = (0, 0) := by
  rw [firstD_of hl h]; exact if_pos ⟨rfl, rfl⟩
theorem firstD_good {l : List UInt8} {v k : Nat} (hl : l ≠ []) (h : decodeL l = (v, k)) (hk : k ≠ 1) : firstD l = (v, k) := by
  rw [firstD_of hl h]; exact if_neg fun e => hk e.2
theorem firstD_none (b : UInt8) (t : List UInt8) (h : 128 ≤ b.toNat) (h2 : b.toNat < 192 ∨ 248 ≤ b.toNat) : firstD (b :: t) = (0, 0) :=
  firstD_bad (by simp) (by rw [decodeL_N]; exact dec0 _ _ _ _ _ h h2 b.toNat_lt)
theorem firstD_two (b : UInt8) (t : List UInt8) (h : 192 ≤ b.toNat) (h2 : b.toNat < 224) : firstD (b :: t) = if t.length < 1 then (0, 0) else firstK t 2 (b.toNat - 192) 128 := by
  have hD := decodeL_N (b :: t)
  rw [List.getD_cons_zero, dec2 _ _ _ _ _ h h2] at hD
  match t, hD with
  | [], hD =>
    rw [if_neg (by simp)] at hD
    rw [firstD_bad (by simp) hD]; rfl
  | c :: t, hD =>
    rw [if_neg (show ¬ (c :: t).length < 1 by simp)]
    simp only [List.getD_cons_succ, List.getD_cons_zero] at hD
    simp only [firstK, List.take_succ_cons, List.take_zero, accL]
    by_cases hk : c.toNat < 128 ∨ 191 < c.toNat
    · rw [if_neg (fun e => by omega)] at hD
      rw [firstD_bad (by simp) hD, if_pos hk]
    · rw [if_pos ⟨by simp, by omega, by omega⟩] at hD
      rw [if_neg hk]
      simp only
      by_cases hv : 128 ≤ 64 * (b.toNat - 192) + (c.toNat - 128)
      · rw [if_pos hv] at hD
        rw [firstD_good (by simp) hD (by decide), if_neg (by unfold validN; omega)]
      · rw [if_neg hv] at hD
        rw [firstD_bad (by simp) hD, if_pos (by omega)]
theorem firstD_three (b : UInt8) (t : List UInt8) (h : 224 ≤ b.toNat) (h2 : b.toNat < 240) : firstD (b :: t) = if t.length < 2 then (0, 0) else firstK t 3 (b.toNat - 224) 2048 := by
  have hD := decodeL_N (b :: t)
  rw [List.getD_cons_zero, dec3 _ _ _ _ _ h h2] at hD
  match t, hD with
  | [], hD =>
    rw [if_neg (by simp)] at hD
    rw [firstD_bad (by simp) hD]; rfl
  | [c], hD =>
    rw [if_neg (by simp)] at hD
    rw [firstD_bad (by simp) hD]; rfl
  | c :: d :: t, hD =>
    rw [if_neg (show ¬ (c :: d :: t).length < 2 by simp)]
    simp only [List.getD_cons_succ, List.getD_cons_zero] at hD
    simp only [firstK, List.take_succ_cons, List.take_zero, accL]
    by_cases hk : c.toNat < 128 ∨ 191 < c.toNat
    · rw [if_neg (fun e => by omega)] at hD
      rw [firstD_bad (by simp) hD, if_pos hk]
    · rw [if_neg hk]
      by_cases hk2 : d.toNat < 128 ∨ 191 < d.toNat
      · rw [if_neg (fun e => by omega)] at hD
        rw [firstD_bad (by simp) hD, if_pos hk2]
      · rw [if_neg hk2]
        rw [if_pos ⟨⟨by simp, by omega, by omega⟩, by simp, by omega, by omega⟩] at hD
        simp only
        generalize 64 * (64 * (b.toNat - 224) + (c.toNat - 128)) + (d.toNat - 128) = V at hD ⊢
        by_cases hv : 2048 ≤ V ∧ validN V
        · rw [if_pos hv] at hD
          rw [firstD_good (by simp) hD (by decide), if_neg (fun e => by rcases e with e | e; omega; exact e hv.2)]
        · rw [if_neg hv] at hD
          rw [firstD_bad (by simp) hD, if_pos (by by_cases hl : V < 2048; exact Or.inl hl; exact Or.inr fun e => hv ⟨by omega, e⟩)]
theorem firstD_four (b : UInt8) (t : List UInt8) (h : 240 ≤ b.toNat) (h2 : b.toNat < 248) : firstD (b :: t) = if t.length < 3 then (0, 0) else firstK t 4 (b.toNat - 240) 65536 := by
  have hD := decodeL_N (b :: t)
  rw [List.getD_cons_zero, dec4 _ _ _ _ _ h h2] at hD
  match t, hD with
  | [], hD =>
    rw [if_neg (by simp)] at hD
    rw [firstD_bad (by simp) hD]; rfl
  | [c], hD =>
    rw [if_neg (by simp)] at hD
    rw [firstD_bad (by simp) hD]; rfl
  | [c, d], hD =>
    rw [if_neg (by simp)] at hD
    rw [firstD_bad (by simp) hD]; rfl
  | c :: d :: f :: t, hD =>
    rw [if_neg (show ¬ (c :: d :: f :: t).length < 3 by simp)]
    simp only [List.getD_cons_succ, List.getD_cons_zero] at hD
    simp only [firstK, List.take_succ_cons, List.take_zero, accL]
    by_cases hk : c.toNat < 128 ∨ 191 < c.toNat
    · rw [if_neg (fun e => by omega)] at hD
      rw [firstD_bad (by simp) hD, if_pos hk]
    · rw [if_neg hk]
      by_cases hk2 : d.toNat < 128 ∨ 191 < d.toNat
      · rw [if_neg (fun e => by omega)] at hD
        rw [firstD_bad (by simp) hD, if_pos hk2]
      · rw [if_neg hk2]
        by_cases hk3 : f.toNat < 128 ∨ 191 < f.toNat
        · rw [if_neg (fun e => by omega)] at hD
          rw [firstD_bad (by simp) hD, if_pos hk3]
        · rw [if_neg hk3]
          rw [if_pos ⟨⟨by simp, by omega, by omega⟩, ⟨by simp, by omega, by omega⟩, by simp, by omega, by omega⟩] at hD
          simp only
          generalize 64 * (64 * (64 * (b.toNat - 240) + (c.toNat - 128)) + (d.toNat - 128)) + (f.toNat - 128) = V at hD ⊢
          by_cases hv : 65536 ≤ V ∧ validN V
          · rw [if_pos hv] at hD
            rw [firstD_good (by simp) hD (by decide), if_neg (fun e => by rcases e with e | e; omega; exact e hv.2)]
          · rw [if_neg hv] at hD
            rw [firstD_bad (by simp) hD, if_pos (by by_cases hl : V < 65536; exact Or.inl hl; exact Or.inr fun e => hv ⟨by omega, e⟩)]
theorem firstD_some {l : List UInt8} (h : (firstD l).2 ≠ 0) : l ≠ [] ∧ firstD l = decodeL l ∧ ¬ ((decodeL l).1 = 65533 ∧ (decodeL l).2 = 1) := by
  unfold firstD at h ⊢
  by_cases hl : l = []
  · rw [if_pos hl] at h; exact absurd rfl h
  · rw [if_neg hl] at h ⊢
    by_cases hd : (decodeL l).1 = 65533 ∧ (decodeL l).2 = 1
    · rw [if_pos hd] at h; exact absurd rfl h
    · rw [if_neg hd]; exact ⟨hl, rfl, hd⟩
theorem firstD_le (l : List UInt8) : (firstD l).2 ≤ l.length ∧ (firstD l).1 ≤ 1114111 := by
  unfold firstD
  by_cases hl : l = []
  · rw [if_pos hl]; simp
  · rw [if_neg hl]
    split
    · simp
    · exact ⟨decodeL_le l hl, decodeL_rune l⟩

/-- the runes of a text, if it is valid -/
def runesGo : Nat → List UInt8 → Option (List Nat)
  | 0, l => if l = [] then some [] else none
  | n + 1, l => if l = [] then some [] else if (firstD l).2 = 0 then none else (runesGo n (l.drop (firstD l).2)).map ((firstD l).1 :: ·)
theorem runesGo_fuel : ∀ (n m : Nat) (l : List UInt8), l.length ≤ n → l.length ≤ m → runesGo n l = runesGo m l
  | 0, 0, _, _, _ => rfl
  | 0, m + 1, l, h, _ => by
    have : l = [] := List.eq_nil_of_length_eq_zero (by omega)
    subst this; simp [runesGo]
  | n + 1, 0, l, _, h => by
    have : l = [] := List.eq_nil_of_length_eq_zero (by omega)
    subst this; simp [runesGo]
  | n + 1, m + 1, l, h1, h2 => by
    unfold runesGo
    by_cases hl : l = []
    · simp [hl]
    · by_cases hz : (firstD l).2 = 0
      · simp [hz]
      · have hlen : (l.drop (firstD l).2).length = l.length - (firstD l).2 := List.length_drop
        have h0 : 0 < l.length := List.length_pos_iff.2 hl
        rw [runesGo_fuel n m (l.drop (firstD l).2) (by omega) (by omega)]
def runesD (l : List UInt8) : Option (List Nat) := runesGo l.length l
theorem runesD_nil : runesD [] = some [] := rfl
theorem runesD_step (l : List UInt8) (hl : l ≠ []) : runesD l = if (firstD l).2 = 0 then none else (runesD (l.drop (firstD l).2)).map ((firstD l).1 :: ·) := by
  have h0 : 0 < l.length := List.length_pos_iff.2 hl
  obtain ⟨n, hn⟩ : ∃ n, l.length = n + 1 := ⟨l.length - 1, by omega⟩
  unfold runesD
  rw [hn]
  simp only [runesGo, if_neg hl]
  by_cases hz : (firstD l).2 = 0
  · simp [hz]
  · rw [if_neg hz, if_neg hz]
    have hlen : (l.drop (firstD l).2).length = l.length - (firstD l).2 := List.length_drop
    rw [runesGo_fuel (l.drop (firstD l).2).length n _ (Nat.le_refl _) (by omega)]
theorem letters_runes : ∀ (n : Nat) (l : List UInt8), l.length ≤ n → letters l = match runesD l with
    | none => none
    | some rs => if rs.all isLetter = true then some rs.length else none
  | 0, l, h => by
    have : l = [] := List.eq_nil_of_length_eq_zero (by omega)
    subst this; rfl
  | n + 1, l, h => by
    by_cases hl : l = []
    · subst hl; rfl
    · have hlen0 : 0 < l.length := List.length_pos_iff.2 hl
      rw [letters_step l hl, runesD_step l hl]
      by_cases hz : (firstD l).2 = 0
      · rw [if_pos hz]
        simp only
        apply if_neg
        intro hL
        unfold firstD at hz
        rw [if_neg hl] at hz
        split at hz
        · rename_i hd; exact letter_valid hL hd.1
        · have := decodeL_width l; omega
      · obtain ⟨_, hf, _⟩ := firstD_some hz
        have hw := decodeL_width l
        rw [if_neg hz, hf]
        have hdl : (l.drop (decodeL l).2).length ≤ n := by rw [List.length_drop]; omega
        have ih := letters_runes n _ hdl
        rw [ih]
        cases runesD (l.drop (decodeL l).2) with
        | none => simp
        | some rs =>
          simp only [Option.map_some, List.all_cons, Bool.and_eq_true, List.length_cons]
          by_cases hL : isLetter (decodeL l).1 = true
          · by_cases hr : rs.all isLetter = true
            · rw [if_pos hL, if_pos hr, if_pos ⟨hL, hr⟩]; rfl
            · rw [if_pos hL, if_neg hr, if_neg (fun e => hr e.2)]; rfl
          · rw [if_neg hL, if_neg (fun e => hL e.1)]
theorem nameR_runes (s : ByteArray) : nameR s = match runesD s.data.toList with
    | none => false
    | some rs => decide (1 ≤ rs.length) && decide (rs.length ≤ 32) && rs.all isLetter := by
  unfold nameR
  rw [letters_runes _ _ (Nat.le_refl _)]
  cases runesD s.data.toList with
  | none => rfl
  | some rs =>
    simp only
    cases h : rs.all isLetter with
    | true => simp
    | false => simp
theorem runesD_le : ∀ (n : Nat) (l : List UInt8), l.length ≤ n → ∀ rs, runesD l = some rs → rs.length ≤ l.length ∧ ∀ r ∈ rs, r ≤ 1114111
  | 0, l, h, rs, hr => by
    have : l = [] := List.eq_nil_of_length_eq_zero (by omega)
    subst this; cases hr; simp
  | n + 1, l, h, rs, hr => by
    by_cases hl : l = []
    · subst hl; cases hr; simp
    · have hlen0 : 0 < l.length := List.length_pos_iff.2 hl
      rw [runesD_step l hl] at hr
      split at hr
      · cases hr
      · rename_i hz
        cases hd : runesD (l.drop (firstD l).2) with
        | none => rw [hd] at hr; cases hr
        | some qs =>
          rw [hd] at hr; cases hr
          obtain ⟨e1, e2⟩ := runesD_le n _ (by rw [List.length_drop]; omega) qs hd
          rw [List.length_drop] at e1
          refine ⟨by simp; omega, ?_⟩
          intro r hr
          rcases List.mem_cons.1 hr with rfl | hr
          · exact (firstD_le l).2
          · exact e2 r hr
end Go.Proofs.YtckblcfkajpofaaGreatDoor
namespace Go.Proofs.YtckblcfkajpofaaGreatDoor
open Go.RowKit
set_option linter.unusedVariables false
set_option linter.unusedSimpArgs false

theorem rin_calls (r a b : Int) (w : World) :
    Calls Tryz.prog 284 #[.int .i32 r, .int .i32 a, .int .i32 b] w fun e w' => e = .returned (.bool (decide (a ≤ r) && decide (r ≤ b))) ∧ w' = w := by
  by_cases h1 : a ≤ r
  · by_cases h2 : r ≤ b
    · rw [show (decide (a ≤ r) && decide (r ≤ b)) = true by simp [h1, h2]]
      go_enter Tryz.func284, Tryz.ntmps284
      go_wp2_with fail
      go_ret
      exact ⟨rfl, rfl⟩
    · rw [show (decide (a ≤ r) && decide (r ≤ b)) = false by simp [h2]]
      go_enter Tryz.func284, Tryz.ntmps284
      go_wp2_with fail
      go_ret
      exact ⟨rfl, rfl⟩
  · rw [show (decide (a ≤ r) && decide (r ≤ b)) = false by simp [h1]]
    go_enter Tryz.func284, Tryz.ntmps284
    go_wp2_with fail
    go_ret
    exact ⟨rfl, rfl⟩
def inB (r a b : Int) : Bool := decide (a ≤ r) && decide (r ≤ b)
theorem letter_split (r : Nat) : isLetter r = (inB r 97 122 || inB r 48 57 || ((r : Int) == 45) || inB r 223 246 || inB r 248 255 || inB r 945 969 || inB r 1072 1103) := by
  have h45 : ((r : Int) == 45) = (r == 45) := by
    by_cases h : r = 45
    · subst h; rfl
    · rw [beq_false_of_ne h, beq_false_of_ne (by omega)]
  have key : ∀ a b : Nat, inB r a b = (decide (a ≤ r) && decide (r ≤ b)) := fun a b => by
    unfold inB
    congr 1
    · exact decide_eq_decide.2 (by omega)
    · exact decide_eq_decide.2 (by omega)
  rw [h45]
  have k1 := key 97 122
  have k2 := key 48 57
  have k3 := key 223 246
  have k4 := key 248 255
  have k5 := key 945 969
  have k6 := key 1072 1103
  simp only [Int.cast_ofNat_Int] at k1 k2 k3 k4 k5 k6
  rw [k1, k2, k3, k4, k5, k6]
  rfl
set_option maxRecDepth 100000 in
set_option maxHeartbeats 2000000 in
theorem rletter_calls (r : Nat) (hr : r ≤ 1114111) (w : World) :
    Calls Tryz.prog 221 #[.int .i32 r] w fun e w' => e = .returned (.bool (isLetter r)) ∧ w' = w := by
  have HV := Lib.hid (letter_split r)
  have HI : Hid (∀ a b : Int, Calls Tryz.prog 284 #[.int .i32 r, .int .i32 a, .int .i32 b] w fun e w' => e = .returned (.bool (inB r a b)) ∧ w' = w) := Lib.hid (fun a b => rin_calls r a b w)
  obtain ⟨b1, hb1⟩ : ∃ b, inB r 97 122 = b := ⟨_, rfl⟩
  obtain ⟨b2, hb2⟩ : ∃ b, inB r 48 57 = b := ⟨_, rfl⟩
  obtain ⟨b3, hb3⟩ : ∃ b, ((r : Int) == 45) = b := ⟨_, rfl⟩
  obtain ⟨b4, hb4⟩ : ∃ b, inB r 223 246 = b := ⟨_, rfl⟩
  obtain ⟨b5, hb5⟩ : ∃ b, inB r 248 255 = b := ⟨_, rfl⟩
  obtain ⟨b6, hb6⟩ : ∃ b, inB r 945 969 = b := ⟨_, rfl⟩
  obtain ⟨b7, hb7⟩ : ∃ b, inB r 1072 1103 = b := ⟨_, rfl⟩
  rw [hb1, hb2, hb3, hb4, hb5, hb6, hb7] at HV
  have H1 := HI.out 97 122
  have H2 := HI.out 48 57
  have H4 := HI.out 223 246
  have H5 := HI.out 248 255
  have H6 := HI.out 945 969
  have H7 := HI.out 1072 1103
  rw [hb1] at H1
  rw [hb2] at H2
  rw [hb4] at H4
  rw [hb5] at H5
  rw [hb6] at H6
  rw [hb7] at H7
  clear hb1 hb2 hb4 hb5 hb6 hb7 HI
  have G1 := Lib.hid H1
  have G2 := Lib.hid H2
  have G4 := Lib.hid H4
  have G5 := Lib.hid H5
  have G6 := Lib.hid H6
  have G7 := Lib.hid H7
  clear H1 H2 H4 H5 H6 H7
  go_enter Tryz.func221, Tryz.ntmps221
  go_wp2_with fail
  refine G1.out.mono ?_
  rintro e w1 ⟨rfl, rfl⟩
  cases b1 with
  | true =>
    go_wp2_with fail
    go_ret
    exact ⟨by rw [HV.out]; first | rfl | simp, rfl⟩
  | false =>
    go_wp2_with fail
    refine G2.out.mono ?_
    rintro e w2 ⟨rfl, rfl⟩
    cases b2 with
    | true =>
      go_wp2_with fail
      go_ret
      exact ⟨by rw [HV.out]; first | rfl | simp, rfl⟩
    | false =>
      cases b3 with
      | true =>
        go_wp2_with fail
        go_ret
        exact ⟨by rw [HV.out]; first | rfl | simp, rfl⟩
      | false =>
        go_wp2_with fail
        refine G4.out.mono ?_
        rintro e w4 ⟨rfl, rfl⟩
        cases b4 with
        | true =>
          go_wp2_with fail
          go_ret
          exact ⟨by rw [HV.out]; first | rfl | simp, rfl⟩
        | false =>
          go_wp2_with fail
          refine G5.out.mono ?_
          rintro e w5 ⟨rfl, rfl⟩
          cases b5 with
          | true =>
            go_wp2_with fail
            go_ret
            exact ⟨by rw [HV.out]; first | rfl | simp, rfl⟩
          | false =>
            go_wp2_with fail
            refine G6.out.mono ?_
            rintro e w6 ⟨rfl, rfl⟩
            cases b6 with
            | true =>
              go_wp2_with fail
              go_ret
              exact ⟨by rw [HV.out]; first | rfl | simp, rfl⟩
            | false =>
              go_wp2_with fail
              refine G7.out.mono ?_
              rintro e w7 ⟨rfl, rfl⟩
              go_wp2_with fail
              go_ret
              exact ⟨by rw [HV.out]; first | rfl | simp, rfl⟩
set_option maxRecDepth 100000 in
theorem rvalid_calls (r : Nat) (w : World) :
    Calls Tryz.prog 308 #[.int .i32 r] w fun e w' => e = .returned (.bool (decide (validN r))) ∧ w' = w := by
  obtain ⟨G, hG⟩ : ∃ G, decide (validN r) = G := ⟨_, rfl⟩
  rw [hG]
  have HG := Lib.hid hG
  clear hG
  have h0 : (0 : Int) ≤ (r : Int) := by omega
  go_enter Tryz.func308, Tryz.ntmps308
  go_wp2_with fail
  all_goals go_ret
  · rename_i h1 h2
    have e : (decide ((r : Int) < 55296) || decide (57343 < (r : Int))) = G := by
      rw [← HG.out]; skip
      by_cases h3 : 57343 < r
      · rw [decide_eq_true (show 57343 < (r : Int) by omega), Bool.or_true, decide_eq_true (show validN r by unfold validN; omega)]
      · rw [decide_eq_false (show ¬ 57343 < (r : Int) by omega), decide_eq_false (show ¬ (r : Int) < 55296 by omega), decide_eq_false (show ¬ validN r by unfold validN; omega)]; rfl
    exact ⟨congrArg (fun x => Ending.returned (Value.bool x)) e, rfl⟩
  · rename_i h1 h2
    have e : true = G := by
      rw [← HG.out]; rw [decide_eq_true (show validN r by unfold validN; omega)]
    exact ⟨congrArg (fun x => Ending.returned (Value.bool x)) e, rfl⟩
  · rename_i h1
    have e : false = G := by
      rw [← HG.out]; rw [decide_eq_false (show ¬ validN r by unfold validN; omega)]
    exact ⟨congrArg (fun x => Ending.returned (Value.bool x)) e, rfl⟩
def firstV (p : Nat × Nat) : Value := .tuple #[.int .i32 p.1, .int .i64 p.2]
set_option maxRecDepth 100000 in
set_option maxHeartbeats 1000000 in
theorem rfirst_low (s : ByteArray) (b : UInt8) (t : List UInt8) (w : World) (hl : s.data.toList = b :: t) (h : b.toNat < 128) :
    Calls Tryz.prog 283 #[.string s] w fun e w' => e = .returned (.tuple #[.int .i32 b.toNat, .int .i64 1]) ∧ w' = w := by
  have hsz : s.size = t.length + 1 := by have := list_size s; rw [hl] at this; exact this.symm
  have h0 : 0 < s.size := by omega
  have hc0 : ((s[0]'h0).toNat) = b.toNat := by rw [first_of hl h0]
  have hne : s.toList.isEmpty = false := by rw [ByteArray.toList_eq, hl]; rfl
  obtain ⟨n, hn⟩ : ∃ n, b.toNat = n := ⟨_, rfl⟩
  rw [hn] at h hc0 ⊢
  clear hl hn
  go_enter Tryz.func283, Tryz.ntmps283
  go_wp2_with fail
  go_ret2
  exact ⟨rfl, rfl⟩
set_option maxRecDepth 100000 in
set_option maxHeartbeats 1000000 in
theorem rfirst_bad (s : ByteArray) (b : UInt8) (t : List UInt8) (w : World) (hl : s.data.toList = b :: t) (h : 128 ≤ b.toNat) (h2 : b.toNat < 192 ∨ 248 ≤ b.toNat) :
    Calls Tryz.prog 283 #[.string s] w fun e w' => e = .returned (.tuple #[.int .i32 0, .int .i64 0]) ∧ w' = w := by
  have hsz : s.size = t.length + 1 := by have := list_size s; rw [hl] at this; exact this.symm
  have h0 : 0 < s.size := by omega
  have hc0 : ((s[0]'h0).toNat) = b.toNat := by rw [first_of hl h0]
  have hne : s.toList.isEmpty = false := by rw [ByteArray.toList_eq, hl]; rfl
  have hb := b.toNat_lt
  obtain ⟨n, hn⟩ : ∃ n, b.toNat = n := ⟨_, rfl⟩
  rw [hn] at h h2 hc0 hb
  clear hl hn
  rcases h2 with h2 | h2
  · go_enter Tryz.func283, Tryz.ntmps283
    go_wp2_with fail
    go_ret2
    exact ⟨rfl, rfl⟩
  · go_enter Tryz.func283, Tryz.ntmps283
    go_wp2_with fail
    go_ret2
    exact ⟨rfl, rfl⟩
set_option maxRecDepth 100000 in
set_option maxHeartbeats 2000000 in
theorem rfirst_2 (s : ByteArray) (b : UInt8) (t : List UInt8) (w : World) (hl : s.data.toList = b :: t) (h : 192 ≤ b.toNat) (h2 : b.toNat < 224) (hs : s.size ≤ 9223372036854775807) :
    Calls Tryz.prog 283 #[.string s] w fun e w' => e = .returned (firstV (if t.length < 1 then (0, 0) else firstK t 2 (b.toNat - 192) 128)) ∧ w' = w := by
  have hsz : s.size = t.length + 1 := by have := list_size s; rw [hl] at this; exact this.symm
  have h0 : 0 < s.size := by omega
  have hc0 : ((s[0]'h0).toNat) = b.toNat := by rw [first_of hl h0]
  have hne : s.toList.isEmpty = false := by rw [ByteArray.toList_eq, hl]; rfl
  have hb := b.toNat_lt
  have eU : IntKind.u8.wrap ((b.toNat : Int) - 192) = ((b.toNat - 192 : Nat) : Int) := by rw [IntKind.wrap_u8]; omega
  obtain ⟨v0, hv0⟩ : ∃ v0, b.toNat - 192 = v0 := ⟨_, rfl⟩
  have hv032 : v0 < 32 := by omega
  have eI : IntKind.i32.wrap (v0 : Int) = (v0 : Int) := by rw [IntKind.wrap_i32]; omega
  rw [hv0] at eU ⊢
  by_cases ht : t.length < 1
  · rw [if_pos ht]
    obtain ⟨n, hn⟩ : ∃ n, b.toNat = n := ⟨_, rfl⟩
    rw [hn] at h h2 hc0 hb eU
    clear hl hn hv0
    go_enter Tryz.func283, Tryz.ntmps283
    go_wp2_with fail
    go_ret2
    exact ⟨rfl, rfl⟩
  · rw [if_neg ht]
    have HL := Lib.hid hl
    obtain ⟨G, hG⟩ : ∃ G, firstV (firstK t 2 v0 128) = G := ⟨_, rfl⟩
    have HG := Lib.hid hG
    rw [hG]
    obtain ⟨n, hn⟩ : ∃ n, b.toNat = n := ⟨_, rfl⟩
    rw [hn] at h h2 hc0 hb eU
    have d128 : decide ((n : Int) < 128) = false := decide_eq_false (by omega)
    have d224 : decide ((n : Int) < 224) = true := decide_eq_true (by omega)
    have d240 : decide ((n : Int) < 240) = true := decide_eq_true (by omega)
    have d248 : decide ((n : Int) < 248) = true := decide_eq_true (by omega)
    have g192 : decide (192 ≤ (n : Int)) = true := decide_eq_true (by omega)
    have g224 : decide (224 ≤ (n : Int)) = false := decide_eq_false (by omega)
    have g240 : decide (240 ≤ (n : Int)) = false := decide_eq_false (by omega)
    clear hl hn hv0 hG h h2
    go_enter Tryz.func283, Tryz.ntmps283
    go_wp2_with fail
    go_loopw [5, 7] (fun r i wr => ∃ (j v : Nat), 1 ≤ j ∧ j ≤ 2 ∧ i = .int .i64 j ∧ r = .int .i32 v ∧ Hid (accL v0 (t.take 1) = accL v ((t.drop (j - 1)).take (2 - j))) ∧ v < 32 * 64 ^ (j - 1) ∧ wr = w) (fun _ i _ => 2 - (intOf i).toNat)
    case atStart => exact ⟨1, v0, by omega, by omega, rfl, rfl, Lib.hid rfl, by simpa using hv032, rfl⟩
    case round =>
      obtain ⟨j, v, hj1, hj2, rfl, rfl, HA, hv, rfl⟩ := hrel
      by_cases hlt : j < 2
      · have hjs : j < s.size := by omega
        have hlt' : (j : Int) < 2 := by omega
        obtain ⟨x, hx⟩ : ∃ x, t[j - 1]? = some x := ⟨_, List.getElem?_eq_getElem (by omega)⟩
        have hsx : (s[j]'hjs).toNat = x.toNat := byte_at s j hjs (by
          show s.data.toList[j]? = some x
          rw [HL.out, show j = (j - 1) + 1 by omega, List.getElem?_cons_succ]; exact hx)
        have hstep : accL v ((t.drop (j - 1)).take (2 - j)) = if x.toNat < 128 ∨ 191 < x.toNat then none else accL (64 * v + (x.toNat - 128)) ((t.drop (j + 1 - 1)).take (2 - (j + 1))) := by
          have hd : t.drop (j - 1) = x :: t.drop (j + 1 - 1) := by
            rw [List.drop_eq_getElem_cons (by omega)]
            congr 1
            · rw [List.getElem?_eq_getElem (by omega)] at hx; exact Option.some.inj hx
            · congr 1; omega
          rw [hd, show 2 - j = (2 - (j + 1)) + 1 by omega, List.take_succ_cons]
          rfl
        have HST := Lib.hid hstep
        have hxb := x.toNat_lt
        obtain ⟨xn, hxn⟩ : ∃ xn, x.toNat = xn := ⟨_, rfl⟩
        rw [hxn] at hsx HST hxb
        have hv3 : v < 131072 := by
          have : j = 1 ∨ j = 2 ∨ j = 3 := by omega
          rcases this with rfl | rfl | rfl <;> omega
        have e1 : IntKind.i32.wrap (64 * (v : Int)) = 64 * (v : Int) := by rw [IntKind.wrap_i32]; omega
        clear hstep hx hxn
        by_cases hx1 : xn < 128
        · have HE : Hid (G = .tuple #[.int .i32 0, .int .i64 0]) := Lib.hid (by
            rw [← HG.out]; unfold firstK
            rw [show 2 - 1 = 1 from rfl, HA.out, HST.out, if_pos (Or.inl hx1)]; rfl)
          clear hv
          go_wp2_with fail
          go_ret2
          exact ⟨by rw [HE.out]; rfl, rfl⟩
        · by_cases hx2 : 191 < xn
          · have HE : Hid (G = .tuple #[.int .i32 0, .int .i64 0]) := Lib.hid (by
              rw [← HG.out]; unfold firstK
              rw [show 2 - 1 = 1 from rfl, HA.out, HST.out, if_pos (Or.inr hx2)]; rfl)
            clear hv
            go_wp2_with fail
            go_ret2
            exact ⟨by rw [HE.out]; rfl, rfl⟩
          · have HA2 : Hid (accL v0 (t.take 1) = accL (64 * v + (xn - 128)) ((t.drop (j + 1 - 1)).take (2 - (j + 1)))) := Lib.hid (by rw [HA.out, HST.out, if_neg (by omega)])
            have hv2 : 64 * v + (xn - 128) < 32 * 64 ^ (j + 1 - 1) := by
              have : j = 1 ∨ j = 2 ∨ j = 3 := by omega
              rcases this with rfl | rfl | rfl <;> (simp only [Nat.reduceAdd, Nat.reduceSub, Nat.reducePow, Nat.reduceMul] at hv ⊢; omega)
            have HV2 := Lib.hid hv2
            have e2 : IntKind.u8.wrap ((xn : Int) - 128) = ((xn - 128 : Nat) : Int) := by rw [IntKind.wrap_u8]; omega
            obtain ⟨y, hy⟩ : ∃ y, xn - 128 = y := ⟨_, rfl⟩
            rw [hy] at e2 HA2 HV2
            have hy64 : y < 64 := by omega
            have e3 : IntKind.i32.wrap (y : Int) = (y : Int) := by rw [IntKind.wrap_i32]; omega
            have e4 : IntKind.i32.wrap (64 * (v : Int) + (y : Int)) = ((64 * v + y : Nat) : Int) := by rw [IntKind.wrap_i32]; omega
            clear hv hv2 hy
            go_wp2_with fail
            go_roundw
            case rel => exact ⟨j + 1, 64 * v + y, by omega, by omega, by go_num, rfl, HA2, HV2.out, by first | trivial | rfl⟩
            case measure => simp [intOf]; omega
      · obtain rfl : j = 2 := by omega
        have hG2 : G = firstV (if v < 128 ∨ ¬ validN v then (0, 0) else (v, 2)) := by
          rw [← HG.out]; unfold firstK
          rw [show 2 - 1 = 1 from rfl, HA.out, show 2 - 2 = 0 from rfl, List.take_zero]; rfl
        have HV := Lib.hid (fun w => rvalid_calls v w)
        have hvI : IntKind.i32.wrap (v : Int) = (v : Int) := by rw [IntKind.wrap_i32]; simp only [Nat.reduceSub, Nat.reducePow, Nat.reduceMul] at hv; omega
        by_cases hl1 : v < 128
        · rw [if_pos (Or.inl hl1)] at hG2
          have HE := Lib.hid hG2
          clear hv hG2
          go_wp2_with fail
          go_ret2
          exact ⟨by rw [HE.out]; rfl, rfl⟩
        · by_cases hvv : validN v
          · rw [if_neg (by rintro (e | e); exact hl1 e; exact e hvv)] at hG2
            rw [decide_eq_true hvv] at HV
            have fl : decide ((v : Int) < 128) = false := decide_eq_false (by omega)
            clear hl1
            have HE := Lib.hid hG2
            clear hv hG2 hvv
            go_wp2_with fail
            refine (HV.out _).mono ?_
            rintro e w2 ⟨rfl, rfl⟩
            go_wp2_with fail
            go_ret2
            exact ⟨by rw [HE.out]; rfl, rfl⟩
          · rw [if_pos (Or.inr hvv)] at hG2
            rw [decide_eq_false hvv] at HV
            have fl : decide ((v : Int) < 128) = false := decide_eq_false (by omega)
            clear hl1
            have HE := Lib.hid hG2
            clear hv hG2 hvv
            go_wp2_with fail
            refine (HV.out _).mono ?_
            rintro e w2 ⟨rfl, rfl⟩
            go_wp2_with fail
            go_ret2
            exact ⟨by rw [HE.out]; rfl, rfl⟩
set_option maxRecDepth 100000 in
set_option maxHeartbeats 2000000 in
theorem rfirst_3 (s : ByteArray) (b : UInt8) (t : List UInt8) (w : World) (hl : s.data.toList = b :: t) (h : 224 ≤ b.toNat) (h2 : b.toNat < 240) (hs : s.size ≤ 9223372036854775807) :
    Calls Tryz.prog 283 #[.string s] w fun e w' => e = .returned (firstV (if t.length < 2 then (0, 0) else firstK t 3 (b.toNat - 224) 2048)) ∧ w' = w := by
  have hsz : s.size = t.length + 1 := by have := list_size s; rw [hl] at this; exact this.symm
  have h0 : 0 < s.size := by omega
  have hc0 : ((s[0]'h0).toNat) = b.toNat := by rw [first_of hl h0]
  have hne : s.toList.isEmpty = false := by rw [ByteArray.toList_eq, hl]; rfl
  have hb := b.toNat_lt
  have eU : IntKind.u8.wrap ((b.toNat : Int) - 224) = ((b.toNat - 224 : Nat) : Int) := by rw [IntKind.wrap_u8]; omega
  obtain ⟨v0, hv0⟩ : ∃ v0, b.toNat - 224 = v0 := ⟨_, rfl⟩
  have hv032 : v0 < 32 := by omega
  have eI : IntKind.i32.wrap (v0 : Int) = (v0 : Int) := by rw [IntKind.wrap_i32]; omega
  rw [hv0] at eU ⊢
  by_cases ht : t.length < 2
  · rw [if_pos ht]
    obtain ⟨n, hn⟩ : ∃ n, b.toNat = n := ⟨_, rfl⟩
    rw [hn] at h h2 hc0 hb eU
    clear hl hn hv0
    go_enter Tryz.func283, Tryz.ntmps283
    go_wp2_with fail
    go_ret2
    exact ⟨rfl, rfl⟩
  · rw [if_neg ht]
    have HL := Lib.hid hl
    obtain ⟨G, hG⟩ : ∃ G, firstV (firstK t 3 v0 2048) = G := ⟨_, rfl⟩
    have HG := Lib.hid hG
    rw [hG]
    obtain ⟨n, hn⟩ : ∃ n, b.toNat = n := ⟨_, rfl⟩
    rw [hn] at h h2 hc0 hb eU
    have d128 : decide ((n : Int) < 128) = false := decide_eq_false (by omega)
    have d224 : decide ((n : Int) < 224) = false := decide_eq_false (by omega)
    have d240 : decide ((n : Int) < 240) = true := decide_eq_true (by omega)
    have d248 : decide ((n : Int) < 248) = true := decide_eq_true (by omega)
    have g192 : decide (192 ≤ (n : Int)) = true := decide_eq_true (by omega)
    have g224 : decide (224 ≤ (n : Int)) = true := decide_eq_true (by omega)
    have g240 : decide (240 ≤ (n : Int)) = false := decide_eq_false (by omega)
    clear hl hn hv0 hG h h2
    go_enter Tryz.func283, Tryz.ntmps283
    go_wp2_with fail
    go_loopw [5, 7] (fun r i wr => ∃ (j v : Nat), 1 ≤ j ∧ j ≤ 3 ∧ i = .int .i64 j ∧ r = .int .i32 v ∧ Hid (accL v0 (t.take 2) = accL v ((t.drop (j - 1)).take (3 - j))) ∧ v < 32 * 64 ^ (j - 1) ∧ wr = w) (fun _ i _ => 3 - (intOf i).toNat)
    case atStart => exact ⟨1, v0, by omega, by omega, rfl, rfl, Lib.hid rfl, by simpa using hv032, rfl⟩
    case round =>
      obtain ⟨j, v, hj1, hj2, rfl, rfl, HA, hv, rfl⟩ := hrel
      by_cases hlt : j < 3
      · have hjs : j < s.size := by omega
        have hlt' : (j : Int) < 3 := by omega
        obtain ⟨x, hx⟩ : ∃ x, t[j - 1]? = some x := ⟨_, List.getElem?_eq_getElem (by omega)⟩
        have hsx : (s[j]'hjs).toNat = x.toNat := byte_at s j hjs (by
          show s.data.toList[j]? = some x
          rw [HL.out, show j = (j - 1) + 1 by omega, List.getElem?_cons_succ]; exact hx)
        have hstep : accL v ((t.drop (j - 1)).take (3 - j)) = if x.toNat < 128 ∨ 191 < x.toNat then none else accL (64 * v + (x.toNat - 128)) ((t.drop (j + 1 - 1)).take (3 - (j + 1))) := by
          have hd : t.drop (j - 1) = x :: t.drop (j + 1 - 1) := by
            rw [List.drop_eq_getElem_cons (by omega)]
            congr 1
            · rw [List.getElem?_eq_getElem (by omega)] at hx; exact Option.some.inj hx
            · congr 1; omega
          rw [hd, show 3 - j = (3 - (j + 1)) + 1 by omega, List.take_succ_cons]
          rfl
        have HST := Lib.hid hstep
        have hxb := x.toNat_lt
        obtain ⟨xn, hxn⟩ : ∃ xn, x.toNat = xn := ⟨_, rfl⟩
        rw [hxn] at hsx HST hxb
        have hv3 : v < 131072 := by
          have : j = 1 ∨ j = 2 ∨ j = 3 := by omega
          rcases this with rfl | rfl | rfl <;> omega
        have e1 : IntKind.i32.wrap (64 * (v : Int)) = 64 * (v : Int) := by rw [IntKind.wrap_i32]; omega
        clear hstep hx hxn
        by_cases hx1 : xn < 128
        · have HE : Hid (G = .tuple #[.int .i32 0, .int .i64 0]) := Lib.hid (by
            rw [← HG.out]; unfold firstK
            rw [show 3 - 1 = 2 from rfl, HA.out, HST.out, if_pos (Or.inl hx1)]; rfl)
          clear hv
          go_wp2_with fail
          go_ret2
          exact ⟨by rw [HE.out]; rfl, rfl⟩
        · by_cases hx2 : 191 < xn
          · have HE : Hid (G = .tuple #[.int .i32 0, .int .i64 0]) := Lib.hid (by
              rw [← HG.out]; unfold firstK
              rw [show 3 - 1 = 2 from rfl, HA.out, HST.out, if_pos (Or.inr hx2)]; rfl)
            clear hv
            go_wp2_with fail
            go_ret2
            exact ⟨by rw [HE.out]; rfl, rfl⟩
          · have HA2 : Hid (accL v0 (t.take 2) = accL (64 * v + (xn - 128)) ((t.drop (j + 1 - 1)).take (3 - (j + 1)))) := Lib.hid (by rw [HA.out, HST.out, if_neg (by omega)])
            have hv2 : 64 * v + (xn - 128) < 32 * 64 ^ (j + 1 - 1) := by
              have : j = 1 ∨ j = 2 ∨ j = 3 := by omega
              rcases this with rfl | rfl | rfl <;> (simp only [Nat.reduceAdd, Nat.reduceSub, Nat.reducePow, Nat.reduceMul] at hv ⊢; omega)
            have HV2 := Lib.hid hv2
            have e2 : IntKind.u8.wrap ((xn : Int) - 128) = ((xn - 128 : Nat) : Int) := by rw [IntKind.wrap_u8]; omega
            obtain ⟨y, hy⟩ : ∃ y, xn - 128 = y := ⟨_, rfl⟩
            rw [hy] at e2 HA2 HV2
            have hy64 : y < 64 := by omega
            have e3 : IntKind.i32.wrap (y : Int) = (y : Int) := by rw [IntKind.wrap_i32]; omega
            have e4 : IntKind.i32.wrap (64 * (v : Int) + (y : Int)) = ((64 * v + y : Nat) : Int) := by rw [IntKind.wrap_i32]; omega
            clear hv hv2 hy
            go_wp2_with fail
            go_roundw
            case rel => exact ⟨j + 1, 64 * v + y, by omega, by omega, by go_num, rfl, HA2, HV2.out, by first | trivial | rfl⟩
            case measure => simp [intOf]; omega
      · obtain rfl : j = 3 := by omega
        have hG2 : G = firstV (if v < 2048 ∨ ¬ validN v then (0, 0) else (v, 3)) := by
          rw [← HG.out]; unfold firstK
          rw [show 3 - 1 = 2 from rfl, HA.out, show 3 - 3 = 0 from rfl, List.take_zero]; rfl
        have HV := Lib.hid (fun w => rvalid_calls v w)
        have hvI : IntKind.i32.wrap (v : Int) = (v : Int) := by rw [IntKind.wrap_i32]; simp only [Nat.reduceSub, Nat.reducePow, Nat.reduceMul] at hv; omega
        by_cases hl1 : v < 2048
        · rw [if_pos (Or.inl hl1)] at hG2
          have HE := Lib.hid hG2
          clear hv hG2
          go_wp2_with fail
          go_ret2
          exact ⟨by rw [HE.out]; rfl, rfl⟩
        · by_cases hvv : validN v
          · rw [if_neg (by rintro (e | e); exact hl1 e; exact e hvv)] at hG2
            rw [decide_eq_true hvv] at HV
            have fl : decide ((v : Int) < 2048) = false := decide_eq_false (by omega)
            clear hl1
            have HE := Lib.hid hG2
            clear hv hG2 hvv
            go_wp2_with fail
            refine (HV.out _).mono ?_
            rintro e w2 ⟨rfl, rfl⟩
            go_wp2_with fail
            go_ret2
            exact ⟨by rw [HE.out]; rfl, rfl⟩
          · rw [if_pos (Or.inr hvv)] at hG2
            rw [decide_eq_false hvv] at HV
            have fl : decide ((v : Int) < 2048) = false := decide_eq_false (by omega)
            clear hl1
            have HE := Lib.hid hG2
            clear hv hG2 hvv
            go_wp2_with fail
            refine (HV.out _).mono ?_
            rintro e w2 ⟨rfl, rfl⟩
            go_wp2_with fail
            go_ret2
            exact ⟨by rw [HE.out]; rfl, rfl⟩
set_option maxRecDepth 100000 in
set_option maxHeartbeats 2000000 in
theorem rfirst_4 (s : ByteArray) (b : UInt8) (t : List UInt8) (w : World) (hl : s.data.toList = b :: t) (h : 240 ≤ b.toNat) (h2 : b.toNat < 248) (hs : s.size ≤ 9223372036854775807) :
    Calls Tryz.prog 283 #[.string s] w fun e w' => e = .returned (firstV (if t.length < 3 then (0, 0) else firstK t 4 (b.toNat - 240) 65536)) ∧ w' = w := by
  have hsz : s.size = t.length + 1 := by have := list_size s; rw [hl] at this; exact this.symm
  have h0 : 0 < s.size := by omega
  have hc0 : ((s[0]'h0).toNat) = b.toNat := by rw [first_of hl h0]
  have hne : s.toList.isEmpty = false := by rw [ByteArray.toList_eq, hl]; rfl
  have hb := b.toNat_lt
  have eU : IntKind.u8.wrap ((b.toNat : Int) - 240) = ((b.toNat - 240 : Nat) : Int) := by rw [IntKind.wrap_u8]; omega
  obtain ⟨v0, hv0⟩ : ∃ v0, b.toNat - 240 = v0 := ⟨_, rfl⟩
  have hv032 : v0 < 32 := by omega
  have eI : IntKind.i32.wrap (v0 : Int) = (v0 : Int) := by rw [IntKind.wrap_i32]; omega
  rw [hv0] at eU ⊢
  by_cases ht : t.length < 3
  · rw [if_pos ht]
    obtain ⟨n, hn⟩ : ∃ n, b.toNat = n := ⟨_, rfl⟩
    rw [hn] at h h2 hc0 hb eU
    clear hl hn hv0
    go_enter Tryz.func283, Tryz.ntmps283
    go_wp2_with fail
    go_ret2
    exact ⟨rfl, rfl⟩
  · rw [if_neg ht]
    have HL := Lib.hid hl
    obtain ⟨G, hG⟩ : ∃ G, firstV (firstK t 4 v0 65536) = G := ⟨_, rfl⟩
    have HG := Lib.hid hG
    rw [hG]
    obtain ⟨n, hn⟩ : ∃ n, b.toNat = n := ⟨_, rfl⟩
    rw [hn] at h h2 hc0 hb eU
    have d128 : decide ((n : Int) < 128) = false := decide_eq_false (by omega)
    have d224 : decide ((n : Int) < 224) = false := decide_eq_false (by omega)
    have d240 : decide ((n : Int) < 240) = false := decide_eq_false (by omega)
    have d248 : decide ((n : Int) < 248) = true := decide_eq_true (by omega)
    have g192 : decide (192 ≤ (n : Int)) = true := decide_eq_true (by omega)
    have g224 : decide (224 ≤ (n : Int)) = true := decide_eq_true (by omega)
    have g240 : decide (240 ≤ (n : Int)) = true := decide_eq_true (by omega)
    clear hl hn hv0 hG h h2
    go_enter Tryz.func283, Tryz.ntmps283
    go_wp2_with fail
    go_loopw [5, 7] (fun r i wr => ∃ (j v : Nat), 1 ≤ j ∧ j ≤ 4 ∧ i = .int .i64 j ∧ r = .int .i32 v ∧ Hid (accL v0 (t.take 3) = accL v ((t.drop (j - 1)).take (4 - j))) ∧ v < 32 * 64 ^ (j - 1) ∧ wr = w) (fun _ i _ => 4 - (intOf i).toNat)
    case atStart => exact ⟨1, v0, by omega, by omega, rfl, rfl, Lib.hid rfl, by simpa using hv032, rfl⟩
    case round =>
      obtain ⟨j, v, hj1, hj2, rfl, rfl, HA, hv, rfl⟩ := hrel
      by_cases hlt : j < 4
      · have hjs : j < s.size := by omega
        have hlt' : (j : Int) < 4 := by omega
        obtain ⟨x, hx⟩ : ∃ x, t[j - 1]? = some x := ⟨_, List.getElem?_eq_getElem (by omega)⟩
        have hsx : (s[j]'hjs).toNat = x.toNat := byte_at s j hjs (by
          show s.data.toList[j]? = some x
          rw [HL.out, show j = (j - 1) + 1 by omega, List.getElem?_cons_succ]; exact hx)
        have hstep : accL v ((t.drop (j - 1)).take (4 - j)) = if x.toNat < 128 ∨ 191 < x.toNat then none else accL (64 * v + (x.toNat - 128)) ((t.drop (j + 1 - 1)).take (4 - (j + 1))) := by
          have hd : t.drop (j - 1) = x :: t.drop (j + 1 - 1) := by
            rw [List.drop_eq_getElem_cons (by omega)]
            congr 1
            · rw [List.getElem?_eq_getElem (by omega)] at hx; exact Option.some.inj hx
            · congr 1; omega
          rw [hd, show 4 - j = (4 - (j + 1)) + 1 by omega, List.take_succ_cons]
          rfl
        have HST := Lib.hid hstep
        have hxb := x.toNat_lt
        obtain ⟨xn, hxn⟩ : ∃ xn, x.toNat = xn := ⟨_, rfl⟩
        rw [hxn] at hsx HST hxb
        have hv3 : v < 131072 := by
          have : j = 1 ∨ j = 2 ∨ j = 3 := by omega
          rcases this with rfl | rfl | rfl <;> omega
        have e1 : IntKind.i32.wrap (64 * (v : Int)) = 64 * (v : Int) := by rw [IntKind.wrap_i32]; omega
        clear hstep hx hxn
        by_cases hx1 : xn < 128
        · have HE : Hid (G = .tuple #[.int .i32 0, .int .i64 0]) := Lib.hid (by
            rw [← HG.out]; unfold firstK
            rw [show 4 - 1 = 3 from rfl, HA.out, HST.out, if_pos (Or.inl hx1)]; rfl)
          clear hv
          go_wp2_with fail
          go_ret2
          exact ⟨by rw [HE.out]; rfl, rfl⟩
        · by_cases hx2 : 191 < xn
          · have HE : Hid (G = .tuple #[.int .i32 0, .int .i64 0]) := Lib.hid (by
              rw [← HG.out]; unfold firstK
              rw [show 4 - 1 = 3 from rfl, HA.out, HST.out, if_pos (Or.inr hx2)]; rfl)
            clear hv
            go_wp2_with fail
            go_ret2
            exact ⟨by rw [HE.out]; rfl, rfl⟩
          · have HA2 : Hid (accL v0 (t.take 3) = accL (64 * v + (xn - 128)) ((t.drop (j + 1 - 1)).take (4 - (j + 1)))) := Lib.hid (by rw [HA.out, HST.out, if_neg (by omega)])
            have hv2 : 64 * v + (xn - 128) < 32 * 64 ^ (j + 1 - 1) := by
              have : j = 1 ∨ j = 2 ∨ j = 3 := by omega
              rcases this with rfl | rfl | rfl <;> (simp only [Nat.reduceAdd, Nat.reduceSub, Nat.reducePow, Nat.reduceMul] at hv ⊢; omega)
            have HV2 := Lib.hid hv2
            have e2 : IntKind.u8.wrap ((xn : Int) - 128) = ((xn - 128 : Nat) : Int) := by rw [IntKind.wrap_u8]; omega
            obtain ⟨y, hy⟩ : ∃ y, xn - 128 = y := ⟨_, rfl⟩
            rw [hy] at e2 HA2 HV2
            have hy64 : y < 64 := by omega
            have e3 : IntKind.i32.wrap (y : Int) = (y : Int) := by rw [IntKind.wrap_i32]; omega
            have e4 : IntKind.i32.wrap (64 * (v : Int) + (y : Int)) = ((64 * v + y : Nat) : Int) := by rw [IntKind.wrap_i32]; omega
            clear hv hv2 hy
            go_wp2_with fail
            go_roundw
            case rel => exact ⟨j + 1, 64 * v + y, by omega, by omega, by go_num, rfl, HA2, HV2.out, by first | trivial | rfl⟩
            case measure => simp [intOf]; omega
      · obtain rfl : j = 4 := by omega
        have hG2 : G = firstV (if v < 65536 ∨ ¬ validN v then (0, 0) else (v, 4)) := by
          rw [← HG.out]; unfold firstK
          rw [show 4 - 1 = 3 from rfl, HA.out, show 4 - 4 = 0 from rfl, List.take_zero]; rfl
        have HV := Lib.hid (fun w => rvalid_calls v w)
        have hvI : IntKind.i32.wrap (v : Int) = (v : Int) := by rw [IntKind.wrap_i32]; simp only [Nat.reduceSub, Nat.reducePow, Nat.reduceMul] at hv; omega
        by_cases hl1 : v < 65536
        · rw [if_pos (Or.inl hl1)] at hG2
          have HE := Lib.hid hG2
          clear hv hG2
          go_wp2_with fail
          go_ret2
          exact ⟨by rw [HE.out]; rfl, rfl⟩
        · by_cases hvv : validN v
          · rw [if_neg (by rintro (e | e); exact hl1 e; exact e hvv)] at hG2
            rw [decide_eq_true hvv] at HV
            have fl : decide ((v : Int) < 65536) = false := decide_eq_false (by omega)
            clear hl1
            have HE := Lib.hid hG2
            clear hv hG2 hvv
            go_wp2_with fail
            refine (HV.out _).mono ?_
            rintro e w2 ⟨rfl, rfl⟩
            go_wp2_with fail
            go_ret2
            exact ⟨by rw [HE.out]; rfl, rfl⟩
          · rw [if_pos (Or.inr hvv)] at hG2
            rw [decide_eq_false hvv] at HV
            have fl : decide ((v : Int) < 65536) = false := decide_eq_false (by omega)
            clear hl1
            have HE := Lib.hid hG2
            clear hv hG2 hvv
            go_wp2_with fail
            refine (HV.out _).mono ?_
            rintro e w2 ⟨rfl, rfl⟩
            go_wp2_with fail
            go_ret2
            exact ⟨by rw [HE.out]; rfl, rfl⟩
theorem rfirst_calls (s : ByteArray) (w : World) (hs : s.size ≤ 9223372036854775807) :
    Calls Tryz.prog 283 #[.string s] w fun e w' => e = .returned (firstV (firstD (toL s))) ∧ w' = w := by
  cases hl' : toL s with
  | nil =>
    have h1 : s.toList = [] := by rw [ByteArray.toList_eq]; exact hl'
    rw [show firstV (firstD []) = .tuple #[.int .i32 0, .int .i64 0] from rfl]
    clear hl'
    go_enter Tryz.func283, Tryz.ntmps283
    go_wp2_with fail
    go_ret2
    exact ⟨rfl, rfl⟩
  | cons b t =>
    have hl : s.data.toList = b :: t := hl'
    have hb := b.toNat_lt
    by_cases h1 : b.toNat < 128
    · rw [firstD_ascii b t h1]; exact rfirst_low s b t w hl h1
    by_cases h2 : b.toNat < 192 ∨ 248 ≤ b.toNat
    · rw [firstD_none b t (by omega) h2]; exact rfirst_bad s b t w hl (by omega) h2
    by_cases h3 : b.toNat < 224
    · rw [firstD_two b t (by omega) h3]; exact rfirst_2 s b t w hl (by omega) h3 hs
    by_cases h4 : b.toNat < 240
    · rw [firstD_three b t (by omega) h4]; exact rfirst_3 s b t w hl (by omega) h4 hs
    rw [firstD_four b t (by omega) (by omega)]; exact rfirst_4 s b t w hl (by omega) (by omega) hs
end Go.Proofs.YtckblcfkajpofaaGreatDoor
namespace Go.Proofs.YtckblcfkajpofaaGreatDoor
open Go.RowKit
set_option linter.unusedVariables false
set_option linter.unusedSimpArgs false

def i32V (l : List Nat) : List Value := l.map fun (r : Nat) => Value.int .i32 (r : Int)
theorem infoI32 : (Tryz.prog.info? 21).map (fun i => (i.zero, i.size, i.bytes)) = some (some (.int .i32 0), 1, 4) := by kernel_rfl
theorem append_i32 {w : World} {base : Nat} {v : Value} {l : List Nat} (ho : w.ownsRow base 21 1 v l.length (i32V l)) (k : Nat) (hl : l.length ≤ 1000000000) (hb : base ≤ w.heap.size) :
    ∃ v' w', (Builtin.append_ #[241, 241] 241 #[v, .slice (some ⟨w.heap.size, 0, none⟩) 1 1]).run Tryz.prog (w.alloc (.cells #[.int .i32 (k : Int)] 21)) = .ok v' w' ∧
      w'.ownsRow base 21 1 v' (l ++ [k]).length (i32V (l ++ [k])) ∧ Keep (fun i => v.ownBlock = some i) w w' := by
  obtain ⟨i0, hi, hz0, hz1, hz2⟩ := info_parts infoI32
  obtain ⟨v', w', hr, h2, h3, h4, h5⟩ := run_append_own_at (P := Tryz.prog) (w.alloc (.cells #[.int .i32 (k : Int)] 21)) base 241 241 21 i0 (.int .i32 0) 1 4 Tryz.underlying241 hi hz0 hz1 hz2 rfl (by decide) v l.length (i32V l) (ho.alloc _)
    ⟨w.heap.size, 0, none⟩ 1 1 [.int .i32 (k : Int)] rfl (cell_one_new w _ _) (by simp [Value.oneCell']) (by unfold maxLen; omega) (by omega) (by rw [size_alloc]; omega)
  exact ⟨v', w', hr, by simpa [i32V] using h2, (Keep.alloc _ w _).same (Keep.of_grown h3 fun i e => e)⟩
def strSz : Value → Nat | .string s => s.size | _ => 0
theorem drop_of (s : ByteArray) (n : Nat) : s.extract n s.size = mkB ((toL s).drop n) := by
  rw [← list_mkB (s.extract n s.size), Lib.extract_data]
  congr 1
  exact List.take_of_length_le (by have h2 : (toL s).length = s.size := list_size s; rw [List.length_drop]; exact Nat.le_of_eq (by show (toL s).length - n = _; rw [h2]))
def RunesOut (w : World) (s : List UInt8) (e : Ending) (w' : World) : Prop := Below w.heap.size w w' ∧ match runesD s with
  | none => e = .returned (.tuple #[.slice none 0 0, .int .i64 2])
  | some rs => ∃ v, e = .returned (.tuple #[v, .int .i64 0]) ∧ w'.ownsRow w.heap.size 21 1 v rs.length (i32V rs)
set_option maxRecDepth 100000 in
set_option maxHeartbeats 2000000 in
theorem runes_calls (s : ByteArray) (w : World) (hs : s.size ≤ 1000000000) :
    Calls Tryz.prog 220 #[.string s] w (RunesOut w (toL s)) := by
  have HX : Hid (∀ e w', (Below w.heap.size w w' ∧ match runesD (toL s) with
      | none => e = .returned (.tuple #[.slice none 0 0, .int .i64 2])
      | some rs => ∃ v, e = .returned (.tuple #[v, .int .i64 0]) ∧ w'.ownsRow w.heap.size 21 1 v rs.length (i32V rs)) → RunesOut w (toL s) e w') := Lib.hid (fun e w' h => h)
  obtain ⟨B, hB⟩ : ∃ B, w.heap.size = B := ⟨_, rfl⟩
  rw [hB] at HX
  have HB := Lib.hid hB
  clear hB
  go_enter Tryz.func220, Tryz.ntmps220
  go_wp2_with fail
  go_loopw [0, 4] (fun sv lv wr => ∃ (X : ByteArray) (done : List Nat), sv = .string X ∧ Hid (runesD (toL s) = (runesD (toL X)).map (done ++ ·)) ∧ X.size + done.length ≤ s.size ∧ Hid (wr.ownsRow B 21 1 lv done.length (i32V done) ∧ Below B w wr)) (fun sv _ _ => strSz sv)
  case atStart => exact ⟨s, [], rfl, Lib.hid (by cases runesD (toL s) <;> simp), by simp, Lib.hid ⟨own_nil _ _ _ _, by rw [← HB.out]; exact Below.refl _ _⟩⟩
  case round =>
    obtain ⟨X, done, rfl, HR, hle, HO⟩ := hrel
    obtain ⟨A3, c3, rfl, _, _⟩ := own_slice HO.out.1
    by_cases he : toL X = []
    · have h1 : X.toList.isEmpty = true := by rw [ByteArray.toList_eq]; rw [show X.data.toList = [] from he]; rfl
      have hr := HR.out
      rw [he, runesD_nil] at hr
      have HE := Lib.hid hr
      clear hr he
      go_wp2_with fail
      go_ret2
      refine HX.out _ _ ⟨HO.out.2, ?_⟩
      rw [HE.out]
      simp only [Option.map_some, List.append_nil]
      exact ⟨_, rfl, HO.out.1⟩
    · have h1 : X.toList.isEmpty = false := by
        rw [ByteArray.toList_eq]
        cases hl : X.data.toList with
        | nil => exact absurd hl he
        | cons x l => rfl
      have hXl : (toL X).length = X.size := list_size X
      have HF := Lib.hid (rfirst_calls X wr (by omega))
      have hst := runesD_step (toL X) he
      obtain ⟨fl, _⟩ := firstD_le (toL X)
      obtain ⟨f1, f2, hf⟩ : ∃ f1 f2, firstD (toL X) = (f1, f2) := ⟨_, _, rfl⟩
      rw [hf] at HF hst fl
      simp only [firstV] at HF
      simp only at hst fl
      by_cases hz : f2 = 0
      · subst hz
        rw [if_pos rfl] at hst
        have hr := HR.out
        rw [hst] at hr
        have HE := Lib.hid hr
        clear hr hst he hf hXl
        go_wp2_with fail
        refine HF.out.mono ?_
        rintro e w2 ⟨rfl, rfl⟩
        go_wp2_with fail
        go_ret2
        refine HX.out _ _ ⟨HO.out.2, ?_⟩
        rw [HE.out]
        rfl
      · rw [if_neg hz] at hst
        have hX' := drop_of X f2
        have hYs : (mkB ((toL X).drop f2)).size = X.size - f2 := by rw [mkB_size, List.length_drop, hXl]
        have hYl : toL (mkB ((toL X).drop f2)) = (toL X).drop f2 := mkB_list _
        have HR2 : Hid (runesD (toL s) = (runesD (toL (mkB ((toL X).drop f2)))).map ((done ++ [f1]) ++ ·)) := Lib.hid (by
          rw [HR.out, hst, hYl]
          cases runesD ((toL X).drop f2) <;> simp)
        obtain ⟨Y, hY⟩ : ∃ Y, mkB ((toL X).drop f2) = Y := ⟨_, rfl⟩
        rw [hY] at hX' hYs HR2
        have fz : ((f2 : Int) == 0) = false := by simp; exact hz
        obtain ⟨v', w', hrun, ho, hk⟩ := append_i32 HO.out.1 f1 (by omega) (by have := HO.out.2.size; rw [HB.out] at this; exact this)
        have HN : Hid (w'.ownsRow B 21 1 v' (done ++ [f1]).length (i32V (done ++ [f1])) ∧ Below B w w') := Lib.hid ⟨ho, by
          have hb0 : Below w.heap.size w wr := by rw [HB.out]; exact HO.out.2
          have h9 := ((Keep.of_below hb0 : Keep (fun q => w.heap.size ≤ q) w wr).same (hk.mono fun q e1 => by rw [HB.out]; exact own_new HO.out.1 q e1)).new
          rw [HB.out] at h9; exact h9⟩
        obtain ⟨A4, c4, rfl, _, _⟩ := own_slice ho
        obtain ⟨n1, hn1⟩ : ∃ n1, done.length = n1 := ⟨_, rfl⟩
        have hn2 : (done ++ [f1]).length = n1 + 1 := by simp [hn1]
        rw [hn2] at hrun HN
        rw [hn1] at hrun hle
        have HN1 := Lib.hid hn1
        have HN2 := Lib.hid hn2
        rw [hn1]
        have hYlt : Y.size < X.size := by omega
        have HYs := Lib.hid hYs
        clear hn1 hn2 ho hk hst he hf hXl hYl hY hYs
        go_wp2_with fail
        refine HF.out.mono ?_
        rintro e w2 ⟨rfl, rfl⟩
        go_wp2_with (at_builtin; refine wp_append_run rfl _ _ _ rfl rfl rfl hrun ?_)
        go_roundw
        case rel => exact ⟨Y, done ++ [f1], rfl, HR2, by rw [HN2.out]; have := HYs.out; omega, by rw [HN2.out]; exact HN⟩
        case measure => exact hYlt
set_option maxRecDepth 100000 in
set_option maxHeartbeats 2000000 in
theorem nright1_calls (s : ByteArray) (w : World) (hs : s.size ≤ 1000000000) :
    Calls Tryz.prog 121 #[.string s] w fun e w' => e = .returned (.bool (nameR s)) ∧ Below w.heap.size w w' := by
  have hC := runes_calls s w hs
  have hV := nameR_runes s
  unfold RunesOut at hC
  rw [show s.data.toList = toL s from rfl] at hV
  cases hr : runesD (toL s) with
  | none =>
    rw [hr] at hC hV
    simp only at hV
    rw [hV]
    have HC := Lib.hid hC
    clear hC hV hr
    go_enter Tryz.func121, Tryz.ntmps121
    go_wp2_with fail
    refine HC.out.mono ?_
    rintro e w1 ⟨hb, rfl⟩
    have HB := Lib.hid hb
    clear hb
    go_wp2_with fail
    go_ret
    exact ⟨rfl, HB.out⟩
  | some rs =>
    rw [hr] at hC hV
    simp only at hV
    dsimp only at hC
    obtain ⟨rl, rr⟩ := runesD_le _ _ (Nat.le_refl _) rs hr
    have hsl : (toL s).length = s.size := list_size s
    obtain ⟨n, hn⟩ : ∃ n, rs.length = n := ⟨_, rfl⟩
    have HC := Lib.hid hC
    have HRR := Lib.hid rr
    by_cases hbad : n < 1 ∨ 32 < n
    · have hG : nameR s = false := by
        rw [hV, hn]
        rcases hbad with h | h
        · rw [decide_eq_false (show ¬ 1 ≤ n by omega)]; rfl
        · rw [decide_eq_false (show ¬ n ≤ 32 by omega)]; simp
      rw [hG]
      rw [hn] at HC
      have hn1 : n ≤ 1000000000 := by omega
      clear hC hV hr rr hG
      go_enter Tryz.func121, Tryz.ntmps121
      go_wp2_with fail
      refine HC.out.mono ?_
      rintro e w1 ⟨hb, v, rfl, ho⟩
      obtain ⟨A, c, rfl, _, _⟩ := own_slice ho
      have HB := Lib.hid hb
      clear hb ho
      rcases hbad with h | h
      · go_wp2_with fail
        go_ret
        exact ⟨rfl, HB.out⟩
      · go_wp2_with fail
        go_ret
        exact ⟨rfl, HB.out⟩
    · have hn0 : 1 ≤ n := by omega
      have hn32 : n ≤ 32 := by omega
      have hG : nameR s = rs.all isLetter := by
        rw [hV, hn, decide_eq_true hn0, decide_eq_true hn32]; rfl
      rw [hG]
      have HALL := Lib.hid hG
      rw [hn] at HC
      have HNL := Lib.hid hn
      clear hC hV hr rr hG hbad hn
      obtain ⟨G, hGG⟩ : ∃ G, rs.all isLetter = G := ⟨_, rfl⟩
      have HG := Lib.hid hGG
      rw [hGG]
      clear hGG
      go_enter Tryz.func121, Tryz.ntmps121
      go_wp2_with fail
      refine HC.out.mono ?_
      rintro e w1 ⟨hb, v, rfl, ho⟩
      have HB := Lib.hid hb
      obtain ⟨g, c, rfl, _, hcells⟩ := own_block ho (by omega)
      have HCL := Lib.hid hcells
      clear hb ho hcells
      go_wp2_with fail
      go_loopw [5] (fun i wr => ∃ k : Nat, k ≤ n ∧ i = .int .i64 k ∧ Hid (∀ j r, j < k → rs[j]? = some r → isLetter r = true) ∧ wr = w1) (fun i _ => n - (intOf i).toNat)
      case atStart => exact ⟨0, Nat.zero_le _, rfl, Lib.hid (fun j r h => by omega), rfl⟩
      case round =>
        obtain ⟨k, hk, rfl, HK, rfl⟩ := hrel
        by_cases hlt : k < n
        · obtain ⟨r, hr⟩ : ∃ r, rs[k]? = some r := ⟨_, List.getElem?_eq_getElem (by rw [HNL.out]; exact hlt)⟩
          have hcell := (HCL.out k (.int .i32 r) (by simp [i32V, hr])).1
          have HLt := Lib.hid (fun w => rletter_calls r (HRR.out r (List.mem_of_getElem? hr)) w)
          have HR := Lib.hid hr
          clear hr
          obtain ⟨b, hb⟩ : ∃ b, isLetter r = b := ⟨_, rfl⟩
          have HBb := Lib.hid hb
          rw [hb] at HLt
          clear hb
          cases b with
          | true =>
            go_wp2_with fail
            refine (HLt.out _).mono ?_
            rintro e w2 ⟨rfl, rfl⟩
            go_wp2_with fail
            go_roundw
            case rel =>
              refine ⟨k + 1, by omega, by go_num, Lib.hid (fun j q hj hq => ?_), by first | rfl | trivial⟩
              by_cases hjk : j < k
              · exact HK.out j q hjk hq
              · obtain rfl : j = k := by omega
                rw [HR.out] at hq; cases hq; exact HBb.out
            case measure => simp [intOf]; omega
          | false =>
            have HE : Hid (G = false) := Lib.hid (by
              rw [← HG.out, List.all_eq_false]
              exact ⟨r, List.mem_of_getElem? HR.out, by rw [HBb.out]; simp⟩)
            go_wp2_with fail
            refine (HLt.out _).mono ?_
            rintro e w2 ⟨rfl, rfl⟩
            go_wp2_with fail
            go_ret
            exact ⟨by rw [HE.out]; rfl, HB.out⟩
        · obtain rfl : k = n := by omega
          have HE : Hid (G = true) := Lib.hid (by
            rw [← HG.out, List.all_eq_true]
            intro r hr
            obtain ⟨j, hj⟩ := List.getElem?_of_mem hr
            have hjl := (List.getElem?_eq_some_iff.1 hj).1
            exact HK.out j r (by rw [← HNL.out]; exact hjl) hj)
          go_wp2_with fail
          go_ret
          exact ⟨by rw [HE.out]; rfl, HB.out⟩
end Go.Proofs.YtckblcfkajpofaaGreatDoor
