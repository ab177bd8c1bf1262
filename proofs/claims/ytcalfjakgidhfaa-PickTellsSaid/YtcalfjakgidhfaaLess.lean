/- The document's order of strings: letterlockref1.Less. -/
import Derived.Test.YtcalfjakgidhfaaOrd
import Derived.Test.YtcalfjakgidhfaaProg
import Derived.WalkKit
import Derived.OwnWalk
import Derived.Deep.QuietTactic
import Derived.BigQuiet
import Derived.KernelRfl
import Derived.Outline
import Derived.Deep.LoopGhost
namespace Go.Proofs.Ytcalfjakgidhfaa
open Go.RowKit
set_option linter.unusedVariables false
set_option linter.unusedSimpArgs false

theorem lt_at : ∀ {k : Nat} {l m : List UInt8} (hl : k < l.length) (hm : k < m.length), l.take k = m.take k → l[k] ≠ m[k] → decide (l < m) = decide (l[k] < m[k])
  | 0, x :: l, y :: m, _, _, _, hne => by
    simp only [List.getElem_cons_zero] at hne ⊢
    rw [decide_eq_decide, List.cons_lt_cons_iff]
    exact ⟨fun h => h.elim id fun h => absurd h.1 hne, Or.inl⟩
  | k + 1, x :: l, y :: m, hl, hm, ht, hne => by
    simp only [List.take_succ_cons, List.cons.injEq] at ht
    simp only [List.getElem_cons_succ] at hne ⊢
    rw [← lt_at (by simpa using hl) (by simpa using hm) ht.2 hne, decide_eq_decide, List.cons_lt_cons_iff]
    exact ⟨fun h => h.elim (fun h => absurd (ht.1 ▸ h) (by simp)) fun h => h.2, fun h => Or.inr ⟨ht.1, h⟩⟩
theorem lt_end : ∀ {k : Nat} {l m : List UInt8}, k ≤ l.length → k ≤ m.length → (k = l.length ∨ k = m.length) → l.take k = m.take k → decide (l < m) = decide (l.length < m.length)
  | 0, [], m, _, _, _, _ => by cases m <;> simp
  | 0, x :: l, [], _, _, _, _ => by simp
  | 0, x :: l, y :: m, _, _, h, _ => by simp at h
  | k + 1, [], m, h, _, _, _ => by simp at h
  | k + 1, x :: l, [], _, h, _, _ => by simp at h
  | k + 1, x :: l, y :: m, h1, h2, h, ht => by
    simp only [List.take_succ_cons, List.cons.injEq] at ht
    have := lt_end (k := k) (l := l) (m := m) (by simpa using h1) (by simpa using h2) (by simpa using h) ht.2
    rw [decide_eq_decide] at this ⊢
    rw [List.cons_lt_cons_iff]
    simp only [List.length_cons, Nat.add_lt_add_iff_right]
    rw [← this]
    exact ⟨fun h => h.elim (fun h => absurd (ht.1 ▸ h) (by simp)) fun h => h.2, fun h => Or.inr ⟨ht.1, h⟩⟩
theorem data_list (s : ByteArray) : s.toList = s.data.toList := ByteArray.toList_eq s
theorem data_get (s : ByteArray) (k : Nat) (h : k < s.size) : s.data.toList[k]? = some s[k] := by
  rw [List.getElem?_eq_getElem (by simpa using h)]; rfl
theorem data_take (s : ByteArray) (k : Nat) (h : k < s.size) : s.data.toList.take (k + 1) = s.data.toList.take k ++ [s[k]] := by
  rw [List.take_succ_eq_append_getElem (by simpa using h)]; rfl
theorem data_len (s : ByteArray) : s.data.toList.length = s.size := by simp

set_option maxHeartbeats 800000 in
theorem rless_calls (a b : ByteArray) (w : World) (ha : a.size ≤ 9223372036854775807) (hb : b.size ≤ 9223372036854775807) : Calls Try.prog 65 #[.string a, .string b] w fun e w' => e = .returned (.bool (bLt a b)) ∧ Drawn w w' := by
  go_enter Try.func65, Try.ntmps65
  go_wp2
  go_loopw [5] (fun i wr => ∃ k : Nat, k ≤ a.size ∧ k ≤ b.size ∧ i = .int .i64 k ∧ Hid (a.data.toList.take k = b.data.toList.take k) ∧ Drawn w wr) (fun i _ => a.size - (intOf i).toNat)
  case atStart => exact ⟨0, Nat.zero_le _, Nat.zero_le _, rfl, rfl, Drawn.refl w⟩
  case round =>
    obtain ⟨k, hka, hkb, rfl, HT, ⟨n, rfl⟩⟩ := hrel
    by_cases h1 : k < a.size
    · by_cases h2 : k < b.size
      · by_cases hxy : a[k] = b[k]
        · have e1 : ((a[k].toNat : Int) != (b[k].toNat : Int)) = false := by rw [hxy]; simp
          have HE := Lib.hid hxy
          clear hxy
          go_wp2
          go_quiet (fail)
          go_wp2
          go_roundw
          case rel => exact ⟨k + 1, by omega, by omega, by go_num, by rw [data_take a k h1, data_take b k h2, HT.out, HE.out]; exact rfl, _, rfl⟩
          case measure => simp [intOf]; omega
        · have e1 : ((a[k].toNat : Int) != (b[k].toNat : Int)) = true := by simp; exact fun e => hxy (UInt8.toNat_inj.1 (by omega))
          have E : Hid (bLt a b = decide (a[k].toNat < b[k].toNat)) := Lib.hid (by
            unfold bLt; rw [data_list, data_list, lt_at (k := k) (by simpa using h1) (by simpa using h2) HT.out hxy, decide_eq_decide]
            show a[k] < b[k] ↔ _
            rw [UInt8.lt_iff_toNat_lt])
          clear hxy
          go_wp2
          go_quiet (fail)
          go_wp2
          go_quiet (fail)
          go_wp2
          go_ret
          exact ⟨by rw [E.out]; rfl, by first | exact ⟨_, rfl⟩ | exact Drawn.drewN (Drawn.drewN ⟨_, rfl⟩ _) _⟩
      · have E : Hid (bLt a b = decide (a.size < b.size)) := Lib.hid (by
          unfold bLt; rw [data_list, data_list, lt_end (k := k) (by simp; omega) (by simp; omega) (by simp; omega) HT.out, decide_eq_decide]; simp)
        go_wp2
        go_ret
        exact ⟨by rw [E.out]; rfl, by first | exact ⟨_, rfl⟩ | exact Drawn.drewN (Drawn.drewN ⟨_, rfl⟩ _) _⟩
    · have E : Hid (bLt a b = decide (a.size < b.size)) := Lib.hid (by
        unfold bLt; rw [data_list, data_list, lt_end (k := k) (by simp; omega) (by simp; omega) (by simp; omega) HT.out, decide_eq_decide]; simp)
      go_wp2
      go_ret
      exact ⟨by rw [E.out]; rfl, by first | exact ⟨_, rfl⟩ | exact Drawn.drewN (Drawn.drewN ⟨_, rfl⟩ _) _⟩
end Go.Proofs.Ytcalfjakgidhfaa
