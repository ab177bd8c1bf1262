/- pick.Get, Lies, List. -/
import Derived.Test.YtcalfjakgidhfaaP1
import Derived.Test.YtcalfjakgidhfaaList
namespace Go.Proofs.Ytcalfjakgidhfaa
open Go.RowKit
set_option linter.unusedVariables false
set_option linter.unusedSimpArgs false

theorem field_func (f : Nat) (c : Array Value) (w : World) : (Instr.field 77 (.agg #[.func (.func f) #[] c]) 0).run Try.prog w = .ok (.func (.func f) #[] c) w := by kernel_rfl

theorem ans3_calls' {w : World} {v : Value} (S : St) (u : Value) (key : ByteArray) {b : Nat} {c : Ch} (hc : w.heap[b]? = some (chO c)) (hk : c.kind = 98) :
    Calls Try.prog 54 #[v, u, .pointer (some ⟨b, 0, none⟩)] w fun e w' => e = .returned (.tuple #[.string (S.ans c key).1, .int .i64 (S.ans c key).2]) ∧ w = w' :=
  (ans3_calls v u hc).mono fun e w' ⟨h1, h2⟩ => ⟨by
    rw [h1]; unfold St.ans; rw [hk]; simp only [show ¬ ((98 : Int) = 115) by decide, show ¬ ((98 : Int) = 100) by decide, show ¬ ((98 : Int) = 120) by decide, if_false, if_true]
    split <;> rfl, h2⟩

set_option maxRecDepth 100000 in
set_option maxHeartbeats 800000 in
theorem get_s {w : World} {v : Value} {S : St} {F : Nat → Prop} (h : IsStore w v S F) (key : ByteArray) (c : Ch) (hk : c.kind = 115) :
    Calls Try.prog 28 #[v, .string key, .agg #[.int .u8 c.kind, .int .i64 c.back, .string c.key, .string c.bytes]] w fun e w' => e = .returned (.tuple #[.string (S.ans c key).1, .int .i64 (S.ans c key).2]) ∧ Below w.heap.size w w' := by
  obtain ⟨kind, back, ky, bytes⟩ := c
  obtain ⟨b, rfl⟩ := h.ptr
  dsimp only at *
  subst hk
  obtain ⟨r, hr⟩ : ∃ r, S.ans ⟨115, back, ky, bytes⟩ key = r := ⟨_, rfl⟩
  rw [hr]
  have HR := Lib.hid hr
  clear hr
  have hfd := field_func 51
  go_enter Try.func28, Try.ntmps28
  go_wp2_with fail
  refine (answers_calls _ ⟨115, back, ky, bytes⟩).mono ?_
  rintro e w1 ⟨he, hc, hb⟩
  obtain ⟨b', hb'⟩ : ∃ b', b' = (w.alloc (.cells #[.int .u8 115, .int .i64 back, .string ky, .string bytes] 49)).heap.size := ⟨_, rfl⟩
  have hw := (Below.refl w.heap.size w).alloc (Nat.le_refl _) (.cells #[.int .u8 115, .int .i64 back, .string ky, .string bytes] 49) |>.trans (hb.mono (by simp))
  rw [← hb'] at he hc
  have HC := Lib.hid hc
  have HB := Lib.hid hw
  clear hc hb hb' hw
  subst he
  simp only [ansF, if_true]
  go_wp2_with fail
  refine (ans1_calls ((h.keep (Keep.of_below HB.out (F := fun _ => False)) fun _ _ e => e)) key HC.out rfl).mono ?_
  rintro e w2 ⟨rfl, hb2⟩
  go_wp2_with fail
  go_ret2
  refine ⟨?_, HB.out.trans (hb2.mono HB.out.size)⟩
  rw [← HR.out]
  rfl

set_option maxRecDepth 100000 in
set_option maxHeartbeats 800000 in
theorem get_d {w : World} {v : Value} {S : St} {F : Nat → Prop} (h : IsStore w v S F) (key : ByteArray) (c : Ch) (hk : c.kind = 100) :
    Calls Try.prog 28 #[v, .string key, .agg #[.int .u8 c.kind, .int .i64 c.back, .string c.key, .string c.bytes]] w fun e w' => e = .returned (.tuple #[.string (S.ans c key).1, .int .i64 (S.ans c key).2]) ∧ Below w.heap.size w w' := by
  obtain ⟨kind, back, ky, bytes⟩ := c
  obtain ⟨b, rfl⟩ := h.ptr
  dsimp only at *
  subst hk
  obtain ⟨r, hr⟩ : ∃ r, S.ans ⟨100, back, ky, bytes⟩ key = r := ⟨_, rfl⟩
  rw [hr]
  have HR := Lib.hid hr
  clear hr
  have hfd := field_func 52
  go_enter Try.func28, Try.ntmps28
  go_wp2_with fail
  refine (answers_calls _ ⟨100, back, ky, bytes⟩).mono ?_
  rintro e w1 ⟨he, hc, hb⟩
  obtain ⟨b', hb'⟩ : ∃ b', b' = (w.alloc (.cells #[.int .u8 100, .int .i64 back, .string ky, .string bytes] 49)).heap.size := ⟨_, rfl⟩
  have hw := (Below.refl w.heap.size w).alloc (Nat.le_refl _) (.cells #[.int .u8 100, .int .i64 back, .string ky, .string bytes] 49) |>.trans (hb.mono (by simp))
  rw [← hb'] at he hc
  have HC := Lib.hid hc
  have HB := Lib.hid hw
  clear hc hb hb' hw
  subst he
  have hA : ansF 100 b' = .func (.func 52) #[] #[] := rfl
  simp only [hA]
  go_wp2_with fail
  refine (none_calls _ _ _).mono ?_
  rintro e w2 ⟨rfl, rfl⟩
  go_wp2_with fail
  go_ret2
  refine ⟨?_, HB.out⟩
  rw [← HR.out]
  rfl

set_option maxRecDepth 100000 in
set_option maxHeartbeats 800000 in
theorem get_x {w : World} {v : Value} {S : St} {F : Nat → Prop} (h : IsStore w v S F) (key : ByteArray) (c : Ch) (hk : c.kind = 120) :
    Calls Try.prog 28 #[v, .string key, .agg #[.int .u8 c.kind, .int .i64 c.back, .string c.key, .string c.bytes]] w fun e w' => e = .returned (.tuple #[.string (S.ans c key).1, .int .i64 (S.ans c key).2]) ∧ Below w.heap.size w w' := by
  obtain ⟨kind, back, ky, bytes⟩ := c
  obtain ⟨b, rfl⟩ := h.ptr
  dsimp only at *
  subst hk
  obtain ⟨r, hr⟩ : ∃ r, S.ans ⟨120, back, ky, bytes⟩ key = r := ⟨_, rfl⟩
  rw [hr]
  have HR := Lib.hid hr
  clear hr
  have hfd := field_func 53
  go_enter Try.func28, Try.ntmps28
  go_wp2_with fail
  refine (answers_calls _ ⟨120, back, ky, bytes⟩).mono ?_
  rintro e w1 ⟨he, hc, hb⟩
  obtain ⟨b', hb'⟩ : ∃ b', b' = (w.alloc (.cells #[.int .u8 120, .int .i64 back, .string ky, .string bytes] 49)).heap.size := ⟨_, rfl⟩
  have hw := (Below.refl w.heap.size w).alloc (Nat.le_refl _) (.cells #[.int .u8 120, .int .i64 back, .string ky, .string bytes] 49) |>.trans (hb.mono (by simp))
  rw [← hb'] at he hc
  have HC := Lib.hid hc
  have HB := Lib.hid hw
  clear hc hb hb' hw
  subst he
  have hA : ansF 120 b' = .func (.func 53) #[] #[.pointer (some ⟨b', 0, none⟩)] := rfl
  simp only [hA]
  go_wp2_with fail
  refine (ans2_calls ((h.keep (Keep.of_below HB.out (F := fun _ => False)) fun _ _ e => e)) _ HC.out).mono ?_
  rintro e w2 ⟨rfl, rfl⟩
  go_wp2_with fail
  go_ret2
  refine ⟨?_, HB.out⟩
  rw [← HR.out]
  rfl

set_option maxRecDepth 100000 in
set_option maxHeartbeats 800000 in
theorem get_b {w : World} {v : Value} {S : St} {F : Nat → Prop} (h : IsStore w v S F) (key : ByteArray) (c : Ch) (hk : c.kind = 98) :
    Calls Try.prog 28 #[v, .string key, .agg #[.int .u8 c.kind, .int .i64 c.back, .string c.key, .string c.bytes]] w fun e w' => e = .returned (.tuple #[.string (S.ans c key).1, .int .i64 (S.ans c key).2]) ∧ Below w.heap.size w w' := by
  obtain ⟨kind, back, ky, bytes⟩ := c
  obtain ⟨b, rfl⟩ := h.ptr
  dsimp only at *
  subst hk
  obtain ⟨r, hr⟩ : ∃ r, S.ans ⟨98, back, ky, bytes⟩ key = r := ⟨_, rfl⟩
  rw [hr]
  have HR := Lib.hid hr
  clear hr
  have hfd := field_func 54
  go_enter Try.func28, Try.ntmps28
  go_wp2_with fail
  refine (answers_calls _ ⟨98, back, ky, bytes⟩).mono ?_
  rintro e w1 ⟨he, hc, hb⟩
  obtain ⟨b', hb'⟩ : ∃ b', b' = (w.alloc (.cells #[.int .u8 98, .int .i64 back, .string ky, .string bytes] 49)).heap.size := ⟨_, rfl⟩
  have hw := (Below.refl w.heap.size w).alloc (Nat.le_refl _) (.cells #[.int .u8 98, .int .i64 back, .string ky, .string bytes] 49) |>.trans (hb.mono (by simp))
  rw [← hb'] at he hc
  have HC := Lib.hid hc
  have HB := Lib.hid hw
  clear hc hb hb' hw
  subst he
  have hA : ansF 98 b' = .func (.func 54) #[] #[.pointer (some ⟨b', 0, none⟩)] := rfl
  simp only [hA]
  go_wp2_with fail
  refine (ans3_calls' S _ key HC.out rfl).mono ?_
  rintro e w2 ⟨rfl, rfl⟩
  go_wp2_with fail
  go_ret2
  refine ⟨?_, HB.out⟩
  rw [← HR.out]
  rfl

set_option maxRecDepth 100000 in
set_option maxHeartbeats 800000 in
theorem get_h {w : World} {v : Value} {S : St} {F : Nat → Prop} (h : IsStore w v S F) (key : ByteArray) (c : Ch) (h1 : c.kind ≠ 115) (h2 : c.kind ≠ 100) (h3 : c.kind ≠ 120) (h4 : c.kind ≠ 98) :
    Calls Try.prog 28 #[v, .string key, .agg #[.int .u8 c.kind, .int .i64 c.back, .string c.key, .string c.bytes]] w fun e w' => e = .returned (.tuple #[.string (S.ans c key).1, .int .i64 (S.ans c key).2]) ∧ Below w.heap.size w w' := by
  obtain ⟨kind, back, ky, bytes⟩ := c
  obtain ⟨b, rfl⟩ := h.ptr
  dsimp only at *
  have hA : ∀ b', ansF kind b' = .func (.func 55) #[] #[] := fun b' => by unfold ansF; rw [if_neg h1, if_neg h2, if_neg h3, if_neg h4]
  have hN : S.ans ⟨kind, back, ky, bytes⟩ key = (S.get key, S.getErr key) := by unfold St.ans; rw [if_neg h1, if_neg h2, if_neg h3, if_neg h4]
  have HN := Lib.hid hN
  clear hN h1 h2 h3 h4
  obtain ⟨r, hr⟩ : ∃ r, S.ans ⟨kind, back, ky, bytes⟩ key = r := ⟨_, rfl⟩
  rw [hr]
  have HR := Lib.hid hr
  clear hr
  have hfd := field_func 55
  go_enter Try.func28, Try.ntmps28
  go_wp2_with fail
  refine (answers_calls _ ⟨kind, back, ky, bytes⟩).mono ?_
  rintro e w1 ⟨he, hc, hb⟩
  obtain ⟨b', hb'⟩ : ∃ b', b' = (w.alloc (.cells #[.int .u8 kind, .int .i64 back, .string ky, .string bytes] 49)).heap.size := ⟨_, rfl⟩
  have hw := (Below.refl w.heap.size w).alloc (Nat.le_refl _) (.cells #[.int .u8 kind, .int .i64 back, .string ky, .string bytes] 49) |>.trans (hb.mono (by simp))
  rw [← hb'] at he hc
  have HC := Lib.hid hc
  have HB := Lib.hid hw
  clear hc hb hb' hw
  subst he
  simp only [hA]
  go_wp2_with fail
  refine (honest_calls ((h.keep (Keep.of_below HB.out (F := fun _ => False)) fun _ _ e => e)) key).mono ?_
  rintro e w2 ⟨rfl, rfl⟩
  go_wp2_with fail
  go_ret2
  refine ⟨?_, HB.out⟩
  rw [← HR.out]
  rw [HN.out]
  rfl

theorem pick_get {w : World} {v : Value} {S : St} {F : Nat → Prop} (h : IsStore w v S F) (key : ByteArray) (c : Ch) :
    Calls Try.prog 28 #[v, .string key, .agg #[.int .u8 c.kind, .int .i64 c.back, .string c.key, .string c.bytes]] w fun e w' => e = .returned (.tuple #[.string (S.ans c key).1, .int .i64 (S.ans c key).2]) ∧ Below w.heap.size w w' := by
  by_cases h1 : c.kind = 115
  · exact get_s h key c h1
  by_cases h2 : c.kind = 100
  · exact get_d h key c h2
  by_cases h3 : c.kind = 120
  · exact get_x h key c h3
  by_cases h4 : c.kind = 98
  · exact get_b h key c h4
  exact get_h h key c h1 h2 h3 h4
end Go.Proofs.Ytcalfjakgidhfaa
