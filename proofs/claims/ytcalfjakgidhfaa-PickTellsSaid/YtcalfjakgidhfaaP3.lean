/- pick.Get of a nil store, Lies, List. -/
import Derived.Test.YtcalfjakgidhfaaP2
import Derived.Deep.Onto
namespace Go.Proofs.Ytcalfjakgidhfaa
open Go.RowKit
set_option linter.unusedVariables false
set_option linter.unusedSimpArgs false

set_option maxRecDepth 100000 in
set_option maxHeartbeats 800000 in
theorem getN_s (w : World) (key : ByteArray) (c : Ch) (hk : c.kind = 115) :
    Calls Try.prog 28 #[.pointer none, .string key, .agg #[.int .u8 c.kind, .int .i64 c.back, .string c.key, .string c.bytes]] w fun e w' => e = .returned (.tuple #[.string (St.new.ans c key).1, .int .i64 (St.new.ans c key).2]) ∧ Below w.heap.size w w' := by
  obtain ⟨kind, back, ky, bytes⟩ := c
  dsimp only at *
  subst hk
  obtain ⟨S, hS⟩ : ∃ S, St.new = S := ⟨_, rfl⟩
  rw [hS]
  have HS := Lib.hid hS
  clear hS
  obtain ⟨r, hr⟩ : ∃ r, S.ans ⟨115, back, ky, bytes⟩ key = r := ⟨_, rfl⟩
  rw [hr]
  have HR := Lib.hid hr
  clear hr
  have hfd := field_func 51
  go_enter Try.func28, Try.ntmps28
  go_wp2_with fail
  refine (store_new _).mono ?_
  rintro e w0 ⟨v, rfl, h, hb0⟩
  rw [HS.out] at h
  obtain ⟨b, rfl⟩ := h.ptr
  have h0 : w0.heap[w.heap.size]? = some (.cells #[.int .u8 115, .int .i64 back, .string ky, .string bytes] 49 (0, 0)) := (hb0.block _ (by simp)).trans (MapKept.heap_alloc w _).1
  have c0 := cell_of_row w0 w.heap.size 0 _ _ _ h0
  have c1 := cell_of_row w0 w.heap.size 1 _ _ _ h0
  have c2 := cell_of_row w0 w.heap.size 2 _ _ _ h0
  have c3 := cell_of_row w0 w.heap.size 3 _ _ _ h0
  simp at c0 c1 c2 c3
  have hw0 := (Below.refl w.heap.size w).alloc (Nat.le_refl _) (.cells #[.int .u8 115, .int .i64 back, .string ky, .string bytes] 49) |>.trans (hb0.mono (by simp))
  have HB0 := Lib.hid hw0
  clear hb0 hw0 h0
  go_wp2_with fail
  refine (answers_calls _ ⟨115, back, ky, bytes⟩).mono ?_
  rintro e w1 ⟨he, hc, hb⟩
  obtain ⟨b', hb'⟩ : ∃ b', b' = w0.heap.size := ⟨_, rfl⟩
  have hk : Keep (fun _ => False) w0 w1 := Keep.of_below hb
  have hw := HB0.out.trans (hb.mono HB0.out.size)
  rw [← hb'] at he hc
  have HC := Lib.hid hc
  have HK := Lib.hid hk
  have HB := Lib.hid hw
  clear hc hb hb' hw hk c0 c1 c2 c3
  subst he
  simp only [ansF, if_true]
  go_wp2_with fail
  refine (ans1_calls ((h.keep HK.out fun _ _ e => e)) key HC.out rfl).mono ?_
  rintro e w2 ⟨rfl, hb2⟩
  go_wp2_with fail
  go_ret2
  refine ⟨?_, HB.out.trans (hb2.mono HB.out.size)⟩
  rw [← HR.out]
  rfl

set_option maxRecDepth 100000 in
set_option maxHeartbeats 800000 in
theorem getN_d (w : World) (key : ByteArray) (c : Ch) (hk : c.kind = 100) :
    Calls Try.prog 28 #[.pointer none, .string key, .agg #[.int .u8 c.kind, .int .i64 c.back, .string c.key, .string c.bytes]] w fun e w' => e = .returned (.tuple #[.string (St.new.ans c key).1, .int .i64 (St.new.ans c key).2]) ∧ Below w.heap.size w w' := by
  obtain ⟨kind, back, ky, bytes⟩ := c
  dsimp only at *
  subst hk
  obtain ⟨S, hS⟩ : ∃ S, St.new = S := ⟨_, rfl⟩
  rw [hS]
  have HS := Lib.hid hS
  clear hS
  obtain ⟨r, hr⟩ : ∃ r, S.ans ⟨100, back, ky, bytes⟩ key = r := ⟨_, rfl⟩
  rw [hr]
  have HR := Lib.hid hr
  clear hr
  have hfd := field_func 52
  go_enter Try.func28, Try.ntmps28
  go_wp2_with fail
  refine (store_new _).mono ?_
  rintro e w0 ⟨v, rfl, h, hb0⟩
  rw [HS.out] at h
  obtain ⟨b, rfl⟩ := h.ptr
  have h0 : w0.heap[w.heap.size]? = some (.cells #[.int .u8 100, .int .i64 back, .string ky, .string bytes] 49 (0, 0)) := (hb0.block _ (by simp)).trans (MapKept.heap_alloc w _).1
  have c0 := cell_of_row w0 w.heap.size 0 _ _ _ h0
  have c1 := cell_of_row w0 w.heap.size 1 _ _ _ h0
  have c2 := cell_of_row w0 w.heap.size 2 _ _ _ h0
  have c3 := cell_of_row w0 w.heap.size 3 _ _ _ h0
  simp at c0 c1 c2 c3
  have hw0 := (Below.refl w.heap.size w).alloc (Nat.le_refl _) (.cells #[.int .u8 100, .int .i64 back, .string ky, .string bytes] 49) |>.trans (hb0.mono (by simp))
  have HB0 := Lib.hid hw0
  clear hb0 hw0 h0
  go_wp2_with fail
  refine (answers_calls _ ⟨100, back, ky, bytes⟩).mono ?_
  rintro e w1 ⟨he, hc, hb⟩
  obtain ⟨b', hb'⟩ : ∃ b', b' = w0.heap.size := ⟨_, rfl⟩
  have hk : Keep (fun _ => False) w0 w1 := Keep.of_below hb
  have hw := HB0.out.trans (hb.mono HB0.out.size)
  rw [← hb'] at he hc
  have HC := Lib.hid hc
  have HK := Lib.hid hk
  have HB := Lib.hid hw
  clear hc hb hb' hw hk c0 c1 c2 c3
  subst he
  have hA : ansF 100 b' = .func (.func 52) #[] #[] := rfl
  simp only [hA]
  go_wp2_with fail
  refine (none_calls _ _ _).mono ?_
  rintro e w2 ⟨rfl, rfl⟩
  go_wp2_with fail
  go_ret2
  refine ⟨?_, HB.out⟩
  rw [← HR.out]
  rfl

set_option maxRecDepth 100000 in
set_option maxHeartbeats 800000 in
theorem getN_x (w : World) (key : ByteArray) (c : Ch) (hk : c.kind = 120) :
    Calls Try.prog 28 #[.pointer none, .string key, .agg #[.int .u8 c.kind, .int .i64 c.back, .string c.key, .string c.bytes]] w fun e w' => e = .returned (.tuple #[.string (St.new.ans c key).1, .int .i64 (St.new.ans c key).2]) ∧ Below w.heap.size w w' := by
  obtain ⟨kind, back, ky, bytes⟩ := c
  dsimp only at *
  subst hk
  obtain ⟨S, hS⟩ : ∃ S, St.new = S := ⟨_, rfl⟩
  rw [hS]
  have HS := Lib.hid hS
  clear hS
  obtain ⟨r, hr⟩ : ∃ r, S.ans ⟨120, back, ky, bytes⟩ key = r := ⟨_, rfl⟩
  rw [hr]
  have HR := Lib.hid hr
  clear hr
  have hfd := field_func 53
  go_enter Try.func28, Try.ntmps28
  go_wp2_with fail
  refine (store_new _).mono ?_
  rintro e w0 ⟨v, rfl, h, hb0⟩
  rw [HS.out] at h
  obtain ⟨b, rfl⟩ := h.ptr
  have h0 : w0.heap[w.heap.size]? = some (.cells #[.int .u8 120, .int .i64 back, .string ky, .string bytes] 49 (0, 0)) := (hb0.block _ (by simp)).trans (MapKept.heap_alloc w _).1
  have c0 := cell_of_row w0 w.heap.size 0 _ _ _ h0
  have c1 := cell_of_row w0 w.heap.size 1 _ _ _ h0
  have c2 := cell_of_row w0 w.heap.size 2 _ _ _ h0
  have c3 := cell_of_row w0 w.heap.size 3 _ _ _ h0
  simp at c0 c1 c2 c3
  have hw0 := (Below.refl w.heap.size w).alloc (Nat.le_refl _) (.cells #[.int .u8 120, .int .i64 back, .string ky, .string bytes] 49) |>.trans (hb0.mono (by simp))
  have HB0 := Lib.hid hw0
  clear hb0 hw0 h0
  go_wp2_with fail
  refine (answers_calls _ ⟨120, back, ky, bytes⟩).mono ?_
  rintro e w1 ⟨he, hc, hb⟩
  obtain ⟨b', hb'⟩ : ∃ b', b' = w0.heap.size := ⟨_, rfl⟩
  have hk : Keep (fun _ => False) w0 w1 := Keep.of_below hb
  have hw := HB0.out.trans (hb.mono HB0.out.size)
  rw [← hb'] at he hc
  have HC := Lib.hid hc
  have HK := Lib.hid hk
  have HB := Lib.hid hw
  clear hc hb hb' hw hk c0 c1 c2 c3
  subst he
  have hA : ansF 120 b' = .func (.func 53) #[] #[.pointer (some ⟨b', 0, none⟩)] := rfl
  simp only [hA]
  go_wp2_with fail
  refine (ans2_calls ((h.keep HK.out fun _ _ e => e)) _ HC.out).mono ?_
  rintro e w2 ⟨rfl, rfl⟩
  go_wp2_with fail
  go_ret2
  refine ⟨?_, HB.out⟩
  rw [← HR.out]
  rfl

set_option maxRecDepth 100000 in
set_option maxHeartbeats 800000 in
theorem getN_b (w : World) (key : ByteArray) (c : Ch) (hk : c.kind = 98) :
    Calls Try.prog 28 #[.pointer none, .string key, .agg #[.int .u8 c.kind, .int .i64 c.back, .string c.key, .string c.bytes]] w fun e w' => e = .returned (.tuple #[.string (St.new.ans c key).1, .int .i64 (St.new.ans c key).2]) ∧ Below w.heap.size w w' := by
  obtain ⟨kind, back, ky, bytes⟩ := c
  dsimp only at *
  subst hk
  obtain ⟨S, hS⟩ : ∃ S, St.new = S := ⟨_, rfl⟩
  rw [hS]
  have HS := Lib.hid hS
  clear hS
  obtain ⟨r, hr⟩ : ∃ r, S.ans ⟨98, back, ky, bytes⟩ key = r := ⟨_, rfl⟩
  rw [hr]
  have HR := Lib.hid hr
  clear hr
  have hfd := field_func 54
  go_enter Try.func28, Try.ntmps28
  go_wp2_with fail
  refine (store_new _).mono ?_
  rintro e w0 ⟨v, rfl, h, hb0⟩
  rw [HS.out] at h
  obtain ⟨b, rfl⟩ := h.ptr
  have h0 : w0.heap[w.heap.size]? = some (.cells #[.int .u8 98, .int .i64 back, .string ky, .string bytes] 49 (0, 0)) := (hb0.block _ (by simp)).trans (MapKept.heap_alloc w _).1
  have c0 := cell_of_row w0 w.heap.size 0 _ _ _ h0
  have c1 := cell_of_row w0 w.heap.size 1 _ _ _ h0
  have c2 := cell_of_row w0 w.heap.size 2 _ _ _ h0
  have c3 := cell_of_row w0 w.heap.size 3 _ _ _ h0
  simp at c0 c1 c2 c3
  have hw0 := (Below.refl w.heap.size w).alloc (Nat.le_refl _) (.cells #[.int .u8 98, .int .i64 back, .string ky, .string bytes] 49) |>.trans (hb0.mono (by simp))
  have HB0 := Lib.hid hw0
  clear hb0 hw0 h0
  go_wp2_with fail
  refine (answers_calls _ ⟨98, back, ky, bytes⟩).mono ?_
  rintro e w1 ⟨he, hc, hb⟩
  obtain ⟨b', hb'⟩ : ∃ b', b' = w0.heap.size := ⟨_, rfl⟩
  have hk : Keep (fun _ => False) w0 w1 := Keep.of_below hb
  have hw := HB0.out.trans (hb.mono HB0.out.size)
  rw [← hb'] at he hc
  have HC := Lib.hid hc
  have HK := Lib.hid hk
  have HB := Lib.hid hw
  clear hc hb hb' hw hk c0 c1 c2 c3
  subst he
  have hA : ansF 98 b' = .func (.func 54) #[] #[.pointer (some ⟨b', 0, none⟩)] := rfl
  simp only [hA]
  go_wp2_with fail
  refine (ans3_calls' S _ key HC.out rfl).mono ?_
  rintro e w2 ⟨rfl, rfl⟩
  go_wp2_with fail
  go_ret2
  refine ⟨?_, HB.out⟩
  rw [← HR.out]
  rfl

set_option maxRecDepth 100000 in
set_option maxHeartbeats 800000 in
theorem getN_h (w : World) (key : ByteArray) (c : Ch) (h1 : c.kind ≠ 115) (h2 : c.kind ≠ 100) (h3 : c.kind ≠ 120) (h4 : c.kind ≠ 98) :
    Calls Try.prog 28 #[.pointer none, .string key, .agg #[.int .u8 c.kind, .int .i64 c.back, .string c.key, .string c.bytes]] w fun e w' => e = .returned (.tuple #[.string (St.new.ans c key).1, .int .i64 (St.new.ans c key).2]) ∧ Below w.heap.size w w' := by
  obtain ⟨kind, back, ky, bytes⟩ := c
  dsimp only at *
  have hA : ∀ b', ansF kind b' = .func (.func 55) #[] #[] := fun b' => by unfold ansF; rw [if_neg h1, if_neg h2, if_neg h3, if_neg h4]
  have hN : ∀ S : St, S.ans ⟨kind, back, ky, bytes⟩ key = (S.get key, S.getErr key) := fun S => by unfold St.ans; rw [if_neg h1, if_neg h2, if_neg h3, if_neg h4]
  have HN := Lib.hid hN
  clear hN h1 h2 h3 h4
  obtain ⟨S, hS⟩ : ∃ S, St.new = S := ⟨_, rfl⟩
  rw [hS]
  have HS := Lib.hid hS
  clear hS
  obtain ⟨r, hr⟩ : ∃ r, S.ans ⟨kind, back, ky, bytes⟩ key = r := ⟨_, rfl⟩
  rw [hr]
  have HR := Lib.hid hr
  clear hr
  have hfd := field_func 55
  go_enter Try.func28, Try.ntmps28
  go_wp2_with fail
  refine (store_new _).mono ?_
  rintro e w0 ⟨v, rfl, h, hb0⟩
  rw [HS.out] at h
  obtain ⟨b, rfl⟩ := h.ptr
  have h0 : w0.heap[w.heap.size]? = some (.cells #[.int .u8 kind, .int .i64 back, .string ky, .string bytes] 49 (0, 0)) := (hb0.block _ (by simp)).trans (MapKept.heap_alloc w _).1
  have c0 := cell_of_row w0 w.heap.size 0 _ _ _ h0
  have c1 := cell_of_row w0 w.heap.size 1 _ _ _ h0
  have c2 := cell_of_row w0 w.heap.size 2 _ _ _ h0
  have c3 := cell_of_row w0 w.heap.size 3 _ _ _ h0
  simp at c0 c1 c2 c3
  have hw0 := (Below.refl w.heap.size w).alloc (Nat.le_refl _) (.cells #[.int .u8 kind, .int .i64 back, .string ky, .string bytes] 49) |>.trans (hb0.mono (by simp))
  have HB0 := Lib.hid hw0
  clear hb0 hw0 h0
  go_wp2_with fail
  refine (answers_calls _ ⟨kind, back, ky, bytes⟩).mono ?_
  rintro e w1 ⟨he, hc, hb⟩
  obtain ⟨b', hb'⟩ : ∃ b', b' = w0.heap.size := ⟨_, rfl⟩
  have hk : Keep (fun _ => False) w0 w1 := Keep.of_below hb
  have hw := HB0.out.trans (hb.mono HB0.out.size)
  rw [← hb'] at he hc
  have HC := Lib.hid hc
  have HK := Lib.hid hk
  have HB := Lib.hid hw
  clear hc hb hb' hw hk c0 c1 c2 c3
  subst he
  simp only [hA]
  go_wp2_with fail
  refine (honest_calls ((h.keep HK.out fun _ _ e => e)) key).mono ?_
  rintro e w2 ⟨rfl, rfl⟩
  go_wp2_with fail
  go_ret2
  refine ⟨?_, HB.out⟩
  rw [← HR.out]
  rw [HN.out]
  rfl

theorem pick_getN (w : World) (key : ByteArray) (c : Ch) :
    Calls Try.prog 28 #[.pointer none, .string key, .agg #[.int .u8 c.kind, .int .i64 c.back, .string c.key, .string c.bytes]] w fun e w' => e = .returned (.tuple #[.string (St.new.ans c key).1, .int .i64 (St.new.ans c key).2]) ∧ Below w.heap.size w w' := by
  by_cases h1 : c.kind = 115
  · exact getN_s w key c h1
  by_cases h2 : c.kind = 100
  · exact getN_d w key c h2
  by_cases h3 : c.kind = 120
  · exact getN_x w key c h3
  by_cases h4 : c.kind = 98
  · exact getN_b w key c h4
  exact getN_h w key c h1 h2 h3 h4

def St.lies (S : St) (c : Ch) (key : ByteArray) : Bool := !decide ((S.ans c key).1 = S.get key) || !decide ((S.ans c key).2 = S.getErr key)

set_option maxRecDepth 100000 in
set_option maxHeartbeats 800000 in
theorem pick_lies {w : World} {v : Value} {S : St} {F : Nat → Prop} (h : IsStore w v S F) (key : ByteArray) (c : Ch) :
    Calls Try.prog 30 #[v, .string key, .agg #[.int .u8 c.kind, .int .i64 c.back, .string c.key, .string c.bytes]] w fun e w' => e = .returned (.bool (S.lies c key)) ∧ Below w.heap.size w w' := by
  obtain ⟨b, rfl⟩ := h.ptr
  obtain ⟨r, hr⟩ : ∃ r, S.lies c key = r := ⟨_, rfl⟩
  have hr' := hr
  unfold St.lies at hr'
  rw [hr]
  have HR := Lib.hid hr'
  clear hr hr'
  go_enter Try.func30, Try.ntmps30
  go_wp2_with fail
  refine (pick_get (h.keep (Keep.alloc (fun _ => False) w _) fun _ _ e => e) key c).mono ?_
  rintro e w1 ⟨rfl, hb1⟩
  have hw1 := (Below.refl w.heap.size w).alloc (Nat.le_refl _) (.cells #[.int .u8 c.kind, .int .i64 c.back, .string c.key, .string c.bytes] 49) |>.trans (hb1.mono (by simp))
  have h1 := h.keep (Keep.of_below hw1 (F := fun _ => False)) fun _ _ e => e
  have HB := Lib.hid hw1
  clear hb1 hw1
  go_wp2_with fail
  refine (pick_get h1 key ⟨104, 0, ⟨#[]⟩, ⟨#[]⟩⟩).mono ?_
  rintro e w2 ⟨rfl, hb2⟩
  have hw := HB.out.trans (hb2.mono HB.out.size)
  have HW := Lib.hid hw
  clear HB hb2 hw
  have hA : S.ans ⟨104, 0, ⟨#[]⟩, ⟨#[]⟩⟩ key = (S.get key, S.getErr key) := rfl
  rw [hA]
  clear hA
  obtain ⟨⟨s1, e1⟩, ha⟩ : ∃ p, S.ans c key = p := ⟨_, rfl⟩
  obtain ⟨s2, hs2⟩ : ∃ s2, S.get key = s2 := ⟨_, rfl⟩
  obtain ⟨e2, he2⟩ : ∃ e2, S.getErr key = e2 := ⟨_, rfl⟩
  have hx := HR.out
  rw [ha, hs2, he2] at hx
  rw [ha, hs2, he2]
  dsimp only at hx ⊢
  clear HR hs2 he2 ha
  by_cases h3 : s1 = s2
  · subst h3
    by_cases h4 : e1 = e2
    · subst h4
      have h5 : r = false := by rw [← hx]; simp
      subst h5
      clear hx
      go_wp2_with fail
      go_ret
      exact ⟨rfl, HW.out⟩
    · have h5 : r = true := by rw [← hx]; simp [h4]
      have h6 : (e1 != e2) = true := by simp [h4]
      subst h5
      clear hx h4
      go_wp2_with fail
      go_ret
      exact ⟨rfl, HW.out⟩
  · have h5 : r = true := by rw [← hx]; simp [h3]
    have h6 : (s1.toList == s2.toList) = false := by rw [beq_eq_false_iff_ne]; exact fun e => h3 (list_inj e)
    subst h5
    clear hx h3
    go_wp2_with fail
    go_ret
    exact ⟨rfl, HW.out⟩
set_option maxRecDepth 100000 in
set_option maxHeartbeats 800000 in
theorem pick_liesN (w : World) (key : ByteArray) (c : Ch) :
    Calls Try.prog 30 #[.pointer none, .string key, .agg #[.int .u8 c.kind, .int .i64 c.back, .string c.key, .string c.bytes]] w fun e w' => e = .returned (.bool (St.new.lies c key)) ∧ Below w.heap.size w w' := by
  obtain ⟨S, hS⟩ : ∃ S, St.new = S := ⟨_, rfl⟩
  rw [hS]
  have HS := Lib.hid hS
  clear hS
  obtain ⟨r, hr⟩ : ∃ r, S.lies c key = r := ⟨_, rfl⟩
  have hr' := hr
  unfold St.lies at hr'
  rw [hr]
  have HR := Lib.hid hr'
  clear hr hr'
  go_enter Try.func30, Try.ntmps30
  go_wp2_with fail
  refine (pick_getN _ key c).mono ?_
  rintro e w1 ⟨rfl, hb1⟩
  have hw1 := (Below.refl w.heap.size w).alloc (Nat.le_refl _) (.cells #[.int .u8 c.kind, .int .i64 c.back, .string c.key, .string c.bytes] 49) |>.trans (hb1.mono (by simp))
  rw [HS.out]
  have HB := Lib.hid hw1
  clear hb1 hw1
  go_wp2_with fail
  refine (pick_getN _ key ⟨104, 0, ⟨#[]⟩, ⟨#[]⟩⟩).mono ?_
  rintro e w2 ⟨rfl, hb2⟩
  have hw := HB.out.trans (hb2.mono HB.out.size)
  have HW := Lib.hid hw
  clear HB hb2 hw
  rw [HS.out]
  have hA : S.ans ⟨104, 0, ⟨#[]⟩, ⟨#[]⟩⟩ key = (S.get key, S.getErr key) := rfl
  rw [hA]
  clear hA
  obtain ⟨⟨s1, e1⟩, ha⟩ : ∃ p, S.ans c key = p := ⟨_, rfl⟩
  obtain ⟨s2, hs2⟩ : ∃ s2, S.get key = s2 := ⟨_, rfl⟩
  obtain ⟨e2, he2⟩ : ∃ e2, S.getErr key = e2 := ⟨_, rfl⟩
  have hx := HR.out
  rw [ha, hs2, he2] at hx
  rw [ha, hs2, he2]
  dsimp only at hx ⊢
  clear HR hs2 he2 ha
  by_cases h3 : s1 = s2
  · subst h3
    by_cases h4 : e1 = e2
    · subst h4
      have h5 : r = false := by rw [← hx]; simp
      subst h5
      clear hx
      go_wp2_with fail
      go_ret
      exact ⟨rfl, HW.out⟩
    · have h5 : r = true := by rw [← hx]; simp [h4]
      have h6 : (e1 != e2) = true := by simp [h4]
      subst h5
      clear hx h4
      go_wp2_with fail
      go_ret
      exact ⟨rfl, HW.out⟩
  · have h5 : r = true := by rw [← hx]; simp [h3]
    have h6 : (s1.toList == s2.toList) = false := by rw [beq_eq_false_iff_ne]; exact fun e => h3 (list_inj e)
    subst h5
    clear hx h3
    go_wp2_with fail
    go_ret
    exact ⟨rfl, HW.out⟩

set_option maxRecDepth 100000 in
theorem pick_list {w : World} {v : Value} {S : St} {F : Nat → Prop} (h : IsStore w v S F) (p : ByteArray) (c : Ch) (hk : c.kind ≠ 100) :
    Calls Try.prog 34 #[v, .string p, .agg #[.int .u8 c.kind, .int .i64 c.back, .string c.key, .string c.bytes]] w fun e w' => ∃ v', e = .returned v' ∧ w'.ownsRow w.heap.size 9 1 v' (S.list p).length (strV (S.list p)) ∧ Below w.heap.size w w' := by
  obtain ⟨b, rfl⟩ := h.ptr
  obtain ⟨kind, back, ky, bytes⟩ := c
  dsimp only at *
  obtain ⟨B, hB⟩ : ∃ B, B = w.heap.size := ⟨_, rfl⟩
  rw [← hB]
  have HB := Lib.hid hB
  clear hB
  go_enter Try.func34, Try.ntmps34
  go_wp2_with fail
  refine (store_list (h.keep (Keep.alloc (fun _ => False) w _) fun _ _ e => e) p).mono ?_
  rintro e w1 ⟨v', rfl, hv, hb1⟩
  have hw1 := (Below.refl w.heap.size w).alloc (Nat.le_refl _) (.cells #[.int .u8 kind, .int .i64 back, .string ky, .string bytes] 49) |>.trans (hb1.mono (by simp))
  have hv1 := World.ownsRow.mono hv (base' := B) (by rw [HB.out]; simp)
  rw [← HB.out] at hw1
  have HW := Lib.hid hw1
  have HV := Lib.hid hv1
  clear hv hb1 hw1 hv1
  go_wp2_with fail
  go_ret
  exact ⟨_, rfl, HV.out, HW.out⟩
theorem pick_list_nil (w : World) (v : Value) (hv : v = .pointer none ∨ ∃ b, v = .pointer (some ⟨b, 0, none⟩)) (p : ByteArray) (c : Ch) (hk : v = .pointer none ∨ c.kind = 100) :
    Calls Try.prog 34 #[v, .string p, .agg #[.int .u8 c.kind, .int .i64 c.back, .string c.key, .string c.bytes]] w fun e w' => e = .returned (.slice none 0 0) ∧ Below w.heap.size w w' := by
  obtain ⟨kind, back, ky, bytes⟩ := c
  dsimp only at *
  have HF := Lib.hid ((Below.refl w.heap.size w).alloc (Nat.le_refl _) (.cells #[.int .u8 kind, .int .i64 back, .string ky, .string bytes] 49))
  rcases hv with rfl | ⟨b, rfl⟩
  · clear hk
    go_enter Try.func34, Try.ntmps34
    go_wp2_with fail
    go_ret
    exact ⟨rfl, HF.out⟩
  · obtain rfl : kind = 100 := hk.resolve_left (by simp)
    clear hk
    go_enter Try.func34, Try.ntmps34
    go_wp2_with fail
    go_ret
    exact ⟨rfl, HF.out⟩
end Go.Proofs.Ytcalfjakgidhfaa
