/- The document's Lies, and List. (Turned by program from the pick's own.) -/
import Derived.Test.YtcalfjakgidhfaaR8
namespace Go.Proofs.Ytcalfjakgidhfaa
open Go.RowKit
set_option linter.unusedVariables false
set_option linter.unusedSimpArgs false

def RS.lies (R : RS) (c : Ch) (key : ByteArray) : Bool := !decide ((R.ans c key).1 = R.get key) || !decide ((R.ans c key).2 = R.getErr key)

set_option maxRecDepth 100000 in
set_option maxHeartbeats 800000 in
theorem r13_lies {w : World} {v : Value} {R : RS} {G : Nat → Prop} (h : IsRef w v R G) (hf : R.fine) (key : ByteArray) (c : Ch) :
    Calls Try.prog 37 #[v, .string key, .agg #[.int .u8 c.kind, .int .i64 c.back, .string c.key, .string c.bytes]] w fun e w' => e = .returned (.bool (R.lies c key)) ∧ Below w.heap.size w w' := by
  obtain ⟨b, rfl⟩ := h.ptr
  obtain ⟨r, hr⟩ : ∃ r, R.lies c key = r := ⟨_, rfl⟩
  have hr' := hr
  unfold RS.lies at hr'
  rw [hr]
  have HR := Lib.hid hr'
  clear hr hr'
  go_enter Try.func37, Try.ntmps37
  go_wp2_with fail
  refine (r13_get (h.keep (Keep.alloc (fun _ => False) w _) fun _ _ e => e) hf key c).mono ?_
  rintro e w1 ⟨rfl, hb1⟩
  have hw1 := (Below.refl w.heap.size w).alloc (Nat.le_refl _) (.cells #[.int .u8 c.kind, .int .i64 c.back, .string c.key, .string c.bytes] 61) |>.trans (hb1.mono (by simp))
  have h1 := h.keep (Keep.of_below hw1 (F := fun _ => False)) fun _ _ e => e
  have HB := Lib.hid hw1
  clear hb1 hw1
  go_wp2_with fail
  refine (r13_get h1 hf key ⟨104, 0, ⟨#[]⟩, ⟨#[]⟩⟩).mono ?_
  rintro e w2 ⟨rfl, hb2⟩
  have hw := HB.out.trans (hb2.mono HB.out.size)
  have HW := Lib.hid hw
  clear HB hb2 hw
  have hA : R.ans ⟨104, 0, ⟨#[]⟩, ⟨#[]⟩⟩ key = (R.get key, R.getErr key) := rfl
  rw [hA]
  clear hA
  obtain ⟨⟨s1, e1⟩, ha⟩ : ∃ p, R.ans c key = p := ⟨_, rfl⟩
  obtain ⟨s2, hs2⟩ : ∃ s2, R.get key = s2 := ⟨_, rfl⟩
  obtain ⟨e2, he2⟩ : ∃ e2, R.getErr key = e2 := ⟨_, rfl⟩
  have hx := HR.out
  rw [ha, hs2, he2] at hx
  rw [ha, hs2, he2]
  dsimp only at hx ⊢
  clear HR hs2 he2 ha
  by_cases h3 : s1 = s2
  · subst h3
    by_cases h4 : e1 = e2
    · subst h4
      have h5 : r = false := by rw [← hx]; simp
      subst h5
      clear hx
      go_wp2_with fail
      go_ret
      exact ⟨rfl, HW.out⟩
    · have h5 : r = true := by rw [← hx]; simp [h4]
      have h6 : (e1 != e2) = true := by simp [h4]
      subst h5
      clear hx h4
      go_wp2_with fail
      go_ret
      exact ⟨rfl, HW.out⟩
  · have h5 : r = true := by rw [← hx]; simp [h3]
    have h6 : (s1.toList == s2.toList) = false := by rw [beq_eq_false_iff_ne]; exact fun e => h3 (list_inj e)
    subst h5
    clear hx h3
    go_wp2_with fail
    go_ret
    exact ⟨rfl, HW.out⟩
set_option maxRecDepth 100000 in
set_option maxHeartbeats 800000 in
theorem r13_liesN (w : World) (key : ByteArray) (c : Ch) :
    Calls Try.prog 37 #[.pointer none, .string key, .agg #[.int .u8 c.kind, .int .i64 c.back, .string c.key, .string c.bytes]] w fun e w' => e = .returned (.bool (RS.new.lies c key)) ∧ Below w.heap.size w w' := by
  obtain ⟨R, hS⟩ : ∃ R, RS.new = R := ⟨_, rfl⟩
  rw [hS]
  have HS := Lib.hid hS
  clear hS
  obtain ⟨r, hr⟩ : ∃ r, R.lies c key = r := ⟨_, rfl⟩
  have hr' := hr
  unfold RS.lies at hr'
  rw [hr]
  have HR := Lib.hid hr'
  clear hr hr'
  go_enter Try.func37, Try.ntmps37
  go_wp2_with fail
  refine (r13N_get _ key c).mono ?_
  rintro e w1 ⟨rfl, hb1⟩
  have hw1 := (Below.refl w.heap.size w).alloc (Nat.le_refl _) (.cells #[.int .u8 c.kind, .int .i64 c.back, .string c.key, .string c.bytes] 61) |>.trans (hb1.mono (by simp))
  rw [HS.out]
  have HB := Lib.hid hw1
  clear hb1 hw1
  go_wp2_with fail
  refine (r13N_get _ key ⟨104, 0, ⟨#[]⟩, ⟨#[]⟩⟩).mono ?_
  rintro e w2 ⟨rfl, hb2⟩
  have hw := HB.out.trans (hb2.mono HB.out.size)
  have HW := Lib.hid hw
  clear HB hb2 hw
  rw [HS.out]
  have hA : R.ans ⟨104, 0, ⟨#[]⟩, ⟨#[]⟩⟩ key = (R.get key, R.getErr key) := rfl
  rw [hA]
  clear hA
  obtain ⟨⟨s1, e1⟩, ha⟩ : ∃ p, R.ans c key = p := ⟨_, rfl⟩
  obtain ⟨s2, hs2⟩ : ∃ s2, R.get key = s2 := ⟨_, rfl⟩
  obtain ⟨e2, he2⟩ : ∃ e2, R.getErr key = e2 := ⟨_, rfl⟩
  have hx := HR.out
  rw [ha, hs2, he2] at hx
  rw [ha, hs2, he2]
  dsimp only at hx ⊢
  clear HR hs2 he2 ha
  by_cases h3 : s1 = s2
  · subst h3
    by_cases h4 : e1 = e2
    · subst h4
      have h5 : r = false := by rw [← hx]; simp
      subst h5
      clear hx
      go_wp2_with fail
      go_ret
      exact ⟨rfl, HW.out⟩
    · have h5 : r = true := by rw [← hx]; simp [h4]
      have h6 : (e1 != e2) = true := by simp [h4]
      subst h5
      clear hx h4
      go_wp2_with fail
      go_ret
      exact ⟨rfl, HW.out⟩
  · have h5 : r = true := by rw [← hx]; simp [h3]
    have h6 : (s1.toList == s2.toList) = false := by rw [beq_eq_false_iff_ne]; exact fun e => h3 (list_inj e)
    subst h5
    clear hx h3
    go_wp2_with fail
    go_ret
    exact ⟨rfl, HW.out⟩

set_option maxRecDepth 100000 in
theorem r13_list {w : World} {v : Value} {R : RS} {G : Nat → Prop} (h : IsRef w v R G) (hf : R.fine) (p : ByteArray) (hps : p.size ≤ 9223372036854775807) (c : Ch) (hk : c.kind ≠ 100) :
    Calls Try.prog 36 #[v, .string p, .agg #[.int .u8 c.kind, .int .i64 c.back, .string c.key, .string c.bytes]] w fun e w' => ∃ v', e = .returned v' ∧ w'.ownsRow w.heap.size 9 1 v' (R.list p).length (strV (R.list p)) ∧ Below w.heap.size w w' := by
  obtain ⟨b, rfl⟩ := h.ptr
  obtain ⟨kind, back, ky, bytes⟩ := c
  dsimp only at *
  obtain ⟨B, hB⟩ : ∃ B, B = w.heap.size := ⟨_, rfl⟩
  rw [← hB]
  have HB := Lib.hid hB
  clear hB
  go_enter Try.func36, Try.ntmps36
  go_wp2_with fail
  refine (ref_list (h.keep (Keep.alloc (fun _ => False) w _) fun _ _ e => e) hf p hps).mono ?_
  rintro e w1 ⟨v', rfl, hv, hb1⟩
  have hw1 := (Below.refl w.heap.size w).alloc (Nat.le_refl _) (.cells #[.int .u8 kind, .int .i64 back, .string ky, .string bytes] 61) |>.trans (hb1.mono (by simp))
  have hv1 := World.ownsRow.mono hv (base' := B) (by rw [HB.out]; simp)
  rw [← HB.out] at hw1
  have HW := Lib.hid hw1
  have HV := Lib.hid hv1
  clear hv hb1 hw1 hv1
  go_wp2_with fail
  go_ret
  exact ⟨_, rfl, HV.out, HW.out⟩
theorem r13_list_nil (w : World) (v : Value) (hv : v = .pointer none ∨ ∃ b, v = .pointer (some ⟨b, 0, none⟩)) (p : ByteArray) (c : Ch) (hk : v = .pointer none ∨ c.kind = 100) :
    Calls Try.prog 36 #[v, .string p, .agg #[.int .u8 c.kind, .int .i64 c.back, .string c.key, .string c.bytes]] w fun e w' => e = .returned (.slice none 0 0) ∧ Below w.heap.size w w' := by
  obtain ⟨kind, back, ky, bytes⟩ := c
  dsimp only at *
  have HF := Lib.hid ((Below.refl w.heap.size w).alloc (Nat.le_refl _) (.cells #[.int .u8 kind, .int .i64 back, .string ky, .string bytes] 61))
  rcases hv with rfl | ⟨b, rfl⟩
  · clear hk
    go_enter Try.func36, Try.ntmps36
    go_wp2_with fail
    go_ret
    exact ⟨rfl, HF.out⟩
  · obtain rfl : kind = 100 := hk.resolve_left (by simp)
    clear hk
    go_enter Try.func36, Try.ntmps36
    go_wp2_with fail
    go_ret
    exact ⟨rfl, HF.out⟩
end Go.Proofs.Ytcalfjakgidhfaa
