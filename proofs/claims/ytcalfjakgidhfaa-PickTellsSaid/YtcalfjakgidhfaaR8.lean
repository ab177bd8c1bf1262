/- The document's answers to a choice: letterlockref13.Get. (Written by gr13.py.) -/
import Derived.Test.YtcalfjakgidhfaaR7
import Derived.Test.YtcalfjakgidhfaaP1
namespace Go.Proofs.Ytcalfjakgidhfaa
open Go.RowKit
set_option linter.unusedVariables false
set_option linter.unusedSimpArgs false

def RS.ans (R : RS) (c : Ch) (key : ByteArray) : ByteArray × Int :=
  if c.kind = 115 then (if c.back < 0 ∨ ((R.vers key).length : Int) ≤ c.back then (ByteArray.empty, 4) else ((R.vers key).getD ((R.vers key).length - 1 - c.back.toNat) ByteArray.empty, 0))
  else if c.kind = 100 then (ByteArray.empty, 4) else if c.kind = 120 then (R.get c.key, R.getErr c.key)
  else if c.kind = 98 then (if 40000 < (c.bytes.size : Int) then (ByteArray.empty, 10) else (c.bytes, 0)) else (R.get key, R.getErr key)
theorem new_fine : RS.new.fine := fun x hx => by simp [RS.new] at hx

set_option maxRecDepth 100000 in
set_option maxHeartbeats 800000 in
theorem r13_s {w : World} {v : Value} {R : RS} {G : Nat → Prop} (h : IsRef w v R G) (hf : R.fine) (key : ByteArray) (c : Ch) (hk : c.kind = 115) :
    Calls Try.prog 35 #[v, .string key, .agg #[.int .u8 c.kind, .int .i64 c.back, .string c.key, .string c.bytes]] w fun e w' => e = .returned (.tuple #[.string (R.ans c key).1, .int .i64 (R.ans c key).2]) ∧ Below w.heap.size w w' := by
  obtain ⟨kind, back, ky, bytes⟩ := c
  obtain ⟨b, rfl⟩ := h.ptr
  dsimp only at *
  subst hk
  obtain ⟨r, hr⟩ : ∃ r, R.ans ⟨115, back, ky, bytes⟩ key = r := ⟨_, rfl⟩
  have hr' := hr
  unfold RS.ans at hr'
  dsimp only at hr'
  rw [if_pos rfl] at hr'
  rw [hr]
  have HR := Lib.hid hr'
  clear hr hr'
  have HB0 : Hid (Below w.heap.size w (w.alloc (.cells #[.int .u8 115, .int .i64 back, .string ky, .string bytes] 61))) := (Below.refl w.heap.size w).alloc (Nat.le_refl _) _
  have h0 : (w.alloc (.cells #[.int .u8 115, .int .i64 back, .string ky, .string bytes] 61)).heap[w.heap.size]? = some (.cells #[.int .u8 115, .int .i64 back, .string ky, .string bytes] 61 (0, 0)) := (MapKept.heap_alloc w _).1
  have hR0 := Lib.hid (h.keep (Keep.alloc (fun _ => False) w (.cells #[.int .u8 115, .int .i64 back, .string ky, .string bytes] 61)) fun _ _ e => e)
  have HW := HB0
  clear h
  have c0 := cell_of_row (w.alloc (.cells #[.int .u8 115, .int .i64 back, .string ky, .string bytes] 61)) w.heap.size 0 _ _ _ h0
  have c1 := cell_of_row (w.alloc (.cells #[.int .u8 115, .int .i64 back, .string ky, .string bytes] 61)) w.heap.size 1 _ _ _ h0
  have c2 := cell_of_row (w.alloc (.cells #[.int .u8 115, .int .i64 back, .string ky, .string bytes] 61)) w.heap.size 2 _ _ _ h0
  have c3 := cell_of_row (w.alloc (.cells #[.int .u8 115, .int .i64 back, .string ky, .string bytes] 61)) w.heap.size 3 _ _ _ h0
  simp only [List.getElem?_toArray, List.getElem?_cons_zero, List.getElem?_cons_succ] at c0 c1 c2 c3
  have H00 := Lib.hid h0
  clear h0
  go_enter Try.func35, Try.ntmps35
  go_wp2_with fail
  refine (ref_versions hR0.out hf key).mono ?_
  rintro e w1 ⟨v1, rfl, hown, hb1⟩
  obtain ⟨A, cp, rfl, hlc, hmx, hcell⟩ := strs_own hown
  have c1' := (Keep.of_below hb1 (F := fun _ => False)).cell c1 (fun e => e)
  have HB1 : Hid (Below w.heap.size w w1) := HW.out.trans (hb1.mono HW.out.size)
  clear hown hb1 c0 c1 c2 c3
  obtain ⟨l, hl⟩ : ∃ l, R.vers key = l := ⟨_, rfl⟩
  rw [hl] at HR hlc hmx hcell ⊢
  clear hl
  by_cases h0 : back < 0
  · have hr : (ByteArray.empty, (4 : Int)) = r := by have := HR.out; rwa [if_pos (Or.inl h0)] at this
    subst hr
    clear HR
    go_wp2_with fail
    go_ret2
    exact ⟨rfl, HB1.out⟩
  · by_cases h1 : (l.length : Int) ≤ back
    · have hr : (ByteArray.empty, (4 : Int)) = r := by have := HR.out; rwa [if_pos (Or.inr h1)] at this
      subst hr
      clear HR
      go_wp2_with fail
      go_ret2
      exact ⟨rfl, HB1.out⟩
    · obtain ⟨n, rfl⟩ : ∃ n : Nat, back = n := ⟨back.toNat, by omega⟩
      have hn : n < l.length := by omega
      obtain ⟨m, hm⟩ : ∃ m, l.length = n + 1 + m := ⟨l.length - (n + 1), by omega⟩
      obtain ⟨s, hs⟩ : ∃ s, l[m]? = some s := ⟨l[m], List.getElem?_eq_getElem (by omega)⟩
      obtain ⟨bb, off, rfl, hc2⟩ := hcell (by omega)
      have hc3 := hc2 m s hs
      have hr : (s, (0 : Int)) = r := by
        have := HR.out
        rw [if_neg (by omega)] at this
        rw [← this, hm, show n + 1 + m - 1 - ((n : Nat) : Int).toNat = m by omega, List.getD_eq_getElem?_getD, hs]; rfl
      subst hr
      clear HR hc2 hcell
      have hlen : (l.length : Int) = n + 1 + m := by omega
      have e1 : (l.length : Int) - 1 = n + m := by omega
      have e2 : (l.length : Int) - 1 - n = m := by omega
      go_wp2_with fail
      go_ret2
      exact ⟨rfl, HB1.out⟩

set_option maxRecDepth 100000 in
set_option maxHeartbeats 800000 in
theorem r13_d {w : World} {v : Value} {R : RS} {G : Nat → Prop} (h : IsRef w v R G) (hf : R.fine) (key : ByteArray) (c : Ch) (hk : c.kind = 100) :
    Calls Try.prog 35 #[v, .string key, .agg #[.int .u8 c.kind, .int .i64 c.back, .string c.key, .string c.bytes]] w fun e w' => e = .returned (.tuple #[.string (R.ans c key).1, .int .i64 (R.ans c key).2]) ∧ Below w.heap.size w w' := by
  obtain ⟨kind, back, ky, bytes⟩ := c
  obtain ⟨b, rfl⟩ := h.ptr
  dsimp only at *
  subst hk
  obtain ⟨r, hr⟩ : ∃ r, R.ans ⟨100, back, ky, bytes⟩ key = r := ⟨_, rfl⟩
  have hr' := hr
  unfold RS.ans at hr'
  dsimp only at hr'
  rw [if_neg (by decide), if_pos rfl] at hr'
  rw [hr]
  have HR := Lib.hid hr'
  clear hr hr'
  have HB0 : Hid (Below w.heap.size w (w.alloc (.cells #[.int .u8 100, .int .i64 back, .string ky, .string bytes] 61))) := (Below.refl w.heap.size w).alloc (Nat.le_refl _) _
  have h0 : (w.alloc (.cells #[.int .u8 100, .int .i64 back, .string ky, .string bytes] 61)).heap[w.heap.size]? = some (.cells #[.int .u8 100, .int .i64 back, .string ky, .string bytes] 61 (0, 0)) := (MapKept.heap_alloc w _).1
  have hR0 := Lib.hid (h.keep (Keep.alloc (fun _ => False) w (.cells #[.int .u8 100, .int .i64 back, .string ky, .string bytes] 61)) fun _ _ e => e)
  have HW := HB0
  clear h
  have c0 := cell_of_row (w.alloc (.cells #[.int .u8 100, .int .i64 back, .string ky, .string bytes] 61)) w.heap.size 0 _ _ _ h0
  have c1 := cell_of_row (w.alloc (.cells #[.int .u8 100, .int .i64 back, .string ky, .string bytes] 61)) w.heap.size 1 _ _ _ h0
  have c2 := cell_of_row (w.alloc (.cells #[.int .u8 100, .int .i64 back, .string ky, .string bytes] 61)) w.heap.size 2 _ _ _ h0
  have c3 := cell_of_row (w.alloc (.cells #[.int .u8 100, .int .i64 back, .string ky, .string bytes] 61)) w.heap.size 3 _ _ _ h0
  simp only [List.getElem?_toArray, List.getElem?_cons_zero, List.getElem?_cons_succ] at c0 c1 c2 c3
  have H00 := Lib.hid h0
  clear h0
  go_enter Try.func35, Try.ntmps35
  go_wp2_with fail
  go_ret2
  exact ⟨by rw [← HR.out]; rfl, HW.out⟩

set_option maxRecDepth 100000 in
set_option maxHeartbeats 800000 in
theorem r13_x {w : World} {v : Value} {R : RS} {G : Nat → Prop} (h : IsRef w v R G) (hf : R.fine) (key : ByteArray) (c : Ch) (hk : c.kind = 120) :
    Calls Try.prog 35 #[v, .string key, .agg #[.int .u8 c.kind, .int .i64 c.back, .string c.key, .string c.bytes]] w fun e w' => e = .returned (.tuple #[.string (R.ans c key).1, .int .i64 (R.ans c key).2]) ∧ Below w.heap.size w w' := by
  obtain ⟨kind, back, ky, bytes⟩ := c
  obtain ⟨b, rfl⟩ := h.ptr
  dsimp only at *
  subst hk
  obtain ⟨r, hr⟩ : ∃ r, R.ans ⟨120, back, ky, bytes⟩ key = r := ⟨_, rfl⟩
  have hr' := hr
  unfold RS.ans at hr'
  dsimp only at hr'
  rw [if_neg (by decide), if_neg (by decide), if_pos rfl] at hr'
  rw [hr]
  have HR := Lib.hid hr'
  clear hr hr'
  have HB0 : Hid (Below w.heap.size w (w.alloc (.cells #[.int .u8 120, .int .i64 back, .string ky, .string bytes] 61))) := (Below.refl w.heap.size w).alloc (Nat.le_refl _) _
  have h0 : (w.alloc (.cells #[.int .u8 120, .int .i64 back, .string ky, .string bytes] 61)).heap[w.heap.size]? = some (.cells #[.int .u8 120, .int .i64 back, .string ky, .string bytes] 61 (0, 0)) := (MapKept.heap_alloc w _).1
  have hR0 := Lib.hid (h.keep (Keep.alloc (fun _ => False) w (.cells #[.int .u8 120, .int .i64 back, .string ky, .string bytes] 61)) fun _ _ e => e)
  have HW := HB0
  clear h
  have c0 := cell_of_row (w.alloc (.cells #[.int .u8 120, .int .i64 back, .string ky, .string bytes] 61)) w.heap.size 0 _ _ _ h0
  have c1 := cell_of_row (w.alloc (.cells #[.int .u8 120, .int .i64 back, .string ky, .string bytes] 61)) w.heap.size 1 _ _ _ h0
  have c2 := cell_of_row (w.alloc (.cells #[.int .u8 120, .int .i64 back, .string ky, .string bytes] 61)) w.heap.size 2 _ _ _ h0
  have c3 := cell_of_row (w.alloc (.cells #[.int .u8 120, .int .i64 back, .string ky, .string bytes] 61)) w.heap.size 3 _ _ _ h0
  simp only [List.getElem?_toArray, List.getElem?_cons_zero, List.getElem?_cons_succ] at c0 c1 c2 c3
  have H00 := Lib.hid h0
  clear h0
  go_enter Try.func35, Try.ntmps35
  go_wp2_with fail
  refine (ref_get hR0.out hf ky).mono ?_
  rintro e w1 ⟨rfl, hd1⟩
  have HB1 : Hid (Below w.heap.size w w1) := HW.out.trans (hd1.below.mono HW.out.size)
  clear hd1
  go_wp2_with fail
  go_ret2
  exact ⟨by rw [← HR.out]; rfl, HB1.out⟩

set_option maxRecDepth 100000 in
set_option maxHeartbeats 800000 in
theorem r13_b {w : World} {v : Value} {R : RS} {G : Nat → Prop} (h : IsRef w v R G) (hf : R.fine) (key : ByteArray) (c : Ch) (hk : c.kind = 98) :
    Calls Try.prog 35 #[v, .string key, .agg #[.int .u8 c.kind, .int .i64 c.back, .string c.key, .string c.bytes]] w fun e w' => e = .returned (.tuple #[.string (R.ans c key).1, .int .i64 (R.ans c key).2]) ∧ Below w.heap.size w w' := by
  obtain ⟨kind, back, ky, bytes⟩ := c
  obtain ⟨b, rfl⟩ := h.ptr
  dsimp only at *
  subst hk
  obtain ⟨r, hr⟩ : ∃ r, R.ans ⟨98, back, ky, bytes⟩ key = r := ⟨_, rfl⟩
  have hr' := hr
  unfold RS.ans at hr'
  dsimp only at hr'
  rw [if_neg (by decide), if_neg (by decide), if_neg (by decide), if_pos rfl] at hr'
  rw [hr]
  have HR := Lib.hid hr'
  clear hr hr'
  have HB0 : Hid (Below w.heap.size w (w.alloc (.cells #[.int .u8 98, .int .i64 back, .string ky, .string bytes] 61))) := (Below.refl w.heap.size w).alloc (Nat.le_refl _) _
  have h0 : (w.alloc (.cells #[.int .u8 98, .int .i64 back, .string ky, .string bytes] 61)).heap[w.heap.size]? = some (.cells #[.int .u8 98, .int .i64 back, .string ky, .string bytes] 61 (0, 0)) := (MapKept.heap_alloc w _).1
  have hR0 := Lib.hid (h.keep (Keep.alloc (fun _ => False) w (.cells #[.int .u8 98, .int .i64 back, .string ky, .string bytes] 61)) fun _ _ e => e)
  have HW := HB0
  clear h
  have c0 := cell_of_row (w.alloc (.cells #[.int .u8 98, .int .i64 back, .string ky, .string bytes] 61)) w.heap.size 0 _ _ _ h0
  have c1 := cell_of_row (w.alloc (.cells #[.int .u8 98, .int .i64 back, .string ky, .string bytes] 61)) w.heap.size 1 _ _ _ h0
  have c2 := cell_of_row (w.alloc (.cells #[.int .u8 98, .int .i64 back, .string ky, .string bytes] 61)) w.heap.size 2 _ _ _ h0
  have c3 := cell_of_row (w.alloc (.cells #[.int .u8 98, .int .i64 back, .string ky, .string bytes] 61)) w.heap.size 3 _ _ _ h0
  simp only [List.getElem?_toArray, List.getElem?_cons_zero, List.getElem?_cons_succ] at c0 c1 c2 c3
  have H00 := Lib.hid h0
  clear h0
  go_enter Try.func35, Try.ntmps35
  by_cases hb : 40000 < (bytes.size : Int)
  · have hr : (ByteArray.empty, (10 : Int)) = r := by have := HR.out; rwa [if_pos hb] at this
    subst hr
    clear HR
    go_wp2_with fail
    go_ret2
    exact ⟨rfl, HW.out⟩
  · have hr : (bytes, (0 : Int)) = r := by have := HR.out; rwa [if_neg hb] at this
    subst hr
    clear HR
    go_wp2_with fail
    go_ret2
    exact ⟨rfl, HW.out⟩

set_option maxRecDepth 100000 in
set_option maxHeartbeats 800000 in
theorem r13_h {w : World} {v : Value} {R : RS} {G : Nat → Prop} (h : IsRef w v R G) (hf : R.fine) (key : ByteArray) (c : Ch) (h1 : c.kind ≠ 115) (h2 : c.kind ≠ 100) (h3 : c.kind ≠ 120) (h4 : c.kind ≠ 98) :
    Calls Try.prog 35 #[v, .string key, .agg #[.int .u8 c.kind, .int .i64 c.back, .string c.key, .string c.bytes]] w fun e w' => e = .returned (.tuple #[.string (R.ans c key).1, .int .i64 (R.ans c key).2]) ∧ Below w.heap.size w w' := by
  obtain ⟨kind, back, ky, bytes⟩ := c
  obtain ⟨b, rfl⟩ := h.ptr
  dsimp only at *
  obtain ⟨r, hr⟩ : ∃ r, R.ans ⟨kind, back, ky, bytes⟩ key = r := ⟨_, rfl⟩
  have hr' := hr
  unfold RS.ans at hr'
  dsimp only at hr'
  rw [if_neg h1, if_neg h2, if_neg h3, if_neg h4] at hr'
  rw [hr]
  have HR := Lib.hid hr'
  clear hr hr'
  have g1 : (kind == 115) = false := by simp [h1]
  have g2 : (kind == 100) = false := by simp [h2]
  have g3 : (kind == 120) = false := by simp [h3]
  have g4 : (kind == 98) = false := by simp [h4]
  have HB0 : Hid (Below w.heap.size w (w.alloc (.cells #[.int .u8 kind, .int .i64 back, .string ky, .string bytes] 61))) := (Below.refl w.heap.size w).alloc (Nat.le_refl _) _
  have h0 : (w.alloc (.cells #[.int .u8 kind, .int .i64 back, .string ky, .string bytes] 61)).heap[w.heap.size]? = some (.cells #[.int .u8 kind, .int .i64 back, .string ky, .string bytes] 61 (0, 0)) := (MapKept.heap_alloc w _).1
  have hR0 := Lib.hid (h.keep (Keep.alloc (fun _ => False) w (.cells #[.int .u8 kind, .int .i64 back, .string ky, .string bytes] 61)) fun _ _ e => e)
  have HW := HB0
  clear h
  have c0 := cell_of_row (w.alloc (.cells #[.int .u8 kind, .int .i64 back, .string ky, .string bytes] 61)) w.heap.size 0 _ _ _ h0
  have c1 := cell_of_row (w.alloc (.cells #[.int .u8 kind, .int .i64 back, .string ky, .string bytes] 61)) w.heap.size 1 _ _ _ h0
  have c2 := cell_of_row (w.alloc (.cells #[.int .u8 kind, .int .i64 back, .string ky, .string bytes] 61)) w.heap.size 2 _ _ _ h0
  have c3 := cell_of_row (w.alloc (.cells #[.int .u8 kind, .int .i64 back, .string ky, .string bytes] 61)) w.heap.size 3 _ _ _ h0
  simp only [List.getElem?_toArray, List.getElem?_cons_zero, List.getElem?_cons_succ] at c0 c1 c2 c3
  have H00 := Lib.hid h0
  clear h0
  go_enter Try.func35, Try.ntmps35
  go_wp2_with fail
  refine (ref_get hR0.out hf key).mono ?_
  rintro e w1 ⟨rfl, hd1⟩
  have HB1 : Hid (Below w.heap.size w w1) := HW.out.trans (hd1.below.mono HW.out.size)
  clear hd1
  go_wp2_with fail
  go_ret2
  exact ⟨by rw [← HR.out]; rfl, HB1.out⟩

set_option maxRecDepth 100000 in
set_option maxHeartbeats 800000 in
theorem r13N_s (w : World) (key : ByteArray) (c : Ch) (hk : c.kind = 115) :
    Calls Try.prog 35 #[.pointer none, .string key, .agg #[.int .u8 c.kind, .int .i64 c.back, .string c.key, .string c.bytes]] w fun e w' => e = .returned (.tuple #[.string (RS.new.ans c key).1, .int .i64 (RS.new.ans c key).2]) ∧ Below w.heap.size w w' := by
  obtain ⟨kind, back, ky, bytes⟩ := c
  dsimp only at *
  have hf := new_fine
  obtain ⟨R, hR⟩ : ∃ R, RS.new = R := ⟨_, rfl⟩
  rw [hR] at hf ⊢
  have HRN := Lib.hid hR
  clear hR
  subst hk
  obtain ⟨r, hr⟩ : ∃ r, R.ans ⟨115, back, ky, bytes⟩ key = r := ⟨_, rfl⟩
  have hr' := hr
  unfold RS.ans at hr'
  dsimp only at hr'
  rw [if_pos rfl] at hr'
  rw [hr]
  have HR := Lib.hid hr'
  clear hr hr'
  have HB0 : Hid (Below w.heap.size w (w.alloc (.cells #[.int .u8 115, .int .i64 back, .string ky, .string bytes] 61))) := (Below.refl w.heap.size w).alloc (Nat.le_refl _) _
  have h0 : (w.alloc (.cells #[.int .u8 115, .int .i64 back, .string ky, .string bytes] 61)).heap[w.heap.size]? = some (.cells #[.int .u8 115, .int .i64 back, .string ky, .string bytes] 61 (0, 0)) := (MapKept.heap_alloc w _).1
  have H0 := Lib.hid h0
  clear h0
  go_enter Try.func35, Try.ntmps35
  go_wp2_with fail
  refine (ref_new _).mono ?_
  rintro e w0 ⟨v, rfl, h, hb0⟩
  rw [HRN.out] at h
  obtain ⟨b, rfl⟩ := h.ptr
  have h0 : w0.heap[w.heap.size]? = some (.cells #[.int .u8 115, .int .i64 back, .string ky, .string bytes] 61 (0, 0)) := (hb0.block _ (by simp)).trans H0.out
  have HW : Hid (Below w.heap.size w w0) := HB0.out.trans (hb0.mono (by simp))
  have hR0 := Lib.hid h
  clear h hb0
  have c0 := cell_of_row w0 w.heap.size 0 _ _ _ h0
  have c1 := cell_of_row w0 w.heap.size 1 _ _ _ h0
  have c2 := cell_of_row w0 w.heap.size 2 _ _ _ h0
  have c3 := cell_of_row w0 w.heap.size 3 _ _ _ h0
  simp only [List.getElem?_toArray, List.getElem?_cons_zero, List.getElem?_cons_succ] at c0 c1 c2 c3
  have H00 := Lib.hid h0
  clear h0
  go_wp2_with fail
  refine (ref_versions hR0.out hf key).mono ?_
  rintro e w1 ⟨v1, rfl, hown, hb1⟩
  obtain ⟨A, cp, rfl, hlc, hmx, hcell⟩ := strs_own hown
  have c1' := (Keep.of_below hb1 (F := fun _ => False)).cell c1 (fun e => e)
  have HB1 : Hid (Below w.heap.size w w1) := HW.out.trans (hb1.mono HW.out.size)
  clear hown hb1 c0 c1 c2 c3
  obtain ⟨l, hl⟩ : ∃ l, R.vers key = l := ⟨_, rfl⟩
  rw [hl] at HR hlc hmx hcell ⊢
  clear hl
  by_cases h0 : back < 0
  · have hr : (ByteArray.empty, (4 : Int)) = r := by have := HR.out; rwa [if_pos (Or.inl h0)] at this
    subst hr
    clear HR
    go_wp2_with fail
    go_ret2
    exact ⟨rfl, HB1.out⟩
  · by_cases h1 : (l.length : Int) ≤ back
    · have hr : (ByteArray.empty, (4 : Int)) = r := by have := HR.out; rwa [if_pos (Or.inr h1)] at this
      subst hr
      clear HR
      go_wp2_with fail
      go_ret2
      exact ⟨rfl, HB1.out⟩
    · obtain ⟨n, rfl⟩ : ∃ n : Nat, back = n := ⟨back.toNat, by omega⟩
      have hn : n < l.length := by omega
      obtain ⟨m, hm⟩ : ∃ m, l.length = n + 1 + m := ⟨l.length - (n + 1), by omega⟩
      obtain ⟨s, hs⟩ : ∃ s, l[m]? = some s := ⟨l[m], List.getElem?_eq_getElem (by omega)⟩
      obtain ⟨bb, off, rfl, hc2⟩ := hcell (by omega)
      have hc3 := hc2 m s hs
      have hr : (s, (0 : Int)) = r := by
        have := HR.out
        rw [if_neg (by omega)] at this
        rw [← this, hm, show n + 1 + m - 1 - ((n : Nat) : Int).toNat = m by omega, List.getD_eq_getElem?_getD, hs]; rfl
      subst hr
      clear HR hc2 hcell
      have hlen : (l.length : Int) = n + 1 + m := by omega
      have e1 : (l.length : Int) - 1 = n + m := by omega
      have e2 : (l.length : Int) - 1 - n = m := by omega
      go_wp2_with fail
      go_ret2
      exact ⟨rfl, HB1.out⟩

set_option maxRecDepth 100000 in
set_option maxHeartbeats 800000 in
theorem r13N_d (w : World) (key : ByteArray) (c : Ch) (hk : c.kind = 100) :
    Calls Try.prog 35 #[.pointer none, .string key, .agg #[.int .u8 c.kind, .int .i64 c.back, .string c.key, .string c.bytes]] w fun e w' => e = .returned (.tuple #[.string (RS.new.ans c key).1, .int .i64 (RS.new.ans c key).2]) ∧ Below w.heap.size w w' := by
  obtain ⟨kind, back, ky, bytes⟩ := c
  dsimp only at *
  have hf := new_fine
  obtain ⟨R, hR⟩ : ∃ R, RS.new = R := ⟨_, rfl⟩
  rw [hR] at hf ⊢
  have HRN := Lib.hid hR
  clear hR
  subst hk
  obtain ⟨r, hr⟩ : ∃ r, R.ans ⟨100, back, ky, bytes⟩ key = r := ⟨_, rfl⟩
  have hr' := hr
  unfold RS.ans at hr'
  dsimp only at hr'
  rw [if_neg (by decide), if_pos rfl] at hr'
  rw [hr]
  have HR := Lib.hid hr'
  clear hr hr'
  have HB0 : Hid (Below w.heap.size w (w.alloc (.cells #[.int .u8 100, .int .i64 back, .string ky, .string bytes] 61))) := (Below.refl w.heap.size w).alloc (Nat.le_refl _) _
  have h0 : (w.alloc (.cells #[.int .u8 100, .int .i64 back, .string ky, .string bytes] 61)).heap[w.heap.size]? = some (.cells #[.int .u8 100, .int .i64 back, .string ky, .string bytes] 61 (0, 0)) := (MapKept.heap_alloc w _).1
  have H0 := Lib.hid h0
  clear h0
  go_enter Try.func35, Try.ntmps35
  go_wp2_with fail
  refine (ref_new _).mono ?_
  rintro e w0 ⟨v, rfl, h, hb0⟩
  rw [HRN.out] at h
  obtain ⟨b, rfl⟩ := h.ptr
  have h0 : w0.heap[w.heap.size]? = some (.cells #[.int .u8 100, .int .i64 back, .string ky, .string bytes] 61 (0, 0)) := (hb0.block _ (by simp)).trans H0.out
  have HW : Hid (Below w.heap.size w w0) := HB0.out.trans (hb0.mono (by simp))
  have hR0 := Lib.hid h
  clear h hb0
  have c0 := cell_of_row w0 w.heap.size 0 _ _ _ h0
  have c1 := cell_of_row w0 w.heap.size 1 _ _ _ h0
  have c2 := cell_of_row w0 w.heap.size 2 _ _ _ h0
  have c3 := cell_of_row w0 w.heap.size 3 _ _ _ h0
  simp only [List.getElem?_toArray, List.getElem?_cons_zero, List.getElem?_cons_succ] at c0 c1 c2 c3
  have H00 := Lib.hid h0
  clear h0
  go_wp2_with fail
  go_ret2
  exact ⟨by rw [← HR.out]; rfl, HW.out⟩

set_option maxRecDepth 100000 in
set_option maxHeartbeats 800000 in
theorem r13N_x (w : World) (key : ByteArray) (c : Ch) (hk : c.kind = 120) :
    Calls Try.prog 35 #[.pointer none, .string key, .agg #[.int .u8 c.kind, .int .i64 c.back, .string c.key, .string c.bytes]] w fun e w' => e = .returned (.tuple #[.string (RS.new.ans c key).1, .int .i64 (RS.new.ans c key).2]) ∧ Below w.heap.size w w' := by
  obtain ⟨kind, back, ky, bytes⟩ := c
  dsimp only at *
  have hf := new_fine
  obtain ⟨R, hR⟩ : ∃ R, RS.new = R := ⟨_, rfl⟩
  rw [hR] at hf ⊢
  have HRN := Lib.hid hR
  clear hR
  subst hk
  obtain ⟨r, hr⟩ : ∃ r, R.ans ⟨120, back, ky, bytes⟩ key = r := ⟨_, rfl⟩
  have hr' := hr
  unfold RS.ans at hr'
  dsimp only at hr'
  rw [if_neg (by decide), if_neg (by decide), if_pos rfl] at hr'
  rw [hr]
  have HR := Lib.hid hr'
  clear hr hr'
  have HB0 : Hid (Below w.heap.size w (w.alloc (.cells #[.int .u8 120, .int .i64 back, .string ky, .string bytes] 61))) := (Below.refl w.heap.size w).alloc (Nat.le_refl _) _
  have h0 : (w.alloc (.cells #[.int .u8 120, .int .i64 back, .string ky, .string bytes] 61)).heap[w.heap.size]? = some (.cells #[.int .u8 120, .int .i64 back, .string ky, .string bytes] 61 (0, 0)) := (MapKept.heap_alloc w _).1
  have H0 := Lib.hid h0
  clear h0
  go_enter Try.func35, Try.ntmps35
  go_wp2_with fail
  refine (ref_new _).mono ?_
  rintro e w0 ⟨v, rfl, h, hb0⟩
  rw [HRN.out] at h
  obtain ⟨b, rfl⟩ := h.ptr
  have h0 : w0.heap[w.heap.size]? = some (.cells #[.int .u8 120, .int .i64 back, .string ky, .string bytes] 61 (0, 0)) := (hb0.block _ (by simp)).trans H0.out
  have HW : Hid (Below w.heap.size w w0) := HB0.out.trans (hb0.mono (by simp))
  have hR0 := Lib.hid h
  clear h hb0
  have c0 := cell_of_row w0 w.heap.size 0 _ _ _ h0
  have c1 := cell_of_row w0 w.heap.size 1 _ _ _ h0
  have c2 := cell_of_row w0 w.heap.size 2 _ _ _ h0
  have c3 := cell_of_row w0 w.heap.size 3 _ _ _ h0
  simp only [List.getElem?_toArray, List.getElem?_cons_zero, List.getElem?_cons_succ] at c0 c1 c2 c3
  have H00 := Lib.hid h0
  clear h0
  go_wp2_with fail
  refine (ref_get hR0.out hf ky).mono ?_
  rintro e w1 ⟨rfl, hd1⟩
  have HB1 : Hid (Below w.heap.size w w1) := HW.out.trans (hd1.below.mono HW.out.size)
  clear hd1
  go_wp2_with fail
  go_ret2
  exact ⟨by rw [← HR.out]; rfl, HB1.out⟩

set_option maxRecDepth 100000 in
set_option maxHeartbeats 800000 in
theorem r13N_b (w : World) (key : ByteArray) (c : Ch) (hk : c.kind = 98) :
    Calls Try.prog 35 #[.pointer none, .string key, .agg #[.int .u8 c.kind, .int .i64 c.back, .string c.key, .string c.bytes]] w fun e w' => e = .returned (.tuple #[.string (RS.new.ans c key).1, .int .i64 (RS.new.ans c key).2]) ∧ Below w.heap.size w w' := by
  obtain ⟨kind, back, ky, bytes⟩ := c
  dsimp only at *
  have hf := new_fine
  obtain ⟨R, hR⟩ : ∃ R, RS.new = R := ⟨_, rfl⟩
  rw [hR] at hf ⊢
  have HRN := Lib.hid hR
  clear hR
  subst hk
  obtain ⟨r, hr⟩ : ∃ r, R.ans ⟨98, back, ky, bytes⟩ key = r := ⟨_, rfl⟩
  have hr' := hr
  unfold RS.ans at hr'
  dsimp only at hr'
  rw [if_neg (by decide), if_neg (by decide), if_neg (by decide), if_pos rfl] at hr'
  rw [hr]
  have HR := Lib.hid hr'
  clear hr hr'
  have HB0 : Hid (Below w.heap.size w (w.alloc (.cells #[.int .u8 98, .int .i64 back, .string ky, .string bytes] 61))) := (Below.refl w.heap.size w).alloc (Nat.le_refl _) _
  have h0 : (w.alloc (.cells #[.int .u8 98, .int .i64 back, .string ky, .string bytes] 61)).heap[w.heap.size]? = some (.cells #[.int .u8 98, .int .i64 back, .string ky, .string bytes] 61 (0, 0)) := (MapKept.heap_alloc w _).1
  have H0 := Lib.hid h0
  clear h0
  go_enter Try.func35, Try.ntmps35
  go_wp2_with fail
  refine (ref_new _).mono ?_
  rintro e w0 ⟨v, rfl, h, hb0⟩
  rw [HRN.out] at h
  obtain ⟨b, rfl⟩ := h.ptr
  have h0 : w0.heap[w.heap.size]? = some (.cells #[.int .u8 98, .int .i64 back, .string ky, .string bytes] 61 (0, 0)) := (hb0.block _ (by simp)).trans H0.out
  have HW : Hid (Below w.heap.size w w0) := HB0.out.trans (hb0.mono (by simp))
  have hR0 := Lib.hid h
  clear h hb0
  have c0 := cell_of_row w0 w.heap.size 0 _ _ _ h0
  have c1 := cell_of_row w0 w.heap.size 1 _ _ _ h0
  have c2 := cell_of_row w0 w.heap.size 2 _ _ _ h0
  have c3 := cell_of_row w0 w.heap.size 3 _ _ _ h0
  simp only [List.getElem?_toArray, List.getElem?_cons_zero, List.getElem?_cons_succ] at c0 c1 c2 c3
  have H00 := Lib.hid h0
  clear h0
  by_cases hb : 40000 < (bytes.size : Int)
  · have hr : (ByteArray.empty, (10 : Int)) = r := by have := HR.out; rwa [if_pos hb] at this
    subst hr
    clear HR
    go_wp2_with fail
    go_ret2
    exact ⟨rfl, HW.out⟩
  · have hr : (bytes, (0 : Int)) = r := by have := HR.out; rwa [if_neg hb] at this
    subst hr
    clear HR
    go_wp2_with fail
    go_ret2
    exact ⟨rfl, HW.out⟩

set_option maxRecDepth 100000 in
set_option maxHeartbeats 800000 in
theorem r13N_h (w : World) (key : ByteArray) (c : Ch) (h1 : c.kind ≠ 115) (h2 : c.kind ≠ 100) (h3 : c.kind ≠ 120) (h4 : c.kind ≠ 98) :
    Calls Try.prog 35 #[.pointer none, .string key, .agg #[.int .u8 c.kind, .int .i64 c.back, .string c.key, .string c.bytes]] w fun e w' => e = .returned (.tuple #[.string (RS.new.ans c key).1, .int .i64 (RS.new.ans c key).2]) ∧ Below w.heap.size w w' := by
  obtain ⟨kind, back, ky, bytes⟩ := c
  dsimp only at *
  have hf := new_fine
  obtain ⟨R, hR⟩ : ∃ R, RS.new = R := ⟨_, rfl⟩
  rw [hR] at hf ⊢
  have HRN := Lib.hid hR
  clear hR
  obtain ⟨r, hr⟩ : ∃ r, R.ans ⟨kind, back, ky, bytes⟩ key = r := ⟨_, rfl⟩
  have hr' := hr
  unfold RS.ans at hr'
  dsimp only at hr'
  rw [if_neg h1, if_neg h2, if_neg h3, if_neg h4] at hr'
  rw [hr]
  have HR := Lib.hid hr'
  clear hr hr'
  have g1 : (kind == 115) = false := by simp [h1]
  have g2 : (kind == 100) = false := by simp [h2]
  have g3 : (kind == 120) = false := by simp [h3]
  have g4 : (kind == 98) = false := by simp [h4]
  have HB0 : Hid (Below w.heap.size w (w.alloc (.cells #[.int .u8 kind, .int .i64 back, .string ky, .string bytes] 61))) := (Below.refl w.heap.size w).alloc (Nat.le_refl _) _
  have h0 : (w.alloc (.cells #[.int .u8 kind, .int .i64 back, .string ky, .string bytes] 61)).heap[w.heap.size]? = some (.cells #[.int .u8 kind, .int .i64 back, .string ky, .string bytes] 61 (0, 0)) := (MapKept.heap_alloc w _).1
  have H0 := Lib.hid h0
  clear h0
  go_enter Try.func35, Try.ntmps35
  go_wp2_with fail
  refine (ref_new _).mono ?_
  rintro e w0 ⟨v, rfl, h, hb0⟩
  rw [HRN.out] at h
  obtain ⟨b, rfl⟩ := h.ptr
  have h0 : w0.heap[w.heap.size]? = some (.cells #[.int .u8 kind, .int .i64 back, .string ky, .string bytes] 61 (0, 0)) := (hb0.block _ (by simp)).trans H0.out
  have HW : Hid (Below w.heap.size w w0) := HB0.out.trans (hb0.mono (by simp))
  have hR0 := Lib.hid h
  clear h hb0
  have c0 := cell_of_row w0 w.heap.size 0 _ _ _ h0
  have c1 := cell_of_row w0 w.heap.size 1 _ _ _ h0
  have c2 := cell_of_row w0 w.heap.size 2 _ _ _ h0
  have c3 := cell_of_row w0 w.heap.size 3 _ _ _ h0
  simp only [List.getElem?_toArray, List.getElem?_cons_zero, List.getElem?_cons_succ] at c0 c1 c2 c3
  have H00 := Lib.hid h0
  clear h0
  go_wp2_with fail
  refine (ref_get hR0.out hf key).mono ?_
  rintro e w1 ⟨rfl, hd1⟩
  have HB1 : Hid (Below w.heap.size w w1) := HW.out.trans (hd1.below.mono HW.out.size)
  clear hd1
  go_wp2_with fail
  go_ret2
  exact ⟨by rw [← HR.out]; rfl, HB1.out⟩

theorem r13_get {w : World} {v : Value} {R : RS} {G : Nat → Prop} (h : IsRef w v R G) (hf : R.fine) (key : ByteArray) (c : Ch) :
    Calls Try.prog 35 #[v, .string key, .agg #[.int .u8 c.kind, .int .i64 c.back, .string c.key, .string c.bytes]] w fun e w' => e = .returned (.tuple #[.string (R.ans c key).1, .int .i64 (R.ans c key).2]) ∧ Below w.heap.size w w' := by
  by_cases h1 : c.kind = 115
  · exact r13_s h hf key c h1
  by_cases h2 : c.kind = 100
  · exact r13_d h hf key c h2
  by_cases h3 : c.kind = 120
  · exact r13_x h hf key c h3
  by_cases h4 : c.kind = 98
  · exact r13_b h hf key c h4
  exact r13_h h hf key c h1 h2 h3 h4
theorem r13N_get (w : World) (key : ByteArray) (c : Ch) :
    Calls Try.prog 35 #[.pointer none, .string key, .agg #[.int .u8 c.kind, .int .i64 c.back, .string c.key, .string c.bytes]] w fun e w' => e = .returned (.tuple #[.string (RS.new.ans c key).1, .int .i64 (RS.new.ans c key).2]) ∧ Below w.heap.size w w' := by
  by_cases h1 : c.kind = 115
  · exact r13N_s w key c h1
  by_cases h2 : c.kind = 100
  · exact r13N_d w key c h2
  by_cases h3 : c.kind = 120
  · exact r13N_x w key c h3
  by_cases h4 : c.kind = 98
  · exact r13N_b w key c h4
  exact r13N_h w key c h1 h2 h3 h4
end Go.Proofs.Ytcalfjakgidhfaa
