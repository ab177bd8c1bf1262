/- The law PickNil. -/
import Derived.Test.YtcalfjakgidhfaaL13
namespace Go.Proofs.Ytcalfjakgidhfaa
open Go.RowKit
set_option linter.unusedVariables false
set_option linter.unusedSimpArgs false

theorem new_get (k : ByteArray) : St.new.get k = ByteArray.empty ∧ St.new.getErr k = 4 := ⟨rfl, rfl⟩
theorem new_ans (c : Ch) (k : ByteArray) : ∃ s e, St.new.ans c k = (s, e) ∧ St.new.lies c k = (e != 4) ∧ ((c.kind != 98) = false ∧ (e != 4) = true ∨ (c.kind != 98) = true ∧ (e != 4) = false) := by
  by_cases h : c.kind = 98
  · by_cases hb : 40000 < (c.bytes.size : Int)
    · have e : St.new.ans c k = (ByteArray.empty, 10) := by unfold St.ans; rw [h]; simp [hb]
      exact ⟨_, _, e, by simp [St.lies, e, new_get k], Or.inl ⟨by simp [h], by decide⟩⟩
    · have e : St.new.ans c k = (c.bytes, 0) := by unfold St.ans; rw [h]; simp [hb]
      exact ⟨_, _, e, by simp [St.lies, e, new_get k], Or.inl ⟨by simp [h], by decide⟩⟩
  · have e : St.new.ans c k = (ByteArray.empty, 4) := by
      unfold St.ans
      rw [if_neg h]
      have hv : St.new.versions k = [] := rfl
      rw [hv]
      split
      · rw [if_pos (by simp; omega)]
      · split
        · rfl
        · split <;> rfl
    exact ⟨_, _, e, by simp [St.lies, e, new_get k], Or.inr ⟨by simp [h], by decide⟩⟩

theorem list_new {w : World} {v : Value} {F : Nat → Prop} (h : IsStore w v St.new F) (p : ByteArray) (c : Ch) :
    Calls Try.prog 34 #[v, .string p, .agg #[.int .u8 c.kind, .int .i64 c.back, .string c.key, .string c.bytes]] w fun e w' => ∃ A cp, e = .returned (.slice A 0 cp) ∧ Below w.heap.size w w' := by
  by_cases hk : c.kind = 100
  · exact (pick_list_nil w v (Or.inr h.ptr) p c (Or.inr hk)).mono fun e w' ⟨h1, h2⟩ => ⟨none, 0, h1, h2⟩
  · refine (pick_list h p c hk).mono fun e w' ⟨v', h1, h2, h3⟩ => ?_
    obtain ⟨A, cp, hv, _⟩ := strs_own h2
    have e0 : St.new.list p = [] := by simp [St.list, St.new, akeys, sortB]
    rw [e0] at hv
    exact ⟨A, cp, by rw [h1, hv]; rfl, h3⟩

theorem list_any (w : World) (v : Value) (p : ByteArray) (c : Ch) (h : v = .pointer none ∨ ∃ F, IsStore w v St.new F) :
    Calls Try.prog 34 #[v, .string p, .agg #[.int .u8 c.kind, .int .i64 c.back, .string c.key, .string c.bytes]] w fun e w' => ∃ A cp, e = .returned (.slice A 0 cp) ∧ Below w.heap.size w w' := by
  rcases h with rfl | ⟨F, h⟩
  · exact (pick_list_nil w _ (Or.inl rfl) p c (Or.inl rfl)).mono fun e w' ⟨h1, h2⟩ => ⟨none, 0, h1, h2⟩
  · exact list_new h p c
abbrev chCells (w : World) (a : Nat) (kind back : Int) (ky bytes : ByteArray) : Prop :=
  w.cell? ⟨a, 0, none⟩ = some (.int .u8 kind) ∧ w.cell? ⟨a, 1, none⟩ = some (.int .i64 back) ∧ w.cell? ⟨a, 2, none⟩ = some (.string ky) ∧ w.cell? ⟨a, 3, none⟩ = some (.string bytes)
theorem ch_cells {w : World} {a : Nat} {kind back : Int} {ky bytes : ByteArray} (h : w.heap[a]? = some (.cells #[.int .u8 kind, .int .i64 back, .string ky, .string bytes] 49 (0, 0))) : chCells w a kind back ky bytes :=
  ⟨cell_of_row w a 0 _ _ _ h, cell_of_row w a 1 _ _ _ h, cell_of_row w a 2 _ _ _ h, cell_of_row w a 3 _ _ _ h⟩

set_option maxRecDepth 100000 in
set_option maxHeartbeats 4000000 in
theorem nil_calls (w : World) (c : Ch) (k : Int) (p : ByteArray) (hc : c.key.size ≤ 140737488351232) (_ : c.bytes.size ≤ 140737488351232) (hk0 : -9223372036854775808 ≤ k) (hk1 : k ≤ 9223372036854775807) (hp : p.size ≤ 140737488351232) :
    Calls Try.prog 10 #[.agg #[.int .u8 c.kind, .int .i64 c.back, .string c.key, .string c.bytes], .int .i64 k, .string p] w fun e w' => e = .returned (.bool true) ∧ Below w.heap.size w w' := by
  obtain ⟨s, e0, ha, hl, hcs⟩ := new_ans c (key13 k)
  have HA := Lib.hid ha
  have HL := Lib.hid hl
  clear ha hl
  obtain ⟨kind, back, ky, bytes⟩ := c
  dsimp only at *
  obtain ⟨B, hB⟩ : ∃ B, B = w.heap.size := ⟨_, rfl⟩
  rw [← hB]
  have HB := Lib.hid hB
  clear hB
  have hp' : (p.size : Int) ≤ 140737488351232 := by omega
  have hc' : (ky.size : Int) ≤ 140737488351232 := by omega
  clear hp hc
  go_enter Try.func10, Try.ntmps10
  go_wp2_with fail
  refine (shown13_calls _).mono ?_
  rintro e w1 ⟨rfl, hb1⟩
  have C1 : Hid (w1.heap[w.heap.size]? = some (.cells #[.int .u8 kind, .int .i64 back, .string ky, .string bytes] 49 (0, 0))) := Lib.hid ((hb1.block _ (by simp)).trans (MapKept.heap_alloc w _).1)
  have W1 : Hid (Below w.heap.size w w1) := Lib.hid ((Below.refl w.heap.size w).alloc (Nat.le_refl _) (.cells #[.int .u8 kind, .int .i64 back, .string ky, .string bytes] 49) |>.trans (hb1.mono (by simp)))
  obtain ⟨D, hD⟩ : ∃ D, D = w1.heap.size := ⟨_, rfl⟩
  have HD := Lib.hid hD
  have hlt : ¬ D ≤ w.heap.size := by have := hb1.size; rw [size_alloc] at this; omega
  have HLT := Lib.hid hlt
  clear hb1 hD hlt
  obtain ⟨q0, q1, q2, q3⟩ := ch_cells C1.out
  go_wp2_with fail
  refine (storeB_new w1 D (by rw [HD.out]; exact Nat.le_refl _)).mono ?_
  rintro e w2 ⟨v, rfl, hS, hb⟩
  obtain ⟨b, rfl⟩ := hS.ptr
  have K2 : Hid (Keep (fun k => D ≤ k) w1 w2) := Lib.hid (Keep.of_below hb)
  have S2 := Lib.hid hS
  have C2 := Lib.hid (K2.out.at C1.out HLT.out)
  have Q2 := Lib.hid (ch_cells C2.out)
  have WEND : ∀ wf, Keep (fun k => D ≤ k) w1 wf → Below B w wf := fun wf hk => by
    rw [HB.out]; rw [HD.out] at hk; exact W1.out.trans (hk.new.mono W1.out.size)
  have WE := Lib.hid WEND
  clear hb hS WEND
  clear q0 q1 q2 q3
  obtain ⟨q0, q1, q2, q3⟩ := ch_cells C2.out
  by_cases hx : (50000 : Int) < bytes.size
  · go_wp2_with fail
    go_ret
    exact ⟨rfl, WE.out _ K2.out⟩
  by_cases hy : (1000 : Int) < ky.size + p.size
  · go_wp2_with fail
    go_ret
    exact ⟨rfl, WE.out _ K2.out⟩
  go_wp2_with fail
  clear q0 q1 q2 q3
  go_region_held3 (fun w' => w'.cell? ⟨w.heap.size, 0, none⟩ = some (.int .u8 kind) ∧ w'.cell? ⟨w.heap.size, 1, none⟩ = some (.int .i64 back) ∧ w'.cell? ⟨w.heap.size, 2, none⟩ = some (.string ky) ∧ w'.cell? ⟨w.heap.size, 3, none⟩ = some (.string bytes)) (first | exact Q2.out | exact Q3.out | exact Q4.out) (first
    | (go_at_call 29; refine (keys_calls k _ hk0 hk1).mono ?_; rintro e w3 ⟨rfl, hb'⟩; have hb : Below w2.heap.size w2 w3 := (Below.refl w2.heap.size w2).drew.trans hb'; clear hb'; have K3 : Hid (Keep (fun k => D ≤ k) w1 w3) := Lib.hid (K2.out.trans (Keep.of_below hb (F := fun k => D ≤ k)) fun _ h => Or.inl h); have C3 := Lib.hid (K3.out.at C1.out HLT.out); have S3 := Lib.hid (S2.out.below hb); have Q3 := Lib.hid (ch_cells C3.out); clear hb)
    | (go_at_call 28; refine (pick_getN _ (key13 k) ⟨kind, back, ky, bytes⟩).mono ?_; rintro e w4 ⟨rfl, hb⟩; have K4 : Hid (Keep (fun k => D ≤ k) w1 w4) := Lib.hid (K3.out.trans (Keep.of_below hb (F := fun k => D ≤ k)) fun _ h => Or.inl h); have C4 := Lib.hid (K4.out.at C1.out HLT.out); have S4 := Lib.hid (S3.out.below hb); have Q4 := Lib.hid (ch_cells C4.out); clear hb))
  rw [HA.out]
  go_wp2_with fail
  go_region_held3 (fun w' => w'.cell? ⟨w.heap.size, 0, none⟩ = some (.int .u8 kind) ∧ w'.cell? ⟨w.heap.size, 1, none⟩ = some (.int .i64 back) ∧ w'.cell? ⟨w.heap.size, 2, none⟩ = some (.string ky) ∧ w'.cell? ⟨w.heap.size, 3, none⟩ = some (.string bytes)) (first | exact Q4.out | exact Q5.out | exact Q6.out) (first
    | (go_at_call 29; refine (keys_calls k _ hk0 hk1).mono ?_; rintro e w5 ⟨rfl, hb'⟩; have hb : Below w4.heap.size w4 w5 := (Below.refl w4.heap.size w4).drew.trans hb'; clear hb'; have K5 : Hid (Keep (fun k => D ≤ k) w1 w5) := Lib.hid (K4.out.trans (Keep.of_below hb (F := fun k => D ≤ k)) fun _ h => Or.inl h); have C5 := Lib.hid (K5.out.at C1.out HLT.out); have S5 := Lib.hid (S4.out.below hb); have Q5 := Lib.hid (ch_cells C5.out); clear hb)
    | (go_at_call 28; refine (pick_get S5.out (key13 k) ⟨kind, back, ky, bytes⟩).mono ?_; rintro e w6 ⟨rfl, hb⟩; have K6 : Hid (Keep (fun k => D ≤ k) w1 w6) := Lib.hid (K5.out.trans (Keep.of_below hb (F := fun k => D ≤ k)) fun _ h => Or.inl h); have C6 := Lib.hid (K6.out.at C1.out HLT.out); have S6 := Lib.hid (S5.out.below hb); have Q6 := Lib.hid (ch_cells C6.out); clear hb))
  rw [HA.out]
  obtain ⟨q0, q1, q2, q3⟩ := Q6.out
  rcases hcs with ⟨h98, h4⟩ | ⟨h98, h4⟩
  all_goals
    go_wp2_with fail
    clear q0 q1 q2 q3
    go_region_held3 (fun w' => w'.cell? ⟨w.heap.size, 0, none⟩ = some (.int .u8 kind) ∧ w'.cell? ⟨w.heap.size, 1, none⟩ = some (.int .i64 back) ∧ w'.cell? ⟨w.heap.size, 2, none⟩ = some (.string ky) ∧ w'.cell? ⟨w.heap.size, 3, none⟩ = some (.string bytes)) (first | exact Q6.out | exact Q7.out | exact Q8.out | exact Q9.out | exact Q10.out) (first
      | (go_at_call 34; refine (list_any _ _ p ⟨kind, back, ky, bytes⟩ (by first | exact Or.inl rfl | exact Or.inr ⟨_, S7.out⟩)).mono ?_; rintro e wl ⟨A8, c8, rfl, hb'⟩; (first
        | (have K8 := Lib.hid (K7.out.trans (Keep.of_below hb' (F := fun k => D ≤ k)) fun _ h => Or.inl h); have C8 := Lib.hid (K8.out.at C1.out HLT.out); have S8 := Lib.hid (S7.out.below hb'); have Q8 := Lib.hid (ch_cells C8.out); clear hb')
        | (have hb := (Below.refl w6.heap.size w6).drew.trans hb'; have K7 := Lib.hid (K6.out.trans (Keep.of_below hb (F := fun k => D ≤ k)) fun _ h => Or.inl h); have C7 := Lib.hid (K7.out.at C1.out HLT.out); have S7 := Lib.hid (S6.out.below hb); have Q7 := Lib.hid (ch_cells C7.out); clear hb hb')))
      | (go_at_call 29; refine (keys_calls k _ hk0 hk1).mono ?_; rintro e w9 ⟨rfl, hb⟩; have K9 : Hid (Keep (fun k => D ≤ k) w1 w9) := Lib.hid (K8.out.trans (Keep.of_below hb (F := fun k => D ≤ k)) fun _ h => Or.inl h); have C9 := Lib.hid (K9.out.at C1.out HLT.out); have S9 := Lib.hid (S8.out.below hb); have Q9 := Lib.hid (ch_cells C9.out); clear hb)
      | (go_at_call 30; refine (pick_liesN _ (key13 k) ⟨kind, back, ky, bytes⟩).mono ?_; rintro e w10 ⟨rfl, hb⟩; have K10 : Hid (Keep (fun k => D ≤ k) w1 w10) := Lib.hid (K9.out.trans (Keep.of_below hb (F := fun k => D ≤ k)) fun _ h => Or.inl h); have C10 := Lib.hid (K10.out.at C1.out HLT.out); have S10 := Lib.hid (S9.out.below hb); have Q10 := Lib.hid (ch_cells C10.out); clear hb))
    have hl := HL.out.trans h4
    rw [hl]
    clear hl
    go_wp2_with fail
    go_ret
    exact ⟨rfl, WE.out _ K10.out⟩
end Go.Proofs.Ytcalfjakgidhfaa
