/- The law PickLists. -/
import Derived.Test.YtcalfjakgidhfaaL13f
import Derived.Test.YtcalfjakgidhfaaL13n
namespace Go.Proofs.Ytcalfjakgidhfaa
open Go.RowKit
set_option linter.unusedVariables false
set_option linter.unusedSimpArgs false

/-- What is done with a store from a world w1 on: its block, what is kept of the choice at a, and of all that was there. -/
structure At (w w' : World) (a D : Nat) (vs : Value) (S : St) (o : Obj) : Prop where
  st : StoreB w' vs S D
  ch : w'.heap[a]? = some o
  keep : Keep (fun k => w.heap.size ≤ k) w w'
theorem At.below {w w' w2 : World} {a D : Nat} {vs : Value} {S : St} {o : Obj} (h : At w w' a D vs S o) (hb : Below w'.heap.size w' w2) : At w w2 a D vs S o :=
  ⟨h.st.below hb, (hb.block a (Array.getElem?_eq_some_iff.1 h.ch).1).trans h.ch, h.keep.same (Keep.of_below hb)⟩
theorem At.kind {w w' : World} {a D : Nat} {vs : Value} {S : St} {k0 k back : Int} {ky bytes : ByteArray} (h : At w w' a D vs S (.cells #[.int .u8 k0, .int .i64 back, .string ky, .string bytes] 49 (0, 0))) (ha : w.heap.size ≤ a) (hD : a < D) :
    At w (w'.setCell ⟨a, 0, none⟩ (.int .u8 k)) a D vs S (.cells #[.int .u8 k, .int .i64 back, .string ky, .string bytes] 49 (0, 0)) := by
  have hk : Keep (fun i => i = a) w' (w'.setCell ⟨a, 0, none⟩ (.int .u8 k)) := Keep.setCell (fun i => i = a) w' (p := ⟨a, 0, none⟩) rfl _
  refine ⟨?_, ?_, h.keep.same (hk.mono fun i e => by rw [e]; exact ha)⟩
  · have h1 := IsStore.keep h.st hk (fun i hi e => by have := hi.1; omega)
    exact h1.wider (fun i hi => ⟨hi.1, Nat.lt_of_lt_of_le hi.2 hk.size⟩) fun i hi => hi.2
  · have := set_at h.ch 0 (.int .u8 k); simpa using this

theorem list_at {w : World} {v : Value} {S : St} {F : Nat → Prop} (h : IsStore w v S F) (p : ByteArray) (c : Ch) :
    Calls Try.prog 34 #[v, .string p, .agg #[.int .u8 c.kind, .int .i64 c.back, .string c.key, .string c.bytes]] w fun e w' => ∃ v', e = .returned v' ∧ w'.ownsRow w.heap.size 9 1 v' (if c.kind = 100 then [] else S.list p).length (strV (if c.kind = 100 then [] else S.list p)) ∧ Below w.heap.size w w' := by
  by_cases hk : c.kind = 100
  · rw [if_pos hk]; exact (pick_list_nil w v (Or.inr h.ptr) p c (Or.inr hk)).mono fun e w' ⟨h1, h2⟩ => ⟨_, h1, own_nil _ _ _ _, h2⟩
  · rw [if_neg hk]; exact pick_list h p c hk

set_option maxRecDepth 100000 in
set_option maxHeartbeats 4000000 in
theorem lists_calls (w : World) (v : Value) (l : List PutV) (c : Ch) (p : ByteArray) (hv : rowsOf 3 putV w v l) (hw : ∀ a ∈ l, a.wf) (hck : c.key.size ≤ 140737488351232) (hcy : c.bytes.size ≤ 140737488351232) (hp : p.size ≤ 140737488351232) :
    Calls Try.prog 11 #[v, .agg #[.int .u8 c.kind, .int .i64 c.back, .string c.key, .string c.bytes], .string p] w fun e w' => e = .returned (.bool true) ∧ Below w.heap.size w w' := by
  obtain ⟨kind, back, ky, bytes⟩ := c
  dsimp only at *
  obtain ⟨B, hB⟩ : ∃ B, B = w.heap.size := ⟨_, rfl⟩
  rw [← hB]
  have HB := Lib.hid hB
  clear hB
  have HV := Lib.hid hv
  have HW := Lib.hid hw
  have hp' : (p.size : Int) ≤ 140737488351232 := by omega
  have hc' : (ky.size : Int) ≤ 140737488351232 := by omega
  obtain ⟨A, cp, rfl, hlc, hmx, h3⟩ := hv
  clear hw h3 hp hck hcy
  go_enter Try.func11, Try.ntmps11
  go_wp2_with fail
  refine (shown13_calls _).mono ?_
  rintro e w1 ⟨rfl, hb1⟩
  have C1 : Hid (w1.heap[w.heap.size]? = some (.cells #[.int .u8 kind, .int .i64 back, .string ky, .string bytes] 49 (0, 0))) := Lib.hid ((hb1.block _ (by simp)).trans (MapKept.heap_alloc w _).1)
  have W1 : Hid (Below w.heap.size w w1) := Lib.hid ((Below.refl w.heap.size w).alloc (Nat.le_refl _) (.cells #[.int .u8 kind, .int .i64 back, .string ky, .string bytes] 49) |>.trans (hb1.mono (by simp)))
  have Z1 : Hid (w.heap.size < w1.heap.size) := by have := hb1.size; rw [size_alloc] at this; exact (by omega : w.heap.size < w1.heap.size)
  clear hb1
  go_wp2_with fail
  refine (light13_calls w1 _ l (HV.out.below W1.out) HW.out).mono ?_
  rintro e w2 ⟨rfl, hd2⟩
  have W2 : Hid (Below w.heap.size w w2) := W1.out.trans (hd2.below.mono W1.out.size)
  have C2 := Lib.hid ((hd2.keep (fun _ => False)).at C1.out (fun e => e))
  have Z2 : Hid (w.heap.size < w2.heap.size) := Nat.lt_of_lt_of_le Z1.out hd2.below.size
  clear hd2
  obtain ⟨q0, q1, q2, q3⟩ := ch_cells C2.out
  cases hlb : light13B l with
  | false =>
    have HLB := Lib.hid hlb
    clear hlb
    go_wp2_with fail
    go_ret
    exact ⟨rfl, by rw [HB.out]; exact W2.out⟩
  | true =>
  have HLB := Lib.hid hlb
  clear hlb
  by_cases hx : (50000 : Int) < bytes.size
  · go_wp2_with fail
    go_ret
    exact ⟨rfl, by rw [HB.out]; exact W2.out⟩
  by_cases hy : (1000 : Int) < ky.size + p.size
  · go_wp2_with fail
    go_ret
    exact ⟨rfl, by rw [HB.out]; exact W2.out⟩
  go_wp2_with fail
  refine (filled_calls w2 _ l (HV.out.below W2.out) HW.out).mono ?_
  rintro e w3 ⟨vs, vr, rfl, hbo, hb3⟩
  obtain ⟨⟨bs, rfl⟩, ⟨br, rfl⟩⟩ := hbo.ptr
  obtain ⟨S, hS⟩ : ∃ S, fillS (l.take 60) = S := ⟨_, rfl⟩
  have hst := hbo.store
  rw [hS] at hst
  have T3 : Hid (At w w3 w.heap.size w2.heap.size (.pointer (some ⟨bs, 0, none⟩)) S (.cells #[.int .u8 kind, .int .i64 back, .string ky, .string bytes] 49 (0, 0))) :=
    ⟨hst, (hb3.block _ Z2.out).trans C2.out, Keep.of_below (W2.out.trans (hb3.mono W2.out.size))⟩
  have Z3 : Hid (w2.heap.size ≤ w3.heap.size) := hb3.size
  clear hbo hb3 hS hst q0 q1 q2 q3
  obtain ⟨q0, q1, q2, q3⟩ := ch_cells T3.out.ch
  go_wp2_with fail
  refine (list_at T3.out.st p ⟨kind, back, ky, bytes⟩).mono ?_
  rintro e w4 ⟨v4, rfl, hv4, hb4⟩
  dsimp only at hv4
  obtain ⟨L, hL⟩ : ∃ L, (if kind = 100 then [] else S.list p) = L := ⟨_, rfl⟩
  rw [hL] at hv4
  have hLe : L = S.list p ∨ (kind = 100 ∧ L = []) := by
    by_cases hk : kind = 100
    · rw [if_pos hk] at hL; exact Or.inr ⟨hk, hL.symm⟩
    · rw [if_neg hk] at hL; exact Or.inl hL.symm
  have HLE := Lib.hid hLe
  have hs4 := strs_own hv4
  have hn4 : ¬ v4.ownBlock = some w.heap.size := fun e => by have h1 := (World.ownsRow.lt hv4 _ e).1; have h2 := Z2.out; have h3 := Z3.out; omega
  obtain ⟨A4, c4, rfl, hl4, hm4, hc4⟩ := hs4
  have T4 := Lib.hid (T3.out.below hb4)
  have S4 : Hid (strs w4 (.slice A4 L.length c4) L ∧ ¬ (Value.slice A4 L.length c4).ownBlock = some w.heap.size) := ⟨strs_own hv4, hn4⟩
  clear hv4 hb4 hL hLe hn4 hc4 q0 q1 q2 q3
  obtain ⟨q0, q1, q2, q3⟩ := ch_cells T4.out.ch
  have qf := frozen_of_row T4.out.ch 0
  go_wp2_with fail
  have T5 := Lib.hid (At.kind (k := 100) T4.out (Nat.le_refl _) Z2.out)
  have S5 : Hid (strs (w4.setCell ⟨w.heap.size, 0, none⟩ (.int .u8 100)) (.slice A4 L.length c4) L) := S4.out.1.keep (Keep.setCell (fun i => i = w.heap.size) w4 (p := ⟨w.heap.size, 0, none⟩) rfl _) fun i hi e => by rw [e] at hi; exact S4.out.2 hi
  clear q0 q1 q2 q3 qf S4
  refine (pick_list_nil _ _ (Or.inr ⟨_, rfl⟩) p ⟨100, back, ky, bytes⟩ (Or.inr rfl)).mono ?_
  rintro e w6 ⟨rfl, hb6⟩
  have T6 := Lib.hid (T5.out.below hb6)
  have S6 := Lib.hid (S5.out.below hb6)
  have Q6 := Lib.hid (ch_cells T6.out.ch)
  clear hb6 T5 S5 T4
  go_wp2_with fail
  go_region_held3 (fun w' => w'.cell? ⟨w.heap.size, 0, none⟩ = some (.int .u8 100) ∧ w'.cell? ⟨w.heap.size, 1, none⟩ = some (.int .i64 back) ∧ w'.cell? ⟨w.heap.size, 2, none⟩ = some (.string ky) ∧ w'.cell? ⟨w.heap.size, 3, none⟩ = some (.string bytes)) (first | exact Q6.out | exact Q7.out | exact Q8.out) (first
    | (go_at_call 29; refine (keys_calls 0 _ (by decide) (by decide)).mono ?_; rintro e w7 ⟨rfl, hb'⟩; have hb : Below w6.heap.size w6 w7 := (Below.refl w6.heap.size w6).drew.trans hb'; have T7 := Lib.hid (T6.out.below hb); have S7 := Lib.hid (S6.out.below hb); have Q7 := Lib.hid (ch_cells T7.out.ch); clear hb hb')
    | (go_at_call 28; refine (pick_get T7.out.st (key13 0) ⟨100, back, ky, bytes⟩).mono ?_; rintro e w8 ⟨rfl, hb⟩; have T8 := Lib.hid (T7.out.below hb); have S8 := Lib.hid (S7.out.below hb); have Q8 := Lib.hid (ch_cells T8.out.ch); clear hb))
  rw [show S.ans ⟨100, back, ky, bytes⟩ (key13 0) = (⟨#[]⟩, 4) by rfl]
  go_wp2_with fail
  refine (store_puts T8.out.st).mono ?_
  rintro e w9 ⟨rfl, rfl⟩
  obtain ⟨pz, hpz⟩ : ∃ pz : Int, (S.puts : Int) = pz := ⟨_, rfl⟩
  rw [hpz]
  have HPZ := Lib.hid hpz
  clear hpz
  go_wp2_with fail
  refine (store_list T8.out.st p).mono ?_
  rintro e w9 ⟨v9, rfl, hv9, hb9⟩
  have T9 := Lib.hid (T8.out.below hb9)
  have S9 := Lib.hid (S8.out.below hb9)
  have V9 := Lib.hid (strs_own hv9)
  clear hb9 hv9
  go_wp2_with fail
  refine (same13_calls w9 _ _ L (S.list p) S9.out V9.out).mono ?_
  rintro e w10 ⟨rfl, hd10⟩
  have T10 := Lib.hid (T9.out.below hd10.below)
  clear hd10
  by_cases hLs : L = S.list p
  · rw [decide_eq_true hLs]
    have HLS := Lib.hid hLs
    clear hLs
    go_wp2_with fail
    refine (store_puts T10.out.st).mono ?_
    rintro e w11 ⟨rfl, rfl⟩
    rw [HPZ.out]
    go_wp2_with fail
    go_ret
    exact ⟨rfl, by rw [HB.out]; exact T10.out.keep.new⟩
  · rw [decide_eq_false hLs]
    obtain ⟨rfl, rfl⟩ := HLE.out.resolve_left hLs
    have HLS := Lib.hid hLs
    clear hLs
    go_wp2_with fail
    refine (store_puts T10.out.st).mono ?_
    rintro e w11 ⟨rfl, rfl⟩
    rw [HPZ.out]
    go_wp2_with fail
    go_ret
    exact ⟨rfl, by rw [HB.out]; exact T10.out.keep.new⟩
end Go.Proofs.Ytcalfjakgidhfaa
