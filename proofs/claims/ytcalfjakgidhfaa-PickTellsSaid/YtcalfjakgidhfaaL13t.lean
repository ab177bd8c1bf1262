/- The law PickTells. -/
import Derived.Test.YtcalfjakgidhfaaLink
import Derived.Test.YtcalfjakgidhfaaR9
import Derived.Test.YtcalfjakgidhfaaL13n
namespace Go.Proofs.Ytcalfjakgidhfaa
open Go.RowKit
set_option linter.unusedVariables false
set_option linter.unusedSimpArgs false

theorem Link.ans {S : St} {R : RS} (h : Link S R) (c : Ch) (key : ByteArray) : S.ans c key = R.ans c key := by
  unfold St.ans RS.ans
  rw [h.vers, (h.get c.key).1, (h.get c.key).2, (h.get key).1, (h.get key).2]
theorem Link.lies {S : St} {R : RS} (h : Link S R) (c : Ch) (key : ByteArray) : S.lies c key = R.lies c key := by
  unfold St.lies RS.lies
  rw [h.ans, (h.get key).1, (h.get key).2]

theorem r13_list_at {w : World} {v : Value} {R : RS} {G : Nat → Prop} (h : IsRef w v R G) (hf : R.fine) (p : ByteArray) (hps : p.size ≤ 9223372036854775807) (c : Ch) :
    Calls Try.prog 36 #[v, .string p, .agg #[.int .u8 c.kind, .int .i64 c.back, .string c.key, .string c.bytes]] w fun e w' => ∃ v', e = .returned v' ∧ w'.ownsRow w.heap.size 9 1 v' (if c.kind = 100 then [] else R.list p).length (strV (if c.kind = 100 then [] else R.list p)) ∧ Below w.heap.size w w' := by
  by_cases hk : c.kind = 100
  · rw [if_pos hk]; exact (r13_list_nil w v (Or.inr h.ptr) p c (Or.inr hk)).mono fun e w' ⟨h1, h2⟩ => ⟨_, h1, own_nil _ _ _ _, h2⟩
  · rw [if_neg hk]; exact r13_list h hf p hps c hk
theorem plist_at {w : World} {v : Value} {S : St} {F : Nat → Prop} (h : IsStore w v S F) (p : ByteArray) (c : Ch) :
    Calls Try.prog 34 #[v, .string p, .agg #[.int .u8 c.kind, .int .i64 c.back, .string c.key, .string c.bytes]] w fun e w' => ∃ v', e = .returned v' ∧ w'.ownsRow w.heap.size 9 1 v' (if c.kind = 100 then [] else S.list p).length (strV (if c.kind = 100 then [] else S.list p)) ∧ Below w.heap.size w w' := by
  by_cases hk : c.kind = 100
  · rw [if_pos hk]; exact (pick_list_nil w v (Or.inr h.ptr) p c (Or.inr hk)).mono fun e w' ⟨h1, h2⟩ => ⟨_, h1, own_nil _ _ _ _, h2⟩
  · rw [if_neg hk]; exact pick_list h p c hk

/-- both stores, and what is kept of both choices -/
structure Tw (w w' : World) (a x : Nat) (vs vr : Value) (S : St) (R : RS) (B : Nat) (c : Ch) : Prop where
  both : Both w' vs vr S R B
  ch : w'.heap[a]? = some (.cells #[.int .u8 c.kind, .int .i64 c.back, .string c.key, .string c.bytes] 49 (0, 0))
  rch : w'.heap[x]? = some (.cells #[.int .u8 c.kind, .int .i64 c.back, .string c.key, .string c.bytes] 61 (0, 0))
  keep : Below w.heap.size w w'
theorem Tw.below {w w' w2 : World} {a x : Nat} {vs vr : Value} {S : St} {R : RS} {B : Nat} {c : Ch} (h : Tw w w' a x vs vr S R B c) (k : Below w'.heap.size w' w2) : Tw w w2 a x vs vr S R B c :=
  ⟨h.both.below k, (Keep.of_below k (F := fun _ => False)).at h.ch fun e => e, (Keep.of_below k (F := fun _ => False)).at h.rch fun e => e, h.keep.trans (k.mono h.keep.size)⟩
theorem Tw.cells {w w' : World} {a x : Nat} {vs vr : Value} {S : St} {R : RS} {B : Nat} {kind back : Int} {ky bytes : ByteArray} (h : Tw w w' a x vs vr S R B ⟨kind, back, ky, bytes⟩) :
    (w'.cell? ⟨a, 0, none⟩ = some (.int .u8 kind) ∧ w'.cell? ⟨a, 1, none⟩ = some (.int .i64 back) ∧ w'.cell? ⟨a, 2, none⟩ = some (.string ky) ∧ w'.cell? ⟨a, 3, none⟩ = some (.string bytes)) ∧
    (w'.cell? ⟨x, 0, none⟩ = some (.int .u8 kind) ∧ w'.cell? ⟨x, 1, none⟩ = some (.int .i64 back) ∧ w'.cell? ⟨x, 2, none⟩ = some (.string ky) ∧ w'.cell? ⟨x, 3, none⟩ = some (.string bytes)) := by
  have h1 := h.ch
  have h2 := h.rch
  refine ⟨⟨?_, ?_, ?_, ?_⟩, ?_, ?_, ?_, ?_⟩
  all_goals first
    | (rw [cell_of_row _ _ _ _ _ _ h1]; rfl)
    | (rw [cell_of_row _ _ _ _ _ _ h2]; rfl)
theorem Tw.st {w w' : World} {a x : Nat} {vs vr : Value} {S : St} {R : RS} {B : Nat} {c : Ch} (h : Tw w w' a x vs vr S R B c) : ∃ F, IsStore w' vs S F := by obtain ⟨F, G, h1, _⟩ := h.both; exact ⟨F, h1⟩
theorem Tw.rf {w w' : World} {a x : Nat} {vs vr : Value} {S : St} {R : RS} {B : Nat} {c : Ch} (h : Tw w w' a x vs vr S R B c) : ∃ G, IsRef w' vr R G := by obtain ⟨F, G, _, h1, _⟩ := h.both; exact ⟨G, h1⟩

set_option maxRecDepth 100000 in
set_option maxHeartbeats 4000000 in
theorem tells_calls (w : World) (v : Value) (l : List PutV) (c : Ch) (ki : Int) (p : ByteArray) (hv : rowsOf 3 putV w v l) (hw : ∀ a ∈ l, a.wf) (hck : c.key.size ≤ 140737488351232) (hcy : c.bytes.size ≤ 140737488351232) (hk0 : -9223372036854775808 ≤ ki) (hk1 : ki ≤ 9223372036854775807) (hp : p.size ≤ 140737488351232) :
    Calls Try.prog 12 #[v, .agg #[.int .u8 c.kind, .int .i64 c.back, .string c.key, .string c.bytes], .int .i64 ki, .string p] w fun e w' => e = .returned (.bool true) ∧ Below w.heap.size w w' := by
  obtain ⟨kind, back, ky, bytes⟩ := c
  dsimp only at *
  obtain ⟨B, hB⟩ : ∃ B, B = w.heap.size := ⟨_, rfl⟩
  rw [← hB]
  have HB := Lib.hid hB
  clear hB
  have HV := Lib.hid hv
  have HW := Lib.hid hw
  have hp' : (p.size : Int) ≤ 140737488351232 := by omega
  have hc' : (ky.size : Int) ≤ 140737488351232 := by omega
  have HPS : Hid (p.size ≤ 9223372036854775807) := Lib.hid (by omega)
  obtain ⟨A, cp, rfl, hlc, hmx, h3⟩ := hv
  clear hw h3 hp hck hcy
  go_enter Try.func12, Try.ntmps12
  go_wp2_with fail
  refine (shown13_calls _).mono ?_
  rintro e w1 ⟨rfl, hb1⟩
  have C1 : Hid (w1.heap[w.heap.size]? = some (.cells #[.int .u8 kind, .int .i64 back, .string ky, .string bytes] 49 (0, 0))) := Lib.hid ((hb1.block _ (by simp)).trans (MapKept.heap_alloc w _).1)
  have W1 : Hid (Below w.heap.size w w1) := Lib.hid ((Below.refl w.heap.size w).alloc (Nat.le_refl _) (.cells #[.int .u8 kind, .int .i64 back, .string ky, .string bytes] 49) |>.trans (hb1.mono (by simp)))
  have Z1 : Hid (w.heap.size < w1.heap.size) := by have := hb1.size; rw [size_alloc] at this; exact (by omega : w.heap.size < w1.heap.size)
  clear hb1
  go_wp2_with fail
  refine (light13_calls w1 _ l (HV.out.below W1.out) HW.out).mono ?_
  rintro e w2 ⟨rfl, hd2⟩
  have W2 : Hid (Below w.heap.size w w2) := W1.out.trans (hd2.below.mono W1.out.size)
  have C2 := Lib.hid ((hd2.keep (fun _ => False)).at C1.out (fun e => e))
  have Z2 : Hid (w.heap.size < w2.heap.size) := Nat.lt_of_lt_of_le Z1.out hd2.below.size
  clear hd2
  obtain ⟨q0, q1, q2, q3⟩ := ch_cells C2.out
  cases hlb : light13B l with
  | false =>
    have HLB := Lib.hid hlb
    clear hlb
    go_wp2_with fail
    go_ret
    exact ⟨rfl, by rw [HB.out]; exact W2.out⟩
  | true =>
  have HLB := Lib.hid hlb
  clear hlb
  by_cases hy : (300 : Int) < ky.size + p.size
  · go_wp2_with fail
    go_ret
    exact ⟨rfl, by rw [HB.out]; exact W2.out⟩
  by_cases hx : (50000 : Int) < bytes.size
  · go_wp2_with fail
    go_ret
    exact ⟨rfl, by rw [HB.out]; exact W2.out⟩
  go_wp2_with fail
  refine (filled_calls w2 _ l (HV.out.below W2.out) HW.out).mono ?_
  rintro e w3 ⟨vs, vr, rfl, hbo, hb3⟩
  obtain ⟨⟨bs, rfl⟩, ⟨br, rfl⟩⟩ := hbo.ptr
  have hlk := link_fill (l.take 60)
  obtain ⟨S, hS⟩ : ∃ S, fillS (l.take 60) = S := ⟨_, rfl⟩
  obtain ⟨R, hR⟩ : ∃ R, fillR (l.take 60) = R := ⟨_, rfl⟩
  rw [hS, hR] at hlk hbo
  have LK := Lib.hid hlk
  have BO := Lib.hid hbo
  have C3 := Lib.hid ((hb3.block _ Z2.out).trans C2.out)
  have W3 : Hid (Below w.heap.size w w3) := W2.out.trans (hb3.mono W2.out.size)
  clear hbo hb3 hS hR hlk q0 q1 q2 q3
  obtain ⟨q0, q1, q2, q3⟩ := ch_cells C3.out
  have T4 : Hid (Tw w (w3.alloc (.cells #[.int .u8 kind, .int .i64 back, .string ky, .string bytes] 61)) w.heap.size w3.heap.size (.pointer (some ⟨bs, 0, none⟩)) (.pointer (some ⟨br, 0, none⟩)) S R w2.heap.size ⟨kind, back, ky, bytes⟩) :=
    ⟨BO.out.below ((Below.refl _ w3).alloc (Nat.le_refl _) _), (Keep.alloc (fun _ => False) w3 _).at C3.out fun e => e, (MapKept.heap_alloc w3 _).1, W3.out.trans ((Below.refl _ w3).alloc W3.out.size _)⟩
  go_wp2_with fail
  obtain ⟨xb, hxb⟩ : ∃ xb, w3.heap.size = xb := ⟨_, rfl⟩
  obtain ⟨w4, hw4⟩ : ∃ w4, w3.alloc (.cells #[.int .u8 kind, .int .i64 back, .string ky, .string bytes] 61) = w4 := ⟨_, rfl⟩
  rw [hxb, hw4] at T4
  rw [hxb, hw4]
  clear hxb hw4 q0 q1 q2 q3 BO C3 W3 W2 C2 C1 W1
  refine (keys_calls ki _ hk0 hk1).mono ?_
  rintro e w5 ⟨rfl, hb5⟩
  obtain ⟨kk, hkk⟩ : ∃ kk, key13 ki = kk := ⟨_, rfl⟩
  rw [hkk]
  have T5 := Lib.hid (T4.out.below hb5)
  clear hkk hb5 T4
  obtain ⟨F5, hF5⟩ := T5.out.st
  obtain ⟨⟨q0, q1, q2, q3⟩, ⟨r0, r1, r2, r3⟩⟩ := T5.out.cells
  obtain ⟨⟨a1, e1⟩, hA⟩ : ∃ r, R.ans ⟨kind, back, ky, bytes⟩ kk = r := ⟨_, rfl⟩
  obtain ⟨⟨a2, e2⟩, hA2⟩ : ∃ r, RS.new.ans ⟨kind, back, ky, bytes⟩ kk = r := ⟨_, rfl⟩
  have HA1 : Hid (S.ans ⟨kind, back, ky, bytes⟩ kk = (a1, e1)) := Lib.hid (by rw [LK.out.ans]; exact hA)
  have HA2 := Lib.hid hA
  have HA3 : Hid (St.new.ans ⟨kind, back, ky, bytes⟩ kk = (a2, e2)) := Lib.hid (by rw [Link.new.ans]; exact hA2)
  have HA4 := Lib.hid hA2
  clear hA hA2
  go_wp2_with fail
  refine (pick_get hF5 kk ⟨kind, back, ky, bytes⟩).mono ?_
  rintro e w6 ⟨rfl, hb6⟩
  rw [HA1.out]
  have T6 := Lib.hid (T5.out.below hb6)
  clear hb6 T5 hF5 q0 q1 q2 q3 r0 r1 r2 r3
  obtain ⟨G6, hG6⟩ := T6.out.rf
  obtain ⟨⟨q0, q1, q2, q3⟩, ⟨r0, r1, r2, r3⟩⟩ := T6.out.cells
  go_wp2_with fail
  refine (r13_get hG6 LK.out.fine kk ⟨kind, back, ky, bytes⟩).mono ?_
  rintro e w7 ⟨rfl, hb7⟩
  rw [HA2.out]
  have T7 := Lib.hid (T6.out.below hb7)
  clear hb7 T6 hG6 q0 q1 q2 q3 r0 r1 r2 r3
  obtain ⟨⟨q0, q1, q2, q3⟩, ⟨r0, r1, r2, r3⟩⟩ := T7.out.cells
  go_wp2_with fail
  refine (pick_getN _ kk ⟨kind, back, ky, bytes⟩).mono ?_
  rintro e w8 ⟨rfl, hb8⟩
  rw [HA3.out]
  have T8 := Lib.hid (T7.out.below hb8)
  clear hb8 T7 q0 q1 q2 q3 r0 r1 r2 r3
  obtain ⟨⟨q0, q1, q2, q3⟩, ⟨r0, r1, r2, r3⟩⟩ := T8.out.cells
  go_wp2_with fail
  refine (r13N_get _ kk ⟨kind, back, ky, bytes⟩).mono ?_
  rintro e w9 ⟨rfl, hb9⟩
  rw [HA4.out]
  have T9 := Lib.hid (T8.out.below hb9)
  clear hb9 T8 q0 q1 q2 q3 r0 r1 r2 r3
  obtain ⟨⟨q0, q1, q2, q3⟩, ⟨r0, r1, r2, r3⟩⟩ := T9.out.cells
  go_wp2_with fail
  refine (pick_list_nil _ _ (Or.inl rfl) p ⟨kind, back, ky, bytes⟩ (Or.inl rfl)).mono ?_
  rintro e w10 ⟨rfl, hb10⟩
  have T10 := Lib.hid (T9.out.below hb10)
  clear hb10 T9 q0 q1 q2 q3 r0 r1 r2 r3
  have Q10 := Lib.hid T10.out.cells
  obtain ⟨LL, hLL⟩ : ∃ LL, (if kind = 100 then [] else R.list p) = LL := ⟨_, rfl⟩
  have HL1 : Hid ((if kind = 100 then [] else S.list p) = LL) := Lib.hid (by rw [LK.out.list]; exact hLL)
  have HL2 := Lib.hid hLL
  obtain ⟨bl, hbl⟩ : ∃ bl, R.lies ⟨kind, back, ky, bytes⟩ kk = bl := ⟨_, rfl⟩
  obtain ⟨bn, hbn⟩ : ∃ bn, RS.new.lies ⟨kind, back, ky, bytes⟩ kk = bn := ⟨_, rfl⟩
  have HB1 : Hid (S.lies ⟨kind, back, ky, bytes⟩ kk = bl) := Lib.hid (by rw [LK.out.lies]; exact hbl)
  have HB2 := Lib.hid hbl
  have HB3 : Hid (St.new.lies ⟨kind, back, ky, bytes⟩ kk = bn) := Lib.hid (by rw [Link.new.lies]; exact hbn)
  have HB4 := Lib.hid hbn
  clear hLL hbl hbn
  go_wp2_with fail
  go_region_held3 (fun w' => (w'.cell? ⟨w.heap.size, 0, none⟩ = some (.int .u8 kind) ∧ w'.cell? ⟨w.heap.size, 1, none⟩ = some (.int .i64 back) ∧ w'.cell? ⟨w.heap.size, 2, none⟩ = some (.string ky) ∧ w'.cell? ⟨w.heap.size, 3, none⟩ = some (.string bytes)) ∧ (w'.cell? ⟨xb, 0, none⟩ = some (.int .u8 kind) ∧ w'.cell? ⟨xb, 1, none⟩ = some (.int .i64 back) ∧ w'.cell? ⟨xb, 2, none⟩ = some (.string ky) ∧ w'.cell? ⟨xb, 3, none⟩ = some (.string bytes)))
    (first | exact Q10.out | exact Q11.out | exact Q12.out | exact Q13.out | exact Q14.out | exact Q15.out | exact Q16.out | exact Q17.out) (first
    | (go_at_call 34; have TD := Lib.hid (T10.out.below ((Below.refl _ w10).drew)); obtain ⟨F, hF⟩ := TD.out.st; refine (plist_at hF p ⟨kind, back, ky, bytes⟩).mono ?_; dsimp only; rw [HL1.out]; rintro e w11 ⟨v11, rfl, hv11, hb11⟩; have T11 := Lib.hid (TD.out.below hb11); have V11 := Lib.hid (strs_own hv11); have Q11 := Lib.hid T11.out.cells; clear hv11 hb11 hF TD)
    | (go_at_call 36; obtain ⟨G, hG⟩ := T11.out.rf; refine (r13_list_at hG LK.out.fine p HPS.out ⟨kind, back, ky, bytes⟩).mono ?_; dsimp only; rw [HL2.out]; rintro e w12 ⟨v12, rfl, hv12, hb12⟩; have T12 := Lib.hid (T11.out.below hb12); have V12 := Lib.hid (strs_own hv12); have U12 := Lib.hid (V11.out.below hb12); have Q12 := Lib.hid T12.out.cells; clear hv12 hb12 hG)
    | (go_at_call 31; refine (same13_calls w12 _ _ _ _ U12.out V12.out).mono ?_; rw [decide_eq_true rfl]; rintro e w13 ⟨rfl, hd13⟩; have T13 := Lib.hid (T12.out.below hd13.below); have Q13 := Lib.hid T13.out.cells; clear hd13)
    | (go_at_call_of 30 (Value.pointer none); refine (pick_liesN _ kk ⟨kind, back, ky, bytes⟩).mono ?_; rw [HB3.out]; rintro e w16 ⟨rfl, hb16⟩; have T16 := Lib.hid (T15.out.below hb16); have Q16 := Lib.hid T16.out.cells; clear hb16)
    | (go_at_call_of 37 (Value.pointer none); refine (r13_liesN _ kk ⟨kind, back, ky, bytes⟩).mono ?_; rw [HB4.out]; rintro e w17 ⟨rfl, hb17⟩; have T17 := Lib.hid (T16.out.below hb17); have Q17 := Lib.hid T17.out.cells; clear hb17)
    | (go_at_call 30; obtain ⟨F, hF⟩ := T13.out.st; refine (pick_lies hF kk ⟨kind, back, ky, bytes⟩).mono ?_; rw [HB1.out]; rintro e w14 ⟨rfl, hb14⟩; have T14 := Lib.hid (T13.out.below hb14); have Q14 := Lib.hid T14.out.cells; clear hb14 hF)
    | (go_at_call 37; obtain ⟨G, hG⟩ := T14.out.rf; refine (r13_lies hG LK.out.fine kk ⟨kind, back, ky, bytes⟩).mono ?_; rw [HB2.out]; rintro e w15 ⟨rfl, hb15⟩; have T15 := Lib.hid (T14.out.below hb15); have Q15 := Lib.hid T15.out.cells; clear hb15 hG))
  go_wp2_with fail
  go_ret
  exact ⟨rfl, by rw [HB.out]; exact T17.out.keep⟩
end Go.Proofs.Ytcalfjakgidhfaa
