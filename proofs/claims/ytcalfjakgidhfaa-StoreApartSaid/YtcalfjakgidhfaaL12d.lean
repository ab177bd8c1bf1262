/- The law StoreApart, walked. -/
import Derived.Test.YtcalfjakgidhfaaL12c
namespace Go.Proofs.Ytcalfjakgidhfaa
open Go.RowKit
set_option linter.unusedVariables false
set_option linter.unusedSimpArgs false

theorem act_cells {w : World} {g : Nat} {a b : Int} {c d : ByteArray} {t : TypeId} (h : w.heap[g]? = some (.cells #[.int .i64 a, .int .i64 b, .string c, .string d] t (0, 0))) :
    w.cell? ⟨g, 0, none⟩ = some (.int .i64 a) ∧ w.cell? ⟨g, 1, none⟩ = some (.int .i64 b) ∧ w.cell? ⟨g, 2, none⟩ = some (.string c) ∧ w.cell? ⟨g, 3, none⟩ = some (.string d) :=
  ⟨cell_of_row w g 0 _ _ _ h, cell_of_row w g 1 _ _ _ h, cell_of_row w g 2 _ _ _ h, cell_of_row w g 3 _ _ _ h⟩
theorem below_apart {w0 w w' : World} {B : Nat} {va vb : Value} {SA SB : St} {X : Nat → Prop} (h : Apart2 w0 B va vb SA SB X w) (hb : Below w.heap.size w w') : Apart2 w0 B va vb SA SB X w' ∧ ∀ i, X i → w'.heap[i]? = w.heap[i]? := by
  refine ⟨h.keep hb, fun i hi => ?_⟩
  obtain ⟨FA, FB, h1, h2, h3, h4, h5, h6, h7, h8⟩ := h
  exact hb.block i (h6 i hi).2.2

theorem one_ne (k0 : Int) : ¬ (keyOf (pickZ k0 5) ByteArray.empty).size = 0 := by
  have h := pickZ_lt k0 (n := 5) (by omega)
  generalize pickZ k0 5 = p at *
  have hc : p = 0 ∨ p = 1 ∨ p = 2 ∨ p = 3 ∨ p = 4 := by omega
  rcases hc with rfl | rfl | rfl | rfl | rfl <;> decide
theorem lightB_len {l : List ActV} (h : lightB l = true) : l.length ≤ 100 := by simp [lightB] at h; exact h.1

set_option maxRecDepth 100000 in
set_option maxHeartbeats 2000000 in
theorem apart_calls (w : World) (v : Value) (l : List ActV) (k0 : Int) (hv : rowsOf 4 actV w v l) (hw : ∀ a ∈ l, a.wf) (hk0 : -9223372036854775808 ≤ k0) (hk1 : k0 ≤ 9223372036854775807) :
    Calls Try.prog 3 #[v, .int .i64 k0] w fun e w' => e = .returned (.bool true) ∧ Below w.heap.size w w' := by
  obtain ⟨B, hB⟩ : ∃ B, B = w.heap.size := ⟨_, rfl⟩
  rw [← hB]
  have HB := Lib.hid hB
  clear hB
  have HW := Lib.hid hw
  have HV := Lib.hid hv
  clear hw hv
  obtain ⟨A, c, rfl, _⟩ := HV.out
  go_enter Try.func3, Try.ntmps3
  go_wp2_with fail
  refine (shown_calls w).mono ?_
  rintro e w1 ⟨rfl, hb1⟩
  have HV1 := HV.out.below hb1
  go_wp2_with fail
  refine (light_calls w1 _ l HV1 HW.out).mono ?_
  rintro e w2 ⟨rfl, hd2⟩
  have hb2 := hb1.trans (hd2.below.mono hb1.size)
  clear hb1 hd2 HV1
  go_wp2_with fail
  refine (storeB_new w2 B (by rw [HB.out]; exact hb2.size)).mono ?_
  rintro e w3 ⟨va, rfl, hA, hb3⟩
  obtain ⟨ba, rfl⟩ := hA.ptr
  go_wp2_with fail
  refine (store_new w3).mono ?_
  rintro e w4 ⟨vb, rfl, hBb, hb4⟩
  obtain ⟨bb, rfl⟩ := hBb.ptr
  have hAp : Apart2 w B (.pointer (some ⟨ba, 0, none⟩)) (.pointer (some ⟨bb, 0, none⟩)) St.new St.new (fun _ => False) w4 := by
    have hA' := hA.below hb4
    refine ⟨_, _, hA.keep (Keep.of_below hb4 (F := fun _ => False)) (fun _ _ e => e), hBb, fun i h1 h2 => by have := h1.2; have := h2.1; omega, fun i h => h.1, fun i h => ?_, fun _ e => e.elim, ?_, ?_⟩
    · have h1 := h.1; have h2 := hb3.size; have h3 := hb2.size; rw [HB.out]; omega
    · exact Keep.of_below ((hb2.trans (hb3.mono hb2.size)).trans (hb4.mono (Nat.le_trans hb2.size hb3.size)))
    · have h2 := hb3.size; have h3 := hb2.size; have h4 := hb4.size; rw [HB.out]; omega
  clear hA hb3 hBb hb4 hb2
  by_cases hl : lightB l = true
  · rw [hl]
    have hq := pickZ_lt k0 (n := 5) (by omega)
    have hone := one_ne k0
    obtain ⟨one, hone'⟩ : ∃ one, keyOf (pickZ k0 5) ByteArray.empty = one := ⟨_, rfl⟩
    rw [hone'] at hone
    have HO := Lib.hid hone'
    have HO' := Lib.hid hone
    clear hone' hone
    go_wp2_with fail
    refine (pick_calls k0 5 _ hk0 hk1 (by omega) (by omega)).mono ?_
    rintro e w5 ⟨rfl, rfl⟩
    go_wp2_with fail
    refine (key_calls 0 _ ByteArray.empty ByteArray.empty _ (by omega) (by omega)).mono ?_
    rintro e w5 ⟨rfl, hb⟩
    rw [HO.out]
    have hA5 := hAp.keep hb
    have HL := Lib.hid (lightB_len hl)
    clear hAp hb hl hq
    go_wp2_with fail
    go_loopw [10] (fun i wr => ∃ k : Nat, k ≤ l.length ∧ i = .int .i64 k ∧ Apart2 w B (.pointer (some ⟨ba, 0, none⟩)) (.pointer (some ⟨bb, 0, none⟩)) (runA (l.take k)) (runB one (l.take k)) (fun _ => False) wr) (fun i _ => l.length - (intOf i).toNat)
    case atStart => exact ⟨0, Nat.zero_le _, rfl, hA5⟩
    case round =>
      clear hA5
      obtain ⟨k, hk, rfl, hAp⟩ := hrel
      have hmx : l.length ≤ 100 := HL.out
      by_cases hlt : k < l.length
      · obtain ⟨x, hx⟩ : ∃ x, l[k]? = some x := ⟨_, List.getElem?_eq_getElem hlt⟩
        have hxw := HW.out x (List.mem_of_getElem? hx)
        obtain ⟨A', c', hAe, _, _, hcc⟩ := HV.out
        obtain ⟨b, off, hA', hc⟩ := hcc (by omega)
        subst hA'
        cases hAe
        have hbB : ¬ B ≤ b := by have := World.block_lt_of_cell? _ _ (hc k x hx 0 _ rfl); simp only at this; rw [HB.out]; omega
        have hc' := fun j u hu => hAp.kept.cell (hc k x hx j u hu) hbB
        have c0 := hc' 0 _ rfl
        have c1 := hc' 1 _ rfl
        have c2 := hc' 2 _ rfl
        have c3 := hc' 3 _ rfl
        clear hc hc' hcc
        rw [Nat.add_zero] at c0
        have HX := Lib.hid hx
        clear hx
        have hX := hAp.alloc (.cells #[.int .i64 x.op, .int .i64 x.k, .string x.key, .string x.blob] 30)
        have hg0 : (wr.alloc (.cells #[.int .i64 x.op, .int .i64 x.k, .string x.key, .string x.blob] 30)).heap[wr.heap.size]? = some (.cells #[.int .i64 x.op, .int .i64 x.k, .string x.key, .string x.blob] 30 (0, 0)) := by rw [get_alloc, if_pos rfl]
        by_cases h3 : pickZ x.op 4 = 3
        · have HSA : Hid ((runA (l.take k)).act x x.it = (runA (l.take k)).del x.it) := Lib.hid (by rw [St.act, if_pos h3])
          have HSB : Hid ((runB one (l.take k)).act x one = (runB one (l.take k)).del one) := Lib.hid (by rw [St.act, if_pos h3])
          have e3 : (pickZ x.op 4 == 3) = true := by simp [h3]
          have HG := Lib.hid hg0
          clear h3 hg0
          go_wp2_with fail
          refine (pick_calls x.op 4 _ hxw.1.1 hxw.1.2 (by omega) (by omega)).mono ?_
          rintro e w6 ⟨rfl, rfl⟩
          go_wp2_with fail
          refine (key_calls x.op x.k x.key x.blob _ hxw.2.1.1 hxw.2.1.2).mono ?_
          rintro e w6 ⟨rfl, hb⟩
          obtain ⟨hX6, hK6⟩ := below_apart hX hb
          have hg6 := (hK6 _ rfl).trans HG.out
          clear hb hX hK6
          go_wp2_with fail
          refine (apart_delete hX6 _).mono ?_
          rintro e w7 ⟨rfl, hX7, hK7⟩
          have hg7 := (hK7 _ rfl).trans hg6
          change Apart2 _ _ _ _ ((runA (l.take k)).del x.it) _ _ _ at hX7
          rw [← HSA.out] at hX7
          clear hX6 hK7 hg6
          have d0 := cell_of_row w7 wr.heap.size 0 _ _ _ hg7
          have d1 := cell_of_row w7 wr.heap.size 1 _ _ _ hg7
          have d2 := cell_of_row w7 wr.heap.size 2 _ _ _ hg7
          have d3 := cell_of_row w7 wr.heap.size 3 _ _ _ hg7
          simp at d0 d1 d2 d3
          go_wp2_with fail
          refine (key_calls x.op x.k x.key x.blob _ hxw.2.1.1 hxw.2.1.2).mono ?_
          rintro e w8 ⟨rfl, hb⟩
          obtain ⟨hX8, hK8⟩ := below_apart hX7 hb
          have hg8 := (hK8 _ rfl).trans hg7
          clear hb hX7 hK8 hg7 d0 d1 d2 d3
          have f0 := cell_of_row w8 wr.heap.size 0 _ _ _ hg8
          have f1 := cell_of_row w8 wr.heap.size 1 _ _ _ hg8
          have f2 := cell_of_row w8 wr.heap.size 2 _ _ _ hg8
          have f3 := cell_of_row w8 wr.heap.size 3 _ _ _ hg8
          simp at f0 f1 f2 f3
          by_cases hko : x.it = one
          · have HB1 : Hid (runB one (l.take (k + 1)) = (runB one (l.take k)).act x one) := Lib.hid (by rw [runB_succ HX.out, if_pos hko])
            have e4 : ((keyOf x.k x.key).toList != one.toList) = false := by rw [show keyOf x.k x.key = one from hko]; simp
            have e5 : ((keyOf x.k x.key).toList == one.toList) = true := by rw [show keyOf x.k x.key = one from hko]; simp
            clear hko
            go_wp2_with fail
            refine (pick_calls x.op 4 _ hxw.1.1 hxw.1.2 (by omega) (by omega)).mono ?_
            rintro e w9 ⟨rfl, rfl⟩
            go_wp2_with fail
            refine (apart_delete hX8.swap one).mono ?_
            rintro e w9 ⟨rfl, hX9', _⟩
            have hX9 := hX9'.swap
            rw [← HSB.out] at hX9
            clear hX8 hX9'
            go_wp2_with fail
            go_roundw
            case rel =>
              have hz := hX9.less
              rw [← runA_succ HX.out, ← HB1.out] at hz
              exact ⟨k + 1, by omega, by go_num, hz⟩
            case measure => simp [intOf]; omega
          · have HB1 : Hid (runB one (l.take (k + 1)) = runB one (l.take k)) := Lib.hid (by rw [runB_succ HX.out, if_neg hko])
            have e4 : ((keyOf x.k x.key).toList != one.toList) = true := by simp; exact fun e => hko (list_inj e)
            have e5 : ((keyOf x.k x.key).toList == one.toList) = false := by simp; exact fun e => hko (list_inj e)
            clear hko
            go_wp2_with fail
            go_roundw
            case rel =>
              have hz := hX8.less
              rw [← runA_succ HX.out, ← HB1.out] at hz
              exact ⟨k + 1, by omega, by go_num, hz⟩
            case measure => simp [intOf]; omega
        · have HSA : Hid ((runA (l.take k)).act x x.it = (runA (l.take k)).put x.it x.blob) := Lib.hid (by rw [St.act, if_neg h3])
          have HSB : Hid ((runB one (l.take k)).act x one = (runB one (l.take k)).put one x.blob) := Lib.hid (by rw [St.act, if_neg h3])
          have e3 : (pickZ x.op 4 == 3) = false := by simp [h3]
          have HG := Lib.hid hg0
          clear h3 hg0
          go_wp2_with fail
          refine (pick_calls x.op 4 _ hxw.1.1 hxw.1.2 (by omega) (by omega)).mono ?_
          rintro e w6 ⟨rfl, rfl⟩
          go_wp2_with fail
          have hX' := hX.keep (Below.refl _ _).drew
          have q0 := cell_of_row _ wr.heap.size 0 _ _ _ HG.out
          have q1 := cell_of_row _ wr.heap.size 1 _ _ _ HG.out
          have q2 := cell_of_row _ wr.heap.size 2 _ _ _ HG.out
          have q3 := cell_of_row _ wr.heap.size 3 _ _ _ HG.out
          have HQ := Lib.hid (And.intro q0 (And.intro q1 (And.intro q2 q3)))
          clear q0 q1 q2 q3
          go_region_held3 (fun w' => w'.cell? ⟨wr.heap.size, 0, none⟩ = some (.int .i64 x.op) ∧ w'.cell? ⟨wr.heap.size, 1, none⟩ = some (.int .i64 x.k) ∧ w'.cell? ⟨wr.heap.size, 2, none⟩ = some (.string x.key) ∧ w'.cell? ⟨wr.heap.size, 3, none⟩ = some (.string x.blob)) (first | exact HQ.out | exact HQ6.out | exact HQ7.out) (first
            | (go_at_call 16; refine (key_calls x.op x.k x.key x.blob _ hxw.2.1.1 hxw.2.1.2).mono ?_; rintro e w6 ⟨rfl, hb⟩; obtain ⟨hX6, hK6⟩ := below_apart hX' hb; have hg6 := (hK6 _ rfl).trans HG.out; have HQ6 := Lib.hid (act_cells hg6); clear hb hX hX' hK6)
            | (go_at_call 19; refine (apart_put hX6 _ x.blob).mono ?_; rintro e w7 ⟨rfl, hX7, hK7⟩; have hg7 := (hK7 _ rfl).trans hg6; have HQ7 := Lib.hid (act_cells hg7); clear hX6 hK7 hg6))
          change Apart2 _ _ _ _ ((runA (l.take k)).put x.it x.blob) _ _ _ at hX7
          rw [← HSA.out] at hX7
          have d0 := cell_of_row w7 wr.heap.size 0 _ _ _ hg7
          have d1 := cell_of_row w7 wr.heap.size 1 _ _ _ hg7
          have d2 := cell_of_row w7 wr.heap.size 2 _ _ _ hg7
          have d3 := cell_of_row w7 wr.heap.size 3 _ _ _ hg7
          simp at d0 d1 d2 d3
          go_wp2_with fail
          refine (key_calls x.op x.k x.key x.blob _ hxw.2.1.1 hxw.2.1.2).mono ?_
          rintro e w8 ⟨rfl, hb⟩
          obtain ⟨hX8, hK8⟩ := below_apart hX7 hb
          have hg8 := (hK8 _ rfl).trans hg7
          clear hb hX7 hK8 hg7 d0 d1 d2 d3
          have f0 := cell_of_row w8 wr.heap.size 0 _ _ _ hg8
          have f1 := cell_of_row w8 wr.heap.size 1 _ _ _ hg8
          have f2 := cell_of_row w8 wr.heap.size 2 _ _ _ hg8
          have f3 := cell_of_row w8 wr.heap.size 3 _ _ _ hg8
          simp at f0 f1 f2 f3
          by_cases hko : x.it = one
          · have HB1 : Hid (runB one (l.take (k + 1)) = (runB one (l.take k)).act x one) := Lib.hid (by rw [runB_succ HX.out, if_pos hko])
            have e4 : ((keyOf x.k x.key).toList != one.toList) = false := by rw [show keyOf x.k x.key = one from hko]; simp
            have e5 : ((keyOf x.k x.key).toList == one.toList) = true := by rw [show keyOf x.k x.key = one from hko]; simp
            clear hko
            go_wp2_with fail
            refine (pick_calls x.op 4 _ hxw.1.1 hxw.1.2 (by omega) (by omega)).mono ?_
            rintro e w9 ⟨rfl, rfl⟩
            go_wp2_with fail
            refine (apart_put hX8.swap one x.blob).mono ?_
            rintro e w9 ⟨rfl, hX9', _⟩
            have hX9 := hX9'.swap
            rw [← HSB.out] at hX9
            clear hX8 hX9'
            go_wp2_with fail
            go_roundw
            case rel =>
              have hz := hX9.less
              rw [← runA_succ HX.out, ← HB1.out] at hz
              exact ⟨k + 1, by omega, by go_num, hz⟩
            case measure => simp [intOf]; omega
          · have HB1 : Hid (runB one (l.take (k + 1)) = runB one (l.take k)) := Lib.hid (by rw [runB_succ HX.out, if_neg hko])
            have e4 : ((keyOf x.k x.key).toList != one.toList) = true := by simp; exact fun e => hko (list_inj e)
            have e5 : ((keyOf x.k x.key).toList == one.toList) = false := by simp; exact fun e => hko (list_inj e)
            clear hko
            go_wp2_with fail
            go_roundw
            case rel =>
              have hz := hX8.less
              rw [← runA_succ HX.out, ← HB1.out] at hz
              exact ⟨k + 1, by omega, by go_num, hz⟩
            case measure => simp [intOf]; omega
      · have hkl : k = l.length := by omega
        rw [hkl, List.take_length] at hAp
        obtain ⟨hal, hpu⟩ := alike_run one HO'.out l hmx
        obtain ⟨g1, g2, g3⟩ := hal.get
        clear hkl
        have e1 : (((runA l).get one).toList == ((runB one l).get one).toList) = true := by rw [g1]; simp
        have e2 : ((runA l).getErr one == (runB one l).getErr one) = true := by rw [g2]; simp
        have e3 : decide ((runA l).versions one = (runB one l).versions one) = true := by rw [g3]; simp
        have e4 : (((runB one l).puts : Int) == ((runB one l).versions one).length) = true := by rw [hal.puts]; simp
        have e5 : ((runB one l).puts : Int) ≤ (runA l).puts := by have := hal.le; omega
        clear g1 g2 g3 hal
        go_wp2_with fail
        refine (apart_get hAp one).mono ?_
        rintro e w9 ⟨rfl, rfl⟩
        go_wp2_with fail
        refine (apart_get hAp.swap one).mono ?_
        rintro e w9 ⟨rfl, rfl⟩
        go_wp2_with fail
        refine (apart_versions hAp one).mono ?_
        rintro e w9 ⟨v1, rfl, hv1, hb9⟩
        have hA9 := hAp.keep hb9
        go_wp2_with fail
        refine (apart_versions hA9.swap one).mono ?_
        rintro e w10 ⟨v2, rfl, hv2, hb10⟩
        have hA10 := hA9.keep hb10
        have hv1' := hv1.below hb10
        clear hv1 hb9 hb10 hA9
        go_wp2_with fail
        refine (same_calls _ _ _ _ _ hv1' hv2).mono ?_
        rintro e w11 ⟨rfl, hd⟩
        rw [e3]
        have hA11 := hA10.keep hd.below
        clear hd hv1' hv2 hA10
        go_wp2_with fail
        refine (apart_puts hA11.swap).mono ?_
        rintro e w12 ⟨rfl, rfl⟩
        go_wp2_with fail
        refine (apart_versions hA11.swap one).mono ?_
        rintro e w13 ⟨v3, rfl, hv3, hb13⟩
        have hA13 := hA11.keep hb13
        obtain ⟨A3, c3, rfl, _⟩ := hv3
        clear hb13 hA11
        go_wp2_with fail
        refine (apart_puts hA13).mono ?_
        rintro e w14 ⟨rfl, rfl⟩
        go_wp2_with fail
        refine (apart_puts hA13.swap).mono ?_
        rintro e w14 ⟨rfl, rfl⟩
        go_wp2_with fail
        go_ret
        exact ⟨rfl, by have := hA13.kept; rw [HB.out] at this ⊢; exact this.new⟩
  · have hl' : lightB l = false := by simpa using hl
    rw [hl']
    go_wp2
    go_ret
    exact ⟨rfl, by have := hAp.kept; rw [HB.out] at this ⊢; exact this.new⟩
end Go.Proofs.Ytcalfjakgidhfaa
