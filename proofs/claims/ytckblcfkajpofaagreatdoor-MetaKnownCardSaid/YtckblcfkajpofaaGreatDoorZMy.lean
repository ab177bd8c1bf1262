/- law 8: MetaKnown. (Printed by tools/gmy.py.) -/
import Derived.Test.YtckblcfkajpofaaGreatDoorZMw
namespace Go.Proofs.YtckblcfkajpofaaGreatDoor
open Go.RowKit Go.Sort
set_option linter.unusedVariables false
set_option linter.unusedSimpArgs false

theorem pairV_one (l : List (ByteArray × ByteArray)) : ∀ u ∈ pairV l, u.oneCell' = true := by
  intro u hu
  unfold pairV at hu
  obtain ⟨x, _, hx⟩ := List.mem_flatMap.1 hu
  simp only [twoV, List.mem_cons, List.not_mem_nil, or_false] at hx
  rcases hx with rfl | rfl <;> rfl
/-- pairs behind a row of the call's own -/
theorem append_pairs {w : World} {base : Nat} {v vm : Value} {l m : Knowns} (ho : w.ownsRow base 75 2 v l.length (pairV l)) (hm : rowsOf 2 twoV w vm m) (hl : l.length + m.length ≤ 100000) (hb : base ≤ w.heap.size) :
    ∃ v' w', (Builtin.append_ #[72, 72] 72 #[v, vm]).run Tryz.prog w = .ok v' w' ∧
      w'.ownsRow base 75 2 v' (l ++ m).length (pairV (l ++ m)) ∧ Keep (fun i => v.ownBlock = some i) w w' := by
  obtain ⟨i0, hi, hz0, hz1, hz2⟩ := info_parts info_kn
  obtain ⟨A, c, rfl, h1, h2, h3⟩ := hm
  cases A with
  | none =>
    have hm0 : m = [] := by
      cases m with
      | nil => rfl
      | cons x m => obtain ⟨b, off, e, _⟩ := h3 (by simp); cases e
    subst hm0
    refine ⟨v, w, ?_, by simpa using ho, Keep.refl _ _⟩
    rcases ho.2 with ⟨rfl, h0⟩ | ⟨g, cap, cur, rfl, _, _, hnc, _⟩
    · simp [Builtin.append_, run_underlying Tryz.underlying72, sizeOf, typeInfo, hi, Builtin.lenOf, Builtin.firstCells, h0]
    · simp [Builtin.append_, run_underlying Tryz.underlying72, sizeOf, typeInfo, hi, Builtin.lenOf, Builtin.firstCells, hnc, storeCells]
  | some ad =>
    obtain ⟨v', w', hr, o1, o2, o3, o4⟩ := run_append_own_at (P := Tryz.prog) w base 72 72 75 i0 (.agg #[.string ⟨#[]⟩, .string ⟨#[]⟩]) 2 32 Tryz.underlying72 hi hz0 hz1 hz2 rfl (by decide) v l.length (pairV l) ho ad m.length c (pairV m) (pairV_length m) (fun j u hj => by
        have hlt := (List.getElem?_eq_some_iff.1 hj).1
        rw [pairV_length] at hlt
        obtain ⟨x, hx⟩ : ∃ x, m[j / 2]? = some x := ⟨_, List.getElem?_eq_getElem (by omega)⟩
        obtain ⟨b, off, e', hc⟩ := h3 (by omega)
        cases e'
        rw [add_at]
        have h4 := pairV_get hx (j := j % 2) (Nat.mod_lt _ (by decide))
        rw [show j / 2 * 2 + j % 2 = j by omega, hj] at h4
        have h5 := hc (j / 2) x hx (j % 2) u h4.symm
        rw [show off + j / 2 * 2 + j % 2 = off + j by omega] at h5
        exact h5) (pairV_one m) (by unfold maxLen; omega) (by omega) hb
    refine ⟨v', w', hr, ?_, Keep.of_grown o2 fun i e => e⟩
    unfold pairV at o1 ⊢
    rw [List.flatMap_append, List.length_append]; exact o1
theorem rot_at {b k : Nat} (hk : k < 8) : ((rotL b).map fun u => (u, pkOf u))[k]? = kn8[(k + b) % 8]? := by
  have hl : (k + b) % 8 < whoList.length := Nat.mod_lt _ (by decide)
  unfold rotL kn8
  rw [List.getElem?_map, List.getElem?_map, List.getElem?_map, List.getElem?_range hk, List.getElem?_eq_getElem hl]
  simp only [Option.map_some, List.getD_eq_getElem?_getD, List.getElem?_eq_getElem hl, Option.getD_some]
theorem rot_len (b : Nat) : ((rotL b).map fun u => (u, pkOf u)).length = 8 := by unfold rotL; simp
theorem knT_size (b : Nat) : ∀ x ∈ knT b, x.2.size ≤ 9223372036854775807 := by
  have hp : ∀ u : ByteArray, u.size ≤ 16 → (pkOf u).size ≤ 9223372036854775807 := fun u hu => by
    obtain ⟨⟨_, _, _, h3⟩, _⟩ := pkOf_is hu
    rw [toL_len] at h3; omega
  intro x hx
  unfold knT at hx
  rcases List.mem_append.1 hx with hx | hx
  · rw [List.mem_singleton] at hx; subst hx; decide
  rcases List.mem_append.1 hx with hx | hx
  · obtain ⟨u, hu, rfl⟩ := List.mem_map.1 hx
    refine hp u ?_
    unfold rotL at hu
    obtain ⟨i, hi, rfl⟩ := List.mem_map.1 hu
    have h8 : (i + b) % 8 < whoList.length := Nat.mod_lt _ (by decide)
    rw [List.getD_eq_getElem?_getD, List.getElem?_eq_getElem h8]
    have := whoList_size _ (List.getElem_mem h8)
    show (whoList[(i + b) % 8]).size ≤ 16
    omega
  · simp only [List.mem_cons, List.not_mem_nil, or_false] at hx
    rcases hx with rfl | rfl
    · exact hp zoeB (by decide)
    · decide
theorem MtOwn.next {B : Nat} {w0 w w2 : World} {z : Nat} {m : Mt} (h : MtOwn B w0 w z m) (k : Below w.heap.size w w2) : ∃ vr vw vv vb, w2.heap[z]? = some (.cells (mtCells m vr vw vv vb) 42 (0, 0)) ∧ MLists w2 m vr vw vv vb ∧ (∃ A c, vr = .slice A m.r.rd.length c) ∧ (∃ A c, vw = .slice A m.r.wr.length c) ∧ (∃ A c, vv = .slice A m.vf.length c) ∧ ∃ A c, vb = .slice A m.bl.length c := by
  obtain ⟨vr, vw, vv, vb, h1, h2, _, h3⟩ := h
  obtain ⟨a1, b1, e1, _⟩ := own_slice h2.rd
  obtain ⟨a2, b2, e2, _⟩ := own_slice h2.wr
  obtain ⟨a3, b3, e3, _⟩ := own_slice h2.vf
  obtain ⟨a4, b4, e4, _⟩ := own_slice h2.bl
  exact ⟨vr, vw, vv, vb, (Keep.of_below k : Keep (fun _ => False) w w2).at h1 fun e => e, h2.lists.below k, ⟨a1, b1, e1⟩, ⟨a2, b2, e2⟩, ⟨a3, b3, e3⟩, ⟨a4, b4, e4⟩⟩
set_option maxRecDepth 100000 in
set_option maxHeartbeats 8000000 in
theorem metaKnown_calls (w : World) (v1 : Value) (l1 : List (Int × Int)) (ver : Nat) (root by_ : Int) (hv1 : rowsOf 2 turnRow w v1 l1) (hw1 : ∀ t ∈ l1, turnWf t) (hver : ver < 18446744073709551616) (hq1 : -9223372036854775808 ≤ root) (hq2 : root ≤ 9223372036854775807) (hq3 : -9223372036854775808 ≤ by_) (hq4 : by_ ≤ 9223372036854775807) (hT : Tabs w) :
    Calls Tryz.prog 7 #[v1, .int .u64 ver, .int .i64 root, .int .i64 by_] w fun e w' => e = .returned (.bool true) ∧ Below w.heap.size w w' := by
  have HS1 := Lib.hid (shown8_calls w hT)
  have HT := Lib.hid hT
  obtain ⟨A1, c1, rfl, q1, q2⟩ := rowsOf.form hv1
  have HV1 := Lib.hid hv1
  have HW1 := Lib.hid hw1
  obtain ⟨n1, hn1⟩ : ∃ n, l1.length = n := ⟨_, rfl⟩
  rw [hn1] at q1 q2 HV1 ⊢
  obtain ⟨b, hb8, hbl⟩ : ∃ b : Nat, pickZ by_ 8 = (b : Int) ∧ b < 8 := by
    have := pickZ_lt by_ (n := 8) (by decide)
    exact ⟨(pickZ by_ 8).toNat, by omega, by omega⟩
  have HPK := Lib.hid (fun W => pick8_calls by_ 8 W hq3 hq4 (by decide) (by decide))
  rw [hb8] at HPK
  obtain ⟨R, hR⟩ : ∃ R, (pickZ root 5).toNat = R := ⟨_, rfl⟩
  have hR5 : R < 5 := by have := pickZ_lt root (n := 5) (by decide); omega
  have HRO := Lib.hid (fun W => rootOf8_calls root W hq1 hq2)
  rw [hR] at HRO
  have HBL := Lib.hid hbl
  have HR5 := Lib.hid hR5
  have HVER := Lib.hid hver
  clear hq1 hq2 hq3 hq4 hb8 hbl hR hR5 hver
  clear hv1 hw1 hT
  have HN1 := Lib.hid hn1
  clear hn1
  go_enter Tryz.func7, Tryz.ntmps7
  go_wp2_with fail
  refine HS1.out.mono ?_
  rintro e w1 ⟨rfl, hb1⟩
  have B1 := Lib.hid hb1
  clear hb1
  have HTU1 := Lib.hid (turned8_calls w1 _ l1 (HV1.out.below B1.out) HW1.out)
  go_wp2_with fail
  refine HTU1.out.mono ?_
  rintro e w2 ⟨⟨vr2, vw2, rfl, hl2⟩, hb2⟩
  have HOK1 := Lib.hid (turnedP_ok l1)
  obtain ⟨r1, hr1⟩ : ∃ r, turnedP l1 = r := ⟨_, rfl⟩
  rw [hr1] at hl2 HOK1 ⊢
  obtain ⟨D3, cD3, rfl, _, _⟩ := hl2.rd.form
  obtain ⟨E3, cE3, rfl, _, _⟩ := hl2.wr.form
  have B2 := Lib.hid (B1.out.trans (hb2.mono B1.out.size))
  have HL2 := Lib.hid hl2
  clear hl2 hb2 hr1
  dsimp only [agR]
  go_wp2_with (with_reducible refine wp_stop_store (o := ⟨none, .store _ (.tmp 10) _, _, _, _, _⟩) _ _ _ rfl ?_)
  unfold Stop
  refine wp_store_all rfl _ _ _ rfl rfl rfl _ _ ((get_alloc _ _ _).trans (if_pos rfl)) info_rt rfl (by simp [Value.oneCell']) ?_
  intro w4 h4 k4 s4
  obtain ⟨Z1, hZ1⟩ : ∃ Z, w2.heap.size = Z := ⟨_, rfl⟩
  have hb24 : Below w2.heap.size w2 w4 := below_at ((Below.refl w2.heap.size w2).alloc (Nat.le_refl _) _) k4 (Nat.le_refl _)
  have B4 := Lib.hid (B2.out.trans (hb24.mono B2.out.size))
  have HLw4 := Lib.hid (HL2.out.below hb24)
  rw [hZ1] at h4 ⊢
  have HZw4 := Lib.hid h4
  clear hb24 h4 k4 s4 hZ1
  obtain ⟨m1, hm1⟩ : ∃ m, (r1.epoch + 1).toNat = m := ⟨_, rfl⟩
  have g1 := Rt.right_good HOK1.out.right
  have u1 := g1.lo
  have u2 := g1.hi
  have hwr1 : IntKind.i64.wrap (r1.epoch + 1) = (m1 : Int) := by
    rw [show (m1 : Int) = r1.epoch + 1 by omega]
    simp only [IntKind.wrap, IntKind.bits, IntKind.signed]
    first | omega | (simp; omega) | (split <;> omega)
  have HM1 : Hid ((r1.epoch + 1 : Int) = m1 ∧ 1 ≤ m1 ∧ m1 ≤ 8 ∧ (r1.epoch + 1).toNat = m1) := Lib.hid (by omega)
  clear g1 u1 u2 hm1
  go_wp2_with fail
  refine (known8_calls w4).mono ?_
  rintro e w5 ⟨v5, rfl, ho5, hb5⟩
  have B5 := Lib.hid (B4.out.trans (hb5.mono B4.out.size))
  have HLw5 := Lib.hid (HLw4.out.below hb5)
  have HZw5 := Lib.hid ((Keep.of_below hb5 : Keep (fun _ => False) w4 w5).at HZw4.out fun e => e)
  have hk5 := rows_own ho5
  obtain ⟨gk, ok, ck, e5, _⟩ := hk5.cell2 (kn8_at (k := 0) (by decide))
  subst e5
  have HK5 := Lib.hid hk5
  rw [show kn8.length = 8 from kn8_len]
  clear hb5 ho5 hk5
  go_wp2_with fail
  go_loopw [12, 13] (fun out i wr => ∃ (k : Nat) (o : Knowns), k ≤ 8 ∧ i = .int .i64 k ∧ o.length = k ∧ Hid (o = ((rotL b).map fun u => (u, pkOf u)).take k) ∧ Hid (wr.ownsRow w5.heap.size 75 2 out o.length (pairV o) ∧ Below w5.heap.size w5 wr)) (fun _ i _ => 8 - (intOf i).toNat)
  case atStart => exact ⟨0, [], by omega, rfl, rfl, Lib.hid rfl, Lib.hid ⟨World.ownsRow_nil _ _ _ _, Below.refl _ _⟩⟩
  case round =>
    obtain ⟨k, o, hk, rfl, hol, HE, HO⟩ := hrel
    obtain ⟨D, cd, rfl, _, _⟩ := own_slice HO.out.1
    by_cases hlt : k < 8
    · have hkk : (k : Int) < 8 := by omega
      obtain ⟨jn, hjn⟩ : ∃ j, (k + b) % 8 = j := ⟨_, rfl⟩
      have hj8 : jn < 8 := by omega
      have hw1 : IntKind.i64.wrap ((k : Int) + (b : Int)) = (k : Int) + (b : Int) := by
        have := HBL.out
        simp only [IntKind.wrap, IntKind.bits, IntKind.signed]
        first | omega | (simp; omega) | (split <;> omega)
      have hw2 : ((k : Int) + (b : Int)).tmod 8 = (jn : Int) := by rw [Int.tmod_eq_emod_of_nonneg (by omega)]; omega
      have hw3 : ((k : Int) + (b : Int)) % 8 = (jn : Int) := by omega
      have hw4 : IntKind.i64.wrap (jn : Int) = (jn : Int) := by
        simp only [IntKind.wrap, IntKind.bits, IntKind.signed]
        first | omega | (simp; omega) | (split <;> omega)
      obtain ⟨⟨X, Y⟩, hXY⟩ : ∃ x, kn8[jn]? = some x := ⟨_, kn8_at hj8⟩
      have hrot := rot_at (b := b) (k := k) hlt
      rw [hjn, hXY] at hrot
      obtain ⟨gk', ok', ck', e5, _, _, hc1, hc2⟩ := (HK5.out.below HO.out.2).cell2 hXY
      obtain ⟨rfl, rfl, rfl⟩ : gk = gk' ∧ ok = ok' ∧ ck = ck' := by cases e5; exact ⟨rfl, rfl, rfl⟩
      obtain ⟨p', w9, hrun, ho9, hk9, _⟩ := append_pair Tryz.underlying72 info_kn HO.out.1 (X, Y) (by omega) HO.out.2.size
      have HX : Hid (w9.ownsRow w5.heap.size 75 2 p' (o ++ [(X, Y)]).length (pairV (o ++ [(X, Y)])) ∧ Below w5.heap.size w5 w9) := Lib.hid ⟨ho9, below_own HO.out.2 HO.out.1 hk9⟩
      have HE2 : Hid (o ++ [(X, Y)] = ((rotL b).map fun u => (u, pkOf u)).take (k + 1)) := Lib.hid (by rw [HE.out, List.take_add_one, hrot]; rfl)
      have hl1 : (o ++ [(X, Y)]).length = k + 1 := by rw [List.length_append, hol]; rfl
      rw [hol] at hrun
      dsimp only at hrun hc1 hc2
      have HL1 := Lib.hid hl1
      have HOL := Lib.hid hol
      rw [hol]
      clear hjn hXY hrot e5 ho9 hk9 hl1 hol
      go_wp2_with fail
      refine (HPK.out _).mono ?_
      rintro e w_ ⟨rfl, rfl⟩
      go_wp2_with (at_builtin; refine wp_append_run rfl _ _ _ rfl rfl rfl hrun ?_)
      clear hrun hc1 hc2 hw1 hw2 hw3 hw4
      go_wp2_with fail
      go_roundw
      case rel => exact ⟨k + 1, o ++ [(X, Y)], by omega, by go_num, HL1.out, HE2, HX⟩
      case measure => simp [intOf]; omega
    · obtain rfl : k = 8 := by omega
      have HF : Hid (o = (rotL b).map fun u => (u, pkOf u)) := Lib.hid (by rw [HE.out, List.take_of_length_le (by rw [rot_len]; omega)])
      have B6 := Lib.hid (B5.out.trans (HO.out.2.mono B5.out.size))
      have HLwr := Lib.hid (HLw5.out.below HO.out.2)
      have HZwr := Lib.hid ((Keep.of_below HO.out.2 : Keep (fun _ => False) w5 wr).at HZw5.out fun e => e)
      have HKr := Lib.hid (HK5.out.below HO.out.2)
      have HOr := Lib.hid HO.out.1
      have HOL := Lib.hid hol
      rw [hol]
      clear HE HO hol hk
      -- one ahead of them
      obtain ⟨wx, hwx⟩ : ∃ W, wr.alloc (.cells #[.string ⟨#[122, 111, 101]⟩, .string ⟨#[120]⟩] 75) = W := ⟨_, rfl⟩
      have hb6 : Below wr.heap.size wr wx := by rw [← hwx]; exact (Below.refl _ wr).alloc (Nat.le_refl _) _
      have ho6 : wx.ownsRow wr.heap.size 75 2 (.slice (some ⟨wr.heap.size, 0, none⟩) 1 1) ([(zoeB, xB)] : Knowns).length (pairV [(zoeB, xB)]) := by
        rw [← hwx]; exact World.ownsRow_lit (e := 75) (size := 2) (base := wr.heap.size) wr #[.string zoeB, .string xB] 1 (Nat.le_refl _) (by decide) rfl
      obtain ⟨v7, w7, hrun7, ho7, hk7⟩ := append_pairs ho6 (rows_own (own_below HOr.out hb6)) (by have := HOL.out; simp; omega) hb6.size
      obtain ⟨D7, cD7, rfl, _, _⟩ := own_slice ho7
      have hb7 : Below wr.heap.size wr w7 := below_own hb6 ho6 hk7
      have hl7 : ([(zoeB, xB)] ++ o : Knowns).length = 9 := by rw [List.length_append, HOL.out]; rfl
      rw [hl7] at hrun7
      rw [HOL.out] at hrun7
      have HO7 := Lib.hid ho7
      have HB7 := Lib.hid hb7
      clear hb6 ho6 ho7 hk7 hb7 hl7
      go_wp2_with (at_builtin; refine wp_append_run rfl _ _ _ rfl rfl rfl hrun7 ?_)
      clear hrun7 hwx
      obtain ⟨L7, hL7⟩ : ∃ L : Knowns, [(zoeB, xB)] ++ o = L := ⟨_, rfl⟩
      rw [hL7] at HO7
      have HL7 : Hid (L7 = [(zoeB, xB)] ++ (rotL b).map fun u => (u, pkOf u)) := Lib.hid (by rw [← hL7, HF.out])
      have HN7 : Hid (L7.length = 9) := Lib.hid (by rw [← hL7, List.length_append, HOL.out]; rfl)
      clear hL7
      have B7 := Lib.hid (B6.out.trans (HB7.out.mono B6.out.size))
      have HLw7 := Lib.hid (HLwr.out.below HB7.out)
      have HZw7 := Lib.hid ((Keep.of_below HB7.out : Keep (fun _ => False) wr w7).at HZwr.out fun e => e)
      have HKw7 := Lib.hid (HKr.out.below HB7.out)
      have HPZ := Lib.hid (fun W => publicOf8_calls zoeB W (by decide))
      obtain ⟨PZ, hPZ⟩ : ∃ P, pkOf zoeB = P := ⟨_, rfl⟩
      rw [hPZ] at HPZ
      have HPZe := Lib.hid hPZ
      clear hPZ
      go_wp2_with fail
      refine (HPZ.out _).mono ?_
      rintro e w8 ⟨rfl, hb8⟩
      have B8 := Lib.hid (B7.out.trans (hb8.mono B7.out.size))
      have HLw8 := Lib.hid (HLw7.out.below hb8)
      have HZw8 := Lib.hid ((Keep.of_below hb8 : Keep (fun _ => False) w7 w8).at HZw7.out fun e => e)
      have HKw8 := Lib.hid (HKw7.out.below hb8)
      have HO8 := Lib.hid (own_below HO7.out hb8)
      have HB8 := Lib.hid (HB7.out.trans (hb8.mono HB7.out.size))
      clear hb8
      obtain ⟨wz, hwz⟩ : ∃ W, w8.alloc (.cells #[.string ⟨#[98, 101, 110]⟩, .string PZ, .string ⟨#[99, 121]⟩, .string ⟨#[]⟩] 75) = W := ⟨_, rfl⟩
      have hbz : Below w8.heap.size w8 wz := by rw [← hwz]; exact (Below.refl _ w8).alloc (Nat.le_refl _) _
      have hoz : wz.ownsRow w8.heap.size 75 2 (.slice (some ⟨w8.heap.size, 0, none⟩) 2 2) ([(benB, PZ), (cyB, ⟨#[]⟩)] : Knowns).length (pairV [(benB, PZ), (cyB, ⟨#[]⟩)]) := by
        rw [← hwz]; exact World.ownsRow_lit (e := 75) (size := 2) (base := w8.heap.size) w8 #[.string ⟨#[98, 101, 110]⟩, .string PZ, .string ⟨#[99, 121]⟩, .string ⟨#[]⟩] 2 (Nat.le_refl _) (by decide) rfl
      obtain ⟨v9, w9, hrun9, ho9, hk9⟩ := append_pairs (own_below HO8.out hbz) (rows_own hoz) (by have := HN7.out; simp; omega) (Nat.le_trans HB8.out.size hbz.size)
      obtain ⟨D9, cD9, rfl, _, _⟩ := own_slice ho9
      have hb89 : Below wr.heap.size wr w9 := below_own (HB8.out.trans (hbz.mono HB8.out.size)) (own_below HO8.out hbz) hk9
      have HKT : Hid (L7 ++ [(benB, PZ), (cyB, ⟨#[]⟩)] = knT b) := Lib.hid (by rw [HL7.out, ← HPZe.out, List.append_assoc]; rfl)
      have HO9 := Lib.hid (rows_own ho9)
      rw [HN7.out] at hrun9
      rw [HKT.out] at hrun9 HO9
      obtain ⟨nT, hnT⟩ : ∃ n, (knT b).length = n := ⟨_, rfl⟩
      rw [hnT] at hrun9 HO9
      have B9 := Lib.hid (B6.out.trans (hb89.mono B6.out.size))
      have HLw9 := Lib.hid (HLwr.out.below hb89)
      have HZw9 := Lib.hid ((Keep.of_below hb89 : Keep (fun _ => False) wr w9).at HZwr.out fun e => e)
      have HKw9 := Lib.hid (HKr.out.below hb89)
      clear hbz hoz ho9 hk9 hb89 hnT
      have k2 := (row5 HZw9.out).2.2.1
      go_wp2_with (at_builtin; refine wp_append_run rfl _ _ _ rfl rfl rfl hrun9 ?_)
      clear hrun9 hwz
      refine (signersOf8_calls m1 w9 (by have := HM1.out; omega)).mono ?_
      rintro e w10 ⟨v10, rfl, hos, hb10⟩
      obtain ⟨D10, cD10, rfl, _, _⟩ := own_slice hos
      have B10 := Lib.hid (B9.out.trans (hb10.mono B9.out.size))
      have HLw10 := Lib.hid (HLw9.out.below hb10)
      have HZw10 := Lib.hid ((Keep.of_below hb10 : Keep (fun _ => False) w9 w10).at HZw9.out fun e => e)
      have HKw10 := Lib.hid (HKw9.out.below hb10)
      have HOw10 := Lib.hid (HO9.out.below hb10)
      have HSw10 := Lib.hid (strs_own hos)
      have hbd1 := HOK1.out.bld (root := R) HR5.out kn8_pub
      have hbd2 := HOK1.out.bld (root := R) HR5.out (knT_pub b)
      rw [HM1.out.2.2.2] at hbd1 hbd2
      have HBD1 := Lib.hid hbd1
      have HBD2 := Lib.hid hbd2
      have hks : ∀ x ∈ kn8, x.2.size ≤ 9223372036854775807 := fun x hx => by
        unfold kn8 at hx
        obtain ⟨u, hu, rfl⟩ := List.mem_map.1 hx
        have := whoList_size u hu
        obtain ⟨⟨_, _, _, h3⟩, _⟩ := pkOf_is (u := u) (by omega)
        rw [toL_len] at h3
        show (pkOf u).size ≤ _
        omega
      have HKS := Lib.hid hks
      have HKS2 := Lib.hid (knT_size b)
      obtain ⟨BM1, hBM1⟩ : ∃ B, builtM (secOf annaB) r1 ver (rootN R) (signL m1) pkOf = B := ⟨_, rfl⟩
      have HE1 := Lib.hid hBM1
      clear hos hb10 k2 hbd1 hbd2 hks hBM1
      have HCa := Lib.hid (fun (W : World) (_ : Below w10.heap.size w10 W) => secretOf8_calls annaB W (by decide))
      have HCb := Lib.hid (fun (W : World) (_ : Below w10.heap.size w10 W) => HRO.out W)
      have hCe := fun (W : World) (hb : Below w10.heap.size w10 W) => build_calls W (secOf annaB) (rootN R) r1 _ _ _ _ ver (signL m1) kn8 pkOf (HLw10.out.below hb) (HSw10.out.below hb) (HKw10.out.below hb) HBD1.out HVER.out (HT.out.below (B10.out.trans (hb.mono B10.out.size))) HKS.out
      simp only [HE1.out] at hCe
      have HCe := Lib.hid hCe
      clear hCe
      go_simp
      go_upto_region 14 with fail
      go_cut [15, 16] from 59 to 68 (fun q er wx => ∃ Zm, q = .pointer (some ⟨Zm, 0, none⟩) ∧ er = .int .i64 0 ∧ Hid (MtOwn w.heap.size w10 wx Zm BM1))
      case first =>
        refine wp_region_G (fun W2 => W2.cell? ⟨Z1, 0, none⟩ = some (.string r1.owner) ∧ W2.cell? ⟨Z1, 1, none⟩ = some (.string r1.file) ∧ W2.cell? ⟨Z1, 2, none⟩ = some (.int .i64 r1.epoch) ∧ W2.cell? ⟨Z1, 3, none⟩ = some (.slice D3 r1.rd.length cD3) ∧ W2.cell? ⟨Z1, 4, none⟩ = some (.slice E3 r1.wr.length cE3)) [12] (by kernel_rfl) ?_
        have HSS : Hid (∀ W2, Below w10.heap.size w10 W2 → (W2.cell? ⟨Z1, 0, none⟩ = some (.string r1.owner) ∧ W2.cell? ⟨Z1, 1, none⟩ = some (.string r1.file) ∧ W2.cell? ⟨Z1, 2, none⟩ = some (.int .i64 r1.epoch) ∧ W2.cell? ⟨Z1, 3, none⟩ = some (.slice D3 r1.rd.length cD3) ∧ W2.cell? ⟨Z1, 4, none⟩ = some (.slice E3 r1.wr.length cE3))) := Lib.hid (fun W2 hb => row5 ((Keep.of_below hb : Keep (fun _ => False) w10 W2).at HZw10.out fun e => e))
        have hb0 : Below w10.heap.size w10 w10.drew := (Below.refl w10.heap.size w10).drew
        obtain ⟨wd, hwd⟩ : ∃ x, w10.drew = x := ⟨_, rfl⟩
        rw [hwd] at hb0 ⊢
        have hS := HSS.out _ hb0
        refine wpAnyG_take (ws := [1]) (i := 1) (v := ?vf14a1) at1 (by kernel_rfl) (fun _ _ _ h => h) (Or.inl ⟨by rfl, ?hf14a1⟩) (by assumption) ?rf14a1
        case hf14a1 => (intro w hSw; (try dsimp only at hSw); go_simp; try with_reducible rfl)
        case' rf14a1 => skip
        try simp only [Act.put, List.setIfInBounds_toArray, List.set_cons_zero, List.set_cons_succ]
        refine wpAnyG_pure (i := 2) (v := ?vf14a2) at2 (by kernel_rfl) (fun _ _ _ h => h) (Or.inl ⟨by rfl, ?hf14a2⟩) (Or.inr (by assumption)) ?rf14a2
        case hf14a2 => (intro w hSw; (try dsimp only at hSw); go_simp; try with_reducible rfl)
        case' rf14a2 => skip
        try simp only [Act.put, List.setIfInBounds_toArray, List.set_cons_zero, List.set_cons_succ]
        refine wpAnyG_pure (i := 3) (v := ?vf14a3) at3 (by kernel_rfl) (fun _ _ _ h => h) (Or.inl ⟨by rfl, ?hf14a3⟩) (Or.inr (by assumption)) ?rf14a3
        case hf14a3 => (intro w hSw; (try dsimp only at hSw); go_simp; try with_reducible rfl)
        case' rf14a3 => skip
        try simp only [Act.put, List.setIfInBounds_toArray, List.set_cons_zero, List.set_cons_succ]
        refine wpAnyG_pure (i := 5) (v := ?vf14a5) at5 (by kernel_rfl) (fun _ _ _ h => h) (Or.inl ⟨by rfl, ?hf14a5⟩) (Or.inr (by assumption)) ?rf14a5
        case hf14a5 => (intro w hSw; (try dsimp only at hSw); go_simp; try with_reducible rfl)
        case' rf14a5 => skip
        try simp only [Act.put, List.setIfInBounds_toArray, List.set_cons_zero, List.set_cons_succ]
        refine wpAnyG_pure (i := 6) (v := ?vf14a6) at6 (by kernel_rfl) (fun _ _ _ h => h) (Or.inl ⟨by rfl, ?hf14a6⟩) (Or.inr (by assumption)) ?rf14a6
        case hf14a6 => (intro w hSw; (try dsimp only at hSw); go_simp; try with_reducible rfl)
        case' rf14a6 => skip
        try simp only [Act.put, List.setIfInBounds_toArray, List.set_cons_zero, List.set_cons_succ]
        refine wpAnyG_two 0 11 at0 at11 (by kernel_rfl) (fun Kn hK => ?_) (fun Kn hK => ?_)
        · skip
          go_simp
          refine (HCa.out wd hb0).mono ?_
          rintro e x1 ⟨rfl, hq1⟩
          have hb1 := hb0.trans (hq1.mono hb0.size)
          clear hS
          have hS := HSS.out _ hb1
          refine hK.out _ _ (Or.inr hS) ?_
          clear hK Kn
          try simp only [Act.put, List.setIfInBounds_toArray, List.set_cons_zero, List.set_cons_succ]
          refine wpAnyG_two 4 11 at4 at11 (by kernel_rfl) (fun Kn hK => ?_) (fun Kn hK => ?_)
          · skip
            go_simp
            refine (HCb.out x1 hb1).mono ?_
            rintro e x2 ⟨rfl, hq2⟩
            have hb2 := hb1.trans (hq2.mono hb1.size)
            clear hS
            have hS := HSS.out _ hb2
            refine hK.out _ _ (Or.inr hS) ?_
            clear hK Kn
            try simp only [Act.put, List.setIfInBounds_toArray, List.set_cons_zero, List.set_cons_succ]
            refine wpAnyG_two 7 11 at7 at11 (by kernel_rfl) (fun Kn hK => ?_) (fun Kn hK => ?_)
            · skip
              go_simp
              refine (HCe.out x2 hb2).mono ?_
              rintro e x3 ⟨⟨vr, vw, vv, vbb, rfl, hmo⟩, hq3⟩
              have hb3 := hb2.trans (hq3.mono hb2.size)
              have HBB : Hid (w10.heap.size ≤ _) := Lib.hid hb2.size
              obtain ⟨Am, cm1, rfl, _, _⟩ := own_slice hmo.rd
              obtain ⟨Bm, cm2, rfl, _, _⟩ := own_slice hmo.wr
              obtain ⟨Cm, cm3, rfl, _, _⟩ := own_slice hmo.vf
              obtain ⟨Dm, cm4, rfl, _, _⟩ := own_slice hmo.bl
              have HMB := Lib.hid hmo
              clear hmo
              clear hS
              have hS := HSS.out _ hb3
              refine hK.out _ _ (Or.inr hS) ?_
              clear hK Kn
              try simp only [Act.put, List.setIfInBounds_toArray, List.set_cons_zero, List.set_cons_succ]
              refine wpAnyG_pure (i := 8) (v := ?vf14r48) at8 (by kernel_rfl) (fun _ _ _ h => h) (Or.inl ⟨by rfl, ?hf14r48⟩) (Or.inr (by assumption)) ?rf14r48
              case hf14r48 => (intro w hSw; (try dsimp only at hSw); go_simp; try with_reducible rfl)
              case' rf14r48 => skip
              try simp only [Act.put, List.setIfInBounds_toArray, List.set_cons_zero, List.set_cons_succ]
              refine wpAnyG_pure (i := 9) (v := ?vf14r49) at9 (by kernel_rfl) (fun _ _ _ h => h) (Or.inl ⟨by rfl, ?hf14r49⟩) (Or.inr (by assumption)) ?rf14r49
              case hf14r49 => (intro w hSw; (try dsimp only at hSw); go_simp; try with_reducible rfl)
              case' rf14r49 => skip
              try simp only [Act.put, List.setIfInBounds_toArray, List.set_cons_zero, List.set_cons_succ]
              refine wpAnyG_pure (i := 10) (v := ?vf14r410) at10 (by kernel_rfl) (fun _ _ _ h => h) (Or.inl ⟨by rfl, ?hf14r410⟩) (Or.inr (by assumption)) ?rf14r410
              case hf14r410 => (intro w hSw; (try dsimp only at hSw); go_simp; try with_reducible rfl)
              case' rf14r410 => skip
              try simp only [Act.put, List.setIfInBounds_toArray, List.set_cons_zero, List.set_cons_succ]
              refine wpAnyG_one 11 at11 (by kernel_rfl) (fun Kn hK => ?_)
              go_simp
              obtain ⟨z5, hzz5⟩ : ∃ z, x3.heap.size = z := ⟨_, rfl⟩
              obtain ⟨x5, hx5⟩ : ∃ x, x3.alloc (.cells #[.string ⟨#[]⟩, .string ⟨#[]⟩, .int .i64 0, .slice none 0 0, .slice none 0 0, .int .u64 0, .slice none 0 0, .slice none 0 0, .string ⟨#[]⟩] 42) = x := ⟨_, rfl⟩
              have hz5 : x5.heap[z5]? = some (.cells #[.string ⟨#[]⟩, .string ⟨#[]⟩, .int .i64 0, .slice none 0 0, .slice none 0 0, .int .u64 0, .slice none 0 0, .slice none 0 0, .string ⟨#[]⟩] 42 (0, 0)) := by rw [← hx5, ← hzz5, get_alloc, if_pos rfl]
              have hq5 : Below x3.heap.size x3 x5 := by rw [← hx5]; exact (Below.refl _ x3).alloc (Nat.le_refl _) _
              have HZL : Hid (w10.heap.size ≤ z5) := Lib.hid (by have h1 := (Below.refl w10.heap.size w10).size; have h2 := hb3.size; omega)
              rw [hx5, hzz5]
              have hb5 := hb3.trans (hq5.mono hb3.size)
              have HMB := Lib.hid (HMB.out.below hq5)
              clear hS
              have hS := HSS.out _ hb5
              refine hK.out _ _ (Or.inr hS) ?_
              clear hK Kn
              try simp only [Act.put, List.setIfInBounds_toArray, List.set_cons_zero, List.set_cons_succ]
              refine wpAnyG_one 12 at12 (by kernel_rfl) (fun Kn hK => ?_)
              refine step_store_all rfl _ _ _ rfl rfl rfl _ _ hz5 info_mt rfl (by simp [Value.oneCell']) ?_
              intro y9 h9 k9 s9
              refine hK.out _ _ (Or.inl (by kernel_rfl)) ?_
              have HLEAF : Hid (MtOwn w.heap.size w10 y9 z5 BM1) := Lib.hid ⟨_, _, _, _, h9, (HMB.out.store hz5 k9).lower (Nat.le_trans B10.out.size HBB.out), Nat.le_trans B10.out.size HZL.out, below_at ((Below.refl w10.heap.size w10).trans (hb5.mono (Below.refl w10.heap.size w10).size)) k9 HZL.out⟩
              clear hK Kn h9 k9 s9 hS
              try simp only [Act.put, List.setIfInBounds_toArray, List.set_cons_zero, List.set_cons_succ]
              refine wpAnyG_one 13 at13 (by kernel_rfl) (fun Kn hK => ?_)
              go_simp
              refine hK.out _ _ (Or.inl (by kernel_rfl)) ?_
              clear hK Kn
              refine wpAnyG_done (by kernel_rfl) ?_
              try simp only [Act.put, List.setIfInBounds_toArray, List.set_cons_zero, List.set_cons_succ]
              go_wp2_with fail
              go_meet
              exact ⟨_, rfl, rfl, HLEAF⟩
            · skip
              go_simp
              obtain ⟨z6, hzz6⟩ : ∃ z, x2.heap.size = z := ⟨_, rfl⟩
              obtain ⟨x6, hx6⟩ : ∃ x, x2.alloc (.cells #[.string ⟨#[]⟩, .string ⟨#[]⟩, .int .i64 0, .slice none 0 0, .slice none 0 0, .int .u64 0, .slice none 0 0, .slice none 0 0, .string ⟨#[]⟩] 42) = x := ⟨_, rfl⟩
              have hz6 : x6.heap[z6]? = some (.cells #[.string ⟨#[]⟩, .string ⟨#[]⟩, .int .i64 0, .slice none 0 0, .slice none 0 0, .int .u64 0, .slice none 0 0, .slice none 0 0, .string ⟨#[]⟩] 42 (0, 0)) := by rw [← hx6, ← hzz6, get_alloc, if_pos rfl]
              have hq6 : Below x2.heap.size x2 x6 := by rw [← hx6]; exact (Below.refl _ x2).alloc (Nat.le_refl _) _
              have HZL : Hid (w10.heap.size ≤ z6) := Lib.hid (by have h1 := (Below.refl w10.heap.size w10).size; have h2 := hb2.size; omega)
              rw [hx6, hzz6]
              have hb6 := hb2.trans (hq6.mono hb2.size)
              clear hS
              have hS := HSS.out _ hb6
              refine hK.out _ _ (Or.inr hS) ?_
              clear hK Kn
              try simp only [Act.put, List.setIfInBounds_toArray, List.set_cons_zero, List.set_cons_succ]
              refine wpAnyG_one 7 at7 (by kernel_rfl) (fun Kn hK => ?_)
              go_simp
              refine (HCe.out x6 hb6).mono ?_
              rintro e x7 ⟨⟨vr, vw, vv, vbb, rfl, hmo⟩, hq7⟩
              have hb7 := hb6.trans (hq7.mono hb6.size)
              have hz7 := (Keep.of_below hq7 : Keep (fun _ => False) x6 x7).at hz6 fun e => e
              have HBB : Hid (w10.heap.size ≤ _) := Lib.hid hb6.size
              obtain ⟨Am, cm1, rfl, _, _⟩ := own_slice hmo.rd
              obtain ⟨Bm, cm2, rfl, _, _⟩ := own_slice hmo.wr
              obtain ⟨Cm, cm3, rfl, _, _⟩ := own_slice hmo.vf
              obtain ⟨Dm, cm4, rfl, _, _⟩ := own_slice hmo.bl
              have HMB := Lib.hid hmo
              clear hmo
              clear hS
              have hS := HSS.out _ hb7
              refine hK.out _ _ (Or.inr hS) ?_
              clear hK Kn
              try simp only [Act.put, List.setIfInBounds_toArray, List.set_cons_zero, List.set_cons_succ]
              refine wpAnyG_pure (i := 8) (v := ?vf14r88) at8 (by kernel_rfl) (fun _ _ _ h => h) (Or.inl ⟨by rfl, ?hf14r88⟩) (Or.inr (by assumption)) ?rf14r88
              case hf14r88 => (intro w hSw; (try dsimp only at hSw); go_simp; try with_reducible rfl)
              case' rf14r88 => skip
              try simp only [Act.put, List.setIfInBounds_toArray, List.set_cons_zero, List.set_cons_succ]
              refine wpAnyG_pure (i := 9) (v := ?vf14r89) at9 (by kernel_rfl) (fun _ _ _ h => h) (Or.inl ⟨by rfl, ?hf14r89⟩) (Or.inr (by assumption)) ?rf14r89
              case hf14r89 => (intro w hSw; (try dsimp only at hSw); go_simp; try with_reducible rfl)
              case' rf14r89 => skip
              try simp only [Act.put, List.setIfInBounds_toArray, List.set_cons_zero, List.set_cons_succ]
              refine wpAnyG_pure (i := 10) (v := ?vf14r810) at10 (by kernel_rfl) (fun _ _ _ h => h) (Or.inl ⟨by rfl, ?hf14r810⟩) (Or.inr (by assumption)) ?rf14r810
              case hf14r810 => (intro w hSw; (try dsimp only at hSw); go_simp; try with_reducible rfl)
              case' rf14r810 => skip
              try simp only [Act.put, List.setIfInBounds_toArray, List.set_cons_zero, List.set_cons_succ]
              refine wpAnyG_one 12 at12 (by kernel_rfl) (fun Kn hK => ?_)
              refine step_store_all rfl _ _ _ rfl rfl rfl _ _ hz7 info_mt rfl (by simp [Value.oneCell']) ?_
              intro y9 h9 k9 s9
              refine hK.out _ _ (Or.inl (by kernel_rfl)) ?_
              have HLEAF : Hid (MtOwn w.heap.size w10 y9 z6 BM1) := Lib.hid ⟨_, _, _, _, h9, (HMB.out.store hz7 k9).lower (Nat.le_trans B10.out.size HBB.out), Nat.le_trans B10.out.size HZL.out, below_at ((Below.refl w10.heap.size w10).trans (hb7.mono (Below.refl w10.heap.size w10).size)) k9 HZL.out⟩
              clear hK Kn h9 k9 s9 hS
              try simp only [Act.put, List.setIfInBounds_toArray, List.set_cons_zero, List.set_cons_succ]
              refine wpAnyG_one 13 at13 (by kernel_rfl) (fun Kn hK => ?_)
              go_simp
              refine hK.out _ _ (Or.inl (by kernel_rfl)) ?_
              clear hK Kn
              refine wpAnyG_done (by kernel_rfl) ?_
              try simp only [Act.put, List.setIfInBounds_toArray, List.set_cons_zero, List.set_cons_succ]
              go_wp2_with fail
              go_meet
              exact ⟨_, rfl, rfl, HLEAF⟩
          · skip
            go_simp
            obtain ⟨z9, hzz9⟩ : ∃ z, x1.heap.size = z := ⟨_, rfl⟩
            obtain ⟨x9, hx9⟩ : ∃ x, x1.alloc (.cells #[.string ⟨#[]⟩, .string ⟨#[]⟩, .int .i64 0, .slice none 0 0, .slice none 0 0, .int .u64 0, .slice none 0 0, .slice none 0 0, .string ⟨#[]⟩] 42) = x := ⟨_, rfl⟩
            have hz9 : x9.heap[z9]? = some (.cells #[.string ⟨#[]⟩, .string ⟨#[]⟩, .int .i64 0, .slice none 0 0, .slice none 0 0, .int .u64 0, .slice none 0 0, .slice none 0 0, .string ⟨#[]⟩] 42 (0, 0)) := by rw [← hx9, ← hzz9, get_alloc, if_pos rfl]
            have hq9 : Below x1.heap.size x1 x9 := by rw [← hx9]; exact (Below.refl _ x1).alloc (Nat.le_refl _) _
            have HZL : Hid (w10.heap.size ≤ z9) := Lib.hid (by have h1 := (Below.refl w10.heap.size w10).size; have h2 := hb1.size; omega)
            rw [hx9, hzz9]
            have hb9 := hb1.trans (hq9.mono hb1.size)
            clear hS
            have hS := HSS.out _ hb9
            refine hK.out _ _ (Or.inr hS) ?_
            clear hK Kn
            try simp only [Act.put, List.setIfInBounds_toArray, List.set_cons_zero, List.set_cons_succ]
            refine wpAnyG_one 4 at4 (by kernel_rfl) (fun Kn hK => ?_)
            go_simp
            refine (HCb.out x9 hb9).mono ?_
            rintro e x10 ⟨rfl, hq10⟩
            have hb10 := hb9.trans (hq10.mono hb9.size)
            have hz10 := (Keep.of_below hq10 : Keep (fun _ => False) x9 x10).at hz9 fun e => e
            clear hS
            have hS := HSS.out _ hb10
            refine hK.out _ _ (Or.inr hS) ?_
            clear hK Kn
            try simp only [Act.put, List.setIfInBounds_toArray, List.set_cons_zero, List.set_cons_succ]
            refine wpAnyG_one 7 at7 (by kernel_rfl) (fun Kn hK => ?_)
            go_simp
            refine (HCe.out x10 hb10).mono ?_
            rintro e x11 ⟨⟨vr, vw, vv, vbb, rfl, hmo⟩, hq11⟩
            have hb11 := hb10.trans (hq11.mono hb10.size)
            have hz11 := (Keep.of_below hq11 : Keep (fun _ => False) x10 x11).at hz10 fun e => e
            have HBB : Hid (w10.heap.size ≤ _) := Lib.hid hb10.size
            obtain ⟨Am, cm1, rfl, _, _⟩ := own_slice hmo.rd
            obtain ⟨Bm, cm2, rfl, _, _⟩ := own_slice hmo.wr
            obtain ⟨Cm, cm3, rfl, _, _⟩ := own_slice hmo.vf
            obtain ⟨Dm, cm4, rfl, _, _⟩ := own_slice hmo.bl
            have HMB := Lib.hid hmo
            clear hmo
            clear hS
            have hS := HSS.out _ hb11
            refine hK.out _ _ (Or.inr hS) ?_
            clear hK Kn
            try simp only [Act.put, List.setIfInBounds_toArray, List.set_cons_zero, List.set_cons_succ]
            refine wpAnyG_pure (i := 8) (v := ?vf14r128) at8 (by kernel_rfl) (fun _ _ _ h => h) (Or.inl ⟨by rfl, ?hf14r128⟩) (Or.inr (by assumption)) ?rf14r128
            case hf14r128 => (intro w hSw; (try dsimp only at hSw); go_simp; try with_reducible rfl)
            case' rf14r128 => skip
            try simp only [Act.put, List.setIfInBounds_toArray, List.set_cons_zero, List.set_cons_succ]
            refine wpAnyG_pure (i := 9) (v := ?vf14r129) at9 (by kernel_rfl) (fun _ _ _ h => h) (Or.inl ⟨by rfl, ?hf14r129⟩) (Or.inr (by assumption)) ?rf14r129
            case hf14r129 => (intro w hSw; (try dsimp only at hSw); go_simp; try with_reducible rfl)
            case' rf14r129 => skip
            try simp only [Act.put, List.setIfInBounds_toArray, List.set_cons_zero, List.set_cons_succ]
            refine wpAnyG_pure (i := 10) (v := ?vf14r1210) at10 (by kernel_rfl) (fun _ _ _ h => h) (Or.inl ⟨by rfl, ?hf14r1210⟩) (Or.inr (by assumption)) ?rf14r1210
            case hf14r1210 => (intro w hSw; (try dsimp only at hSw); go_simp; try with_reducible rfl)
            case' rf14r1210 => skip
            try simp only [Act.put, List.setIfInBounds_toArray, List.set_cons_zero, List.set_cons_succ]
            refine wpAnyG_one 12 at12 (by kernel_rfl) (fun Kn hK => ?_)
            refine step_store_all rfl _ _ _ rfl rfl rfl _ _ hz11 info_mt rfl (by simp [Value.oneCell']) ?_
            intro y9 h9 k9 s9
            refine hK.out _ _ (Or.inl (by kernel_rfl)) ?_
            have HLEAF : Hid (MtOwn w.heap.size w10 y9 z9 BM1) := Lib.hid ⟨_, _, _, _, h9, (HMB.out.store hz11 k9).lower (Nat.le_trans B10.out.size HBB.out), Nat.le_trans B10.out.size HZL.out, below_at ((Below.refl w10.heap.size w10).trans (hb11.mono (Below.refl w10.heap.size w10).size)) k9 HZL.out⟩
            clear hK Kn h9 k9 s9 hS
            try simp only [Act.put, List.setIfInBounds_toArray, List.set_cons_zero, List.set_cons_succ]
            refine wpAnyG_one 13 at13 (by kernel_rfl) (fun Kn hK => ?_)
            go_simp
            refine hK.out _ _ (Or.inl (by kernel_rfl)) ?_
            clear hK Kn
            refine wpAnyG_done (by kernel_rfl) ?_
            try simp only [Act.put, List.setIfInBounds_toArray, List.set_cons_zero, List.set_cons_succ]
            go_wp2_with fail
            go_meet
            exact ⟨_, rfl, rfl, HLEAF⟩
        · skip
          go_simp
          obtain ⟨z13, hzz13⟩ : ∃ z, wd.heap.size = z := ⟨_, rfl⟩
          obtain ⟨x13, hx13⟩ : ∃ x, wd.alloc (.cells #[.string ⟨#[]⟩, .string ⟨#[]⟩, .int .i64 0, .slice none 0 0, .slice none 0 0, .int .u64 0, .slice none 0 0, .slice none 0 0, .string ⟨#[]⟩] 42) = x := ⟨_, rfl⟩
          have hz13 : x13.heap[z13]? = some (.cells #[.string ⟨#[]⟩, .string ⟨#[]⟩, .int .i64 0, .slice none 0 0, .slice none 0 0, .int .u64 0, .slice none 0 0, .slice none 0 0, .string ⟨#[]⟩] 42 (0, 0)) := by rw [← hx13, ← hzz13, get_alloc, if_pos rfl]
          have hq13 : Below wd.heap.size wd x13 := by rw [← hx13]; exact (Below.refl _ wd).alloc (Nat.le_refl _) _
          have HZL : Hid (w10.heap.size ≤ z13) := Lib.hid (by have h1 := (Below.refl w10.heap.size w10).size; have h2 := hb0.size; omega)
          rw [hx13, hzz13]
          have hb13 := hb0.trans (hq13.mono hb0.size)
          clear hS
          have hS := HSS.out _ hb13
          refine hK.out _ _ (Or.inr hS) ?_
          clear hK Kn
          try simp only [Act.put, List.setIfInBounds_toArray, List.set_cons_zero, List.set_cons_succ]
          refine wpAnyG_one 0 at0 (by kernel_rfl) (fun Kn hK => ?_)
          go_simp
          refine (HCa.out x13 hb13).mono ?_
          rintro e x14 ⟨rfl, hq14⟩
          have hb14 := hb13.trans (hq14.mono hb13.size)
          have hz14 := (Keep.of_below hq14 : Keep (fun _ => False) x13 x14).at hz13 fun e => e
          clear hS
          have hS := HSS.out _ hb14
          refine hK.out _ _ (Or.inr hS) ?_
          clear hK Kn
          try simp only [Act.put, List.setIfInBounds_toArray, List.set_cons_zero, List.set_cons_succ]
          refine wpAnyG_one 4 at4 (by kernel_rfl) (fun Kn hK => ?_)
          go_simp
          refine (HCb.out x14 hb14).mono ?_
          rintro e x15 ⟨rfl, hq15⟩
          have hb15 := hb14.trans (hq15.mono hb14.size)
          have hz15 := (Keep.of_below hq15 : Keep (fun _ => False) x14 x15).at hz14 fun e => e
          clear hS
          have hS := HSS.out _ hb15
          refine hK.out _ _ (Or.inr hS) ?_
          clear hK Kn
          try simp only [Act.put, List.setIfInBounds_toArray, List.set_cons_zero, List.set_cons_succ]
          refine wpAnyG_one 7 at7 (by kernel_rfl) (fun Kn hK => ?_)
          go_simp
          refine (HCe.out x15 hb15).mono ?_
          rintro e x16 ⟨⟨vr, vw, vv, vbb, rfl, hmo⟩, hq16⟩
          have hb16 := hb15.trans (hq16.mono hb15.size)
          have hz16 := (Keep.of_below hq16 : Keep (fun _ => False) x15 x16).at hz15 fun e => e
          have HBB : Hid (w10.heap.size ≤ _) := Lib.hid hb15.size
          obtain ⟨Am, cm1, rfl, _, _⟩ := own_slice hmo.rd
          obtain ⟨Bm, cm2, rfl, _, _⟩ := own_slice hmo.wr
          obtain ⟨Cm, cm3, rfl, _, _⟩ := own_slice hmo.vf
          obtain ⟨Dm, cm4, rfl, _, _⟩ := own_slice hmo.bl
          have HMB := Lib.hid hmo
          clear hmo
          clear hS
          have hS := HSS.out _ hb16
          refine hK.out _ _ (Or.inr hS) ?_
          clear hK Kn
          try simp only [Act.put, List.setIfInBounds_toArray, List.set_cons_zero, List.set_cons_succ]
          refine wpAnyG_pure (i := 8) (v := ?vf14r178) at8 (by kernel_rfl) (fun _ _ _ h => h) (Or.inl ⟨by rfl, ?hf14r178⟩) (Or.inr (by assumption)) ?rf14r178
          case hf14r178 => (intro w hSw; (try dsimp only at hSw); go_simp; try with_reducible rfl)
          case' rf14r178 => skip
          try simp only [Act.put, List.setIfInBounds_toArray, List.set_cons_zero, List.set_cons_succ]
          refine wpAnyG_pure (i := 9) (v := ?vf14r179) at9 (by kernel_rfl) (fun _ _ _ h => h) (Or.inl ⟨by rfl, ?hf14r179⟩) (Or.inr (by assumption)) ?rf14r179
          case hf14r179 => (intro w hSw; (try dsimp only at hSw); go_simp; try with_reducible rfl)
          case' rf14r179 => skip
          try simp only [Act.put, List.setIfInBounds_toArray, List.set_cons_zero, List.set_cons_succ]
          refine wpAnyG_pure (i := 10) (v := ?vf14r1710) at10 (by kernel_rfl) (fun _ _ _ h => h) (Or.inl ⟨by rfl, ?hf14r1710⟩) (Or.inr (by assumption)) ?rf14r1710
          case hf14r1710 => (intro w hSw; (try dsimp only at hSw); go_simp; try with_reducible rfl)
          case' rf14r1710 => skip
          try simp only [Act.put, List.setIfInBounds_toArray, List.set_cons_zero, List.set_cons_succ]
          refine wpAnyG_one 12 at12 (by kernel_rfl) (fun Kn hK => ?_)
          refine step_store_all rfl _ _ _ rfl rfl rfl _ _ hz16 info_mt rfl (by simp [Value.oneCell']) ?_
          intro y9 h9 k9 s9
          refine hK.out _ _ (Or.inl (by kernel_rfl)) ?_
          have HLEAF : Hid (MtOwn w.heap.size w10 y9 z13 BM1) := Lib.hid ⟨_, _, _, _, h9, (HMB.out.store hz16 k9).lower (Nat.le_trans B10.out.size HBB.out), Nat.le_trans B10.out.size HZL.out, below_at ((Below.refl w10.heap.size w10).trans (hb16.mono (Below.refl w10.heap.size w10).size)) k9 HZL.out⟩
          clear hK Kn h9 k9 s9 hS
          try simp only [Act.put, List.setIfInBounds_toArray, List.set_cons_zero, List.set_cons_succ]
          refine wpAnyG_one 13 at13 (by kernel_rfl) (fun Kn hK => ?_)
          go_simp
          refine hK.out _ _ (Or.inl (by kernel_rfl)) ?_
          clear hK Kn
          refine wpAnyG_done (by kernel_rfl) ?_
          try simp only [Act.put, List.setIfInBounds_toArray, List.set_cons_zero, List.set_cons_succ]
          go_wp2_with fail
          go_meet
          exact ⟨_, rfl, rfl, HLEAF⟩
      case rest =>
        obtain ⟨Zm1, rfl, rfl, HIh⟩ := hcut
        obtain ⟨wa, hq0, HI1⟩ : ∃ W, W = _ ∧ Hid (MtOwn w.heap.size w10 W Zm1 BM1) := ⟨_, rfl, HIh⟩
        subst hq0
        clear HIh HCa HCb HCe
        have hbel1 : Below w10.heap.size w10 wa := by obtain ⟨_, _, _, _, _, _, _, h⟩ := HI1.out; exact h
        have Ba := Lib.hid (B10.out.trans (hbel1.mono B10.out.size))
        have HZwa := Lib.hid ((Keep.of_below hbel1 : Keep (fun _ => False) w10 wa).at HZw10.out fun e => e)
        have HLwa := Lib.hid (HLw10.out.below hbel1)
        have HKwa := Lib.hid (HKw10.out.below hbel1)
        have HOwa := Lib.hid (HOw10.out.below hbel1)
        have HSwa := Lib.hid (HSw10.out.below hbel1)
        have HCa := Lib.hid (fun (W : World) (_ : Below wa.heap.size wa W) => secretOf8_calls annaB W (by decide))
        have HCb := Lib.hid (fun (W : World) (_ : Below wa.heap.size wa W) => HRO.out W)
        have hCe := fun (W : World) (hb : Below wa.heap.size wa W) => build_calls W (secOf annaB) (rootN R) r1 _ _ _ _ ver (signL m1) (knT b) pkOf (HLwa.out.below hb) (HSwa.out.below hb) (HOwa.out.below hb) HBD2.out HVER.out (HT.out.below (Ba.out.trans (hb.mono Ba.out.size))) HKS2.out
        simp only [HE1.out] at hCe
        have HCe := Lib.hid hCe
        clear hCe
        go_simp
        go_upto_region 15 with fail
        go_cut [17, 18] from 70 to 79 (fun q er wx => ∃ Zm, q = .pointer (some ⟨Zm, 0, none⟩) ∧ er = .int .i64 0 ∧ Hid (MtOwn w.heap.size wa wx Zm BM1))
        case first =>
          refine wp_region_G (fun W2 => W2.cell? ⟨Z1, 0, none⟩ = some (.string r1.owner) ∧ W2.cell? ⟨Z1, 1, none⟩ = some (.string r1.file) ∧ W2.cell? ⟨Z1, 2, none⟩ = some (.int .i64 r1.epoch) ∧ W2.cell? ⟨Z1, 3, none⟩ = some (.slice D3 r1.rd.length cD3) ∧ W2.cell? ⟨Z1, 4, none⟩ = some (.slice E3 r1.wr.length cE3)) [12] (by kernel_rfl) ?_
          have HSS : Hid (∀ W2, Below wa.heap.size wa W2 → (W2.cell? ⟨Z1, 0, none⟩ = some (.string r1.owner) ∧ W2.cell? ⟨Z1, 1, none⟩ = some (.string r1.file) ∧ W2.cell? ⟨Z1, 2, none⟩ = some (.int .i64 r1.epoch) ∧ W2.cell? ⟨Z1, 3, none⟩ = some (.slice D3 r1.rd.length cD3) ∧ W2.cell? ⟨Z1, 4, none⟩ = some (.slice E3 r1.wr.length cE3))) := Lib.hid (fun W2 hb => row5 ((Keep.of_below hb : Keep (fun _ => False) wa W2).at HZwa.out fun e => e))
          have hb0 : Below wa.heap.size wa wa.drew := (Below.refl wa.heap.size wa).drew
          obtain ⟨wd, hwd⟩ : ∃ x, wa.drew = x := ⟨_, rfl⟩
          rw [hwd] at hb0 ⊢
          have hS := HSS.out _ hb0
          refine wpAnyG_take (ws := [1]) (i := 1) (v := ?vf15a1) at1 (by kernel_rfl) (fun _ _ _ h => h) (Or.inl ⟨by rfl, ?hf15a1⟩) (by assumption) ?rf15a1
          case hf15a1 => (intro w hSw; (try dsimp only at hSw); go_simp; try with_reducible rfl)
          case' rf15a1 => skip
          try simp only [Act.put, List.setIfInBounds_toArray, List.set_cons_zero, List.set_cons_succ]
          refine wpAnyG_pure (i := 2) (v := ?vf15a2) at2 (by kernel_rfl) (fun _ _ _ h => h) (Or.inl ⟨by rfl, ?hf15a2⟩) (Or.inr (by assumption)) ?rf15a2
          case hf15a2 => (intro w hSw; (try dsimp only at hSw); go_simp; try with_reducible rfl)
          case' rf15a2 => skip
          try simp only [Act.put, List.setIfInBounds_toArray, List.set_cons_zero, List.set_cons_succ]
          refine wpAnyG_pure (i := 3) (v := ?vf15a3) at3 (by kernel_rfl) (fun _ _ _ h => h) (Or.inl ⟨by rfl, ?hf15a3⟩) (Or.inr (by assumption)) ?rf15a3
          case hf15a3 => (intro w hSw; (try dsimp only at hSw); go_simp; try with_reducible rfl)
          case' rf15a3 => skip
          try simp only [Act.put, List.setIfInBounds_toArray, List.set_cons_zero, List.set_cons_succ]
          refine wpAnyG_pure (i := 5) (v := ?vf15a5) at5 (by kernel_rfl) (fun _ _ _ h => h) (Or.inl ⟨by rfl, ?hf15a5⟩) (Or.inr (by assumption)) ?rf15a5
          case hf15a5 => (intro w hSw; (try dsimp only at hSw); go_simp; try with_reducible rfl)
          case' rf15a5 => skip
          try simp only [Act.put, List.setIfInBounds_toArray, List.set_cons_zero, List.set_cons_succ]
          refine wpAnyG_pure (i := 6) (v := ?vf15a6) at6 (by kernel_rfl) (fun _ _ _ h => h) (Or.inl ⟨by rfl, ?hf15a6⟩) (Or.inr (by assumption)) ?rf15a6
          case hf15a6 => (intro w hSw; (try dsimp only at hSw); go_simp; try with_reducible rfl)
          case' rf15a6 => skip
          try simp only [Act.put, List.setIfInBounds_toArray, List.set_cons_zero, List.set_cons_succ]
          refine wpAnyG_two 0 11 at0 at11 (by kernel_rfl) (fun Kn hK => ?_) (fun Kn hK => ?_)
          · skip
            go_simp
            refine (HCa.out wd hb0).mono ?_
            rintro e x1 ⟨rfl, hq1⟩
            have hb1 := hb0.trans (hq1.mono hb0.size)
            clear hS
            have hS := HSS.out _ hb1
            refine hK.out _ _ (Or.inr hS) ?_
            clear hK Kn
            try simp only [Act.put, List.setIfInBounds_toArray, List.set_cons_zero, List.set_cons_succ]
            refine wpAnyG_two 4 11 at4 at11 (by kernel_rfl) (fun Kn hK => ?_) (fun Kn hK => ?_)
            · skip
              go_simp
              refine (HCb.out x1 hb1).mono ?_
              rintro e x2 ⟨rfl, hq2⟩
              have hb2 := hb1.trans (hq2.mono hb1.size)
              clear hS
              have hS := HSS.out _ hb2
              refine hK.out _ _ (Or.inr hS) ?_
              clear hK Kn
              try simp only [Act.put, List.setIfInBounds_toArray, List.set_cons_zero, List.set_cons_succ]
              refine wpAnyG_two 7 11 at7 at11 (by kernel_rfl) (fun Kn hK => ?_) (fun Kn hK => ?_)
              · skip
                go_simp
                refine (HCe.out x2 hb2).mono ?_
                rintro e x3 ⟨⟨vr, vw, vv, vbb, rfl, hmo⟩, hq3⟩
                have hb3 := hb2.trans (hq3.mono hb2.size)
                have HBB : Hid (wa.heap.size ≤ _) := Lib.hid hb2.size
                obtain ⟨Am, cm1, rfl, _, _⟩ := own_slice hmo.rd
                obtain ⟨Bm, cm2, rfl, _, _⟩ := own_slice hmo.wr
                obtain ⟨Cm, cm3, rfl, _, _⟩ := own_slice hmo.vf
                obtain ⟨Dm, cm4, rfl, _, _⟩ := own_slice hmo.bl
                have HMB := Lib.hid hmo
                clear hmo
                clear hS
                have hS := HSS.out _ hb3
                refine hK.out _ _ (Or.inr hS) ?_
                clear hK Kn
                try simp only [Act.put, List.setIfInBounds_toArray, List.set_cons_zero, List.set_cons_succ]
                refine wpAnyG_pure (i := 8) (v := ?vf15r48) at8 (by kernel_rfl) (fun _ _ _ h => h) (Or.inl ⟨by rfl, ?hf15r48⟩) (Or.inr (by assumption)) ?rf15r48
                case hf15r48 => (intro w hSw; (try dsimp only at hSw); go_simp; try with_reducible rfl)
                case' rf15r48 => skip
                try simp only [Act.put, List.setIfInBounds_toArray, List.set_cons_zero, List.set_cons_succ]
                refine wpAnyG_pure (i := 9) (v := ?vf15r49) at9 (by kernel_rfl) (fun _ _ _ h => h) (Or.inl ⟨by rfl, ?hf15r49⟩) (Or.inr (by assumption)) ?rf15r49
                case hf15r49 => (intro w hSw; (try dsimp only at hSw); go_simp; try with_reducible rfl)
                case' rf15r49 => skip
                try simp only [Act.put, List.setIfInBounds_toArray, List.set_cons_zero, List.set_cons_succ]
                refine wpAnyG_pure (i := 10) (v := ?vf15r410) at10 (by kernel_rfl) (fun _ _ _ h => h) (Or.inl ⟨by rfl, ?hf15r410⟩) (Or.inr (by assumption)) ?rf15r410
                case hf15r410 => (intro w hSw; (try dsimp only at hSw); go_simp; try with_reducible rfl)
                case' rf15r410 => skip
                try simp only [Act.put, List.setIfInBounds_toArray, List.set_cons_zero, List.set_cons_succ]
                refine wpAnyG_one 11 at11 (by kernel_rfl) (fun Kn hK => ?_)
                go_simp
                obtain ⟨z5, hzz5⟩ : ∃ z, x3.heap.size = z := ⟨_, rfl⟩
                obtain ⟨x5, hx5⟩ : ∃ x, x3.alloc (.cells #[.string ⟨#[]⟩, .string ⟨#[]⟩, .int .i64 0, .slice none 0 0, .slice none 0 0, .int .u64 0, .slice none 0 0, .slice none 0 0, .string ⟨#[]⟩] 42) = x := ⟨_, rfl⟩
                have hz5 : x5.heap[z5]? = some (.cells #[.string ⟨#[]⟩, .string ⟨#[]⟩, .int .i64 0, .slice none 0 0, .slice none 0 0, .int .u64 0, .slice none 0 0, .slice none 0 0, .string ⟨#[]⟩] 42 (0, 0)) := by rw [← hx5, ← hzz5, get_alloc, if_pos rfl]
                have hq5 : Below x3.heap.size x3 x5 := by rw [← hx5]; exact (Below.refl _ x3).alloc (Nat.le_refl _) _
                have HZL : Hid (wa.heap.size ≤ z5) := Lib.hid (by have h1 := (Below.refl wa.heap.size wa).size; have h2 := hb3.size; omega)
                rw [hx5, hzz5]
                have hb5 := hb3.trans (hq5.mono hb3.size)
                have HMB := Lib.hid (HMB.out.below hq5)
                clear hS
                have hS := HSS.out _ hb5
                refine hK.out _ _ (Or.inr hS) ?_
                clear hK Kn
                try simp only [Act.put, List.setIfInBounds_toArray, List.set_cons_zero, List.set_cons_succ]
                refine wpAnyG_one 12 at12 (by kernel_rfl) (fun Kn hK => ?_)
                refine step_store_all rfl _ _ _ rfl rfl rfl _ _ hz5 info_mt rfl (by simp [Value.oneCell']) ?_
                intro y9 h9 k9 s9
                refine hK.out _ _ (Or.inl (by kernel_rfl)) ?_
                have HLEAF : Hid (MtOwn w.heap.size wa y9 z5 BM1) := Lib.hid ⟨_, _, _, _, h9, (HMB.out.store hz5 k9).lower (Nat.le_trans Ba.out.size HBB.out), Nat.le_trans Ba.out.size HZL.out, below_at ((Below.refl wa.heap.size wa).trans (hb5.mono (Below.refl wa.heap.size wa).size)) k9 HZL.out⟩
                clear hK Kn h9 k9 s9 hS
                try simp only [Act.put, List.setIfInBounds_toArray, List.set_cons_zero, List.set_cons_succ]
                refine wpAnyG_one 13 at13 (by kernel_rfl) (fun Kn hK => ?_)
                go_simp
                refine hK.out _ _ (Or.inl (by kernel_rfl)) ?_
                clear hK Kn
                refine wpAnyG_done (by kernel_rfl) ?_
                try simp only [Act.put, List.setIfInBounds_toArray, List.set_cons_zero, List.set_cons_succ]
                go_wp2_with fail
                go_meet
                exact ⟨_, rfl, rfl, HLEAF⟩
              · skip
                go_simp
                obtain ⟨z6, hzz6⟩ : ∃ z, x2.heap.size = z := ⟨_, rfl⟩
                obtain ⟨x6, hx6⟩ : ∃ x, x2.alloc (.cells #[.string ⟨#[]⟩, .string ⟨#[]⟩, .int .i64 0, .slice none 0 0, .slice none 0 0, .int .u64 0, .slice none 0 0, .slice none 0 0, .string ⟨#[]⟩] 42) = x := ⟨_, rfl⟩
                have hz6 : x6.heap[z6]? = some (.cells #[.string ⟨#[]⟩, .string ⟨#[]⟩, .int .i64 0, .slice none 0 0, .slice none 0 0, .int .u64 0, .slice none 0 0, .slice none 0 0, .string ⟨#[]⟩] 42 (0, 0)) := by rw [← hx6, ← hzz6, get_alloc, if_pos rfl]
                have hq6 : Below x2.heap.size x2 x6 := by rw [← hx6]; exact (Below.refl _ x2).alloc (Nat.le_refl _) _
                have HZL : Hid (wa.heap.size ≤ z6) := Lib.hid (by have h1 := (Below.refl wa.heap.size wa).size; have h2 := hb2.size; omega)
                rw [hx6, hzz6]
                have hb6 := hb2.trans (hq6.mono hb2.size)
                clear hS
                have hS := HSS.out _ hb6
                refine hK.out _ _ (Or.inr hS) ?_
                clear hK Kn
                try simp only [Act.put, List.setIfInBounds_toArray, List.set_cons_zero, List.set_cons_succ]
                refine wpAnyG_one 7 at7 (by kernel_rfl) (fun Kn hK => ?_)
                go_simp
                refine (HCe.out x6 hb6).mono ?_
                rintro e x7 ⟨⟨vr, vw, vv, vbb, rfl, hmo⟩, hq7⟩
                have hb7 := hb6.trans (hq7.mono hb6.size)
                have hz7 := (Keep.of_below hq7 : Keep (fun _ => False) x6 x7).at hz6 fun e => e
                have HBB : Hid (wa.heap.size ≤ _) := Lib.hid hb6.size
                obtain ⟨Am, cm1, rfl, _, _⟩ := own_slice hmo.rd
                obtain ⟨Bm, cm2, rfl, _, _⟩ := own_slice hmo.wr
                obtain ⟨Cm, cm3, rfl, _, _⟩ := own_slice hmo.vf
                obtain ⟨Dm, cm4, rfl, _, _⟩ := own_slice hmo.bl
                have HMB := Lib.hid hmo
                clear hmo
                clear hS
                have hS := HSS.out _ hb7
                refine hK.out _ _ (Or.inr hS) ?_
                clear hK Kn
                try simp only [Act.put, List.setIfInBounds_toArray, List.set_cons_zero, List.set_cons_succ]
                refine wpAnyG_pure (i := 8) (v := ?vf15r88) at8 (by kernel_rfl) (fun _ _ _ h => h) (Or.inl ⟨by rfl, ?hf15r88⟩) (Or.inr (by assumption)) ?rf15r88
                case hf15r88 => (intro w hSw; (try dsimp only at hSw); go_simp; try with_reducible rfl)
                case' rf15r88 => skip
                try simp only [Act.put, List.setIfInBounds_toArray, List.set_cons_zero, List.set_cons_succ]
                refine wpAnyG_pure (i := 9) (v := ?vf15r89) at9 (by kernel_rfl) (fun _ _ _ h => h) (Or.inl ⟨by rfl, ?hf15r89⟩) (Or.inr (by assumption)) ?rf15r89
                case hf15r89 => (intro w hSw; (try dsimp only at hSw); go_simp; try with_reducible rfl)
                case' rf15r89 => skip
                try simp only [Act.put, List.setIfInBounds_toArray, List.set_cons_zero, List.set_cons_succ]
                refine wpAnyG_pure (i := 10) (v := ?vf15r810) at10 (by kernel_rfl) (fun _ _ _ h => h) (Or.inl ⟨by rfl, ?hf15r810⟩) (Or.inr (by assumption)) ?rf15r810
                case hf15r810 => (intro w hSw; (try dsimp only at hSw); go_simp; try with_reducible rfl)
                case' rf15r810 => skip
                try simp only [Act.put, List.setIfInBounds_toArray, List.set_cons_zero, List.set_cons_succ]
                refine wpAnyG_one 12 at12 (by kernel_rfl) (fun Kn hK => ?_)
                refine step_store_all rfl _ _ _ rfl rfl rfl _ _ hz7 info_mt rfl (by simp [Value.oneCell']) ?_
                intro y9 h9 k9 s9
                refine hK.out _ _ (Or.inl (by kernel_rfl)) ?_
                have HLEAF : Hid (MtOwn w.heap.size wa y9 z6 BM1) := Lib.hid ⟨_, _, _, _, h9, (HMB.out.store hz7 k9).lower (Nat.le_trans Ba.out.size HBB.out), Nat.le_trans Ba.out.size HZL.out, below_at ((Below.refl wa.heap.size wa).trans (hb7.mono (Below.refl wa.heap.size wa).size)) k9 HZL.out⟩
                clear hK Kn h9 k9 s9 hS
                try simp only [Act.put, List.setIfInBounds_toArray, List.set_cons_zero, List.set_cons_succ]
                refine wpAnyG_one 13 at13 (by kernel_rfl) (fun Kn hK => ?_)
                go_simp
                refine hK.out _ _ (Or.inl (by kernel_rfl)) ?_
                clear hK Kn
                refine wpAnyG_done (by kernel_rfl) ?_
                try simp only [Act.put, List.setIfInBounds_toArray, List.set_cons_zero, List.set_cons_succ]
                go_wp2_with fail
                go_meet
                exact ⟨_, rfl, rfl, HLEAF⟩
            · skip
              go_simp
              obtain ⟨z9, hzz9⟩ : ∃ z, x1.heap.size = z := ⟨_, rfl⟩
              obtain ⟨x9, hx9⟩ : ∃ x, x1.alloc (.cells #[.string ⟨#[]⟩, .string ⟨#[]⟩, .int .i64 0, .slice none 0 0, .slice none 0 0, .int .u64 0, .slice none 0 0, .slice none 0 0, .string ⟨#[]⟩] 42) = x := ⟨_, rfl⟩
              have hz9 : x9.heap[z9]? = some (.cells #[.string ⟨#[]⟩, .string ⟨#[]⟩, .int .i64 0, .slice none 0 0, .slice none 0 0, .int .u64 0, .slice none 0 0, .slice none 0 0, .string ⟨#[]⟩] 42 (0, 0)) := by rw [← hx9, ← hzz9, get_alloc, if_pos rfl]
              have hq9 : Below x1.heap.size x1 x9 := by rw [← hx9]; exact (Below.refl _ x1).alloc (Nat.le_refl _) _
              have HZL : Hid (wa.heap.size ≤ z9) := Lib.hid (by have h1 := (Below.refl wa.heap.size wa).size; have h2 := hb1.size; omega)
              rw [hx9, hzz9]
              have hb9 := hb1.trans (hq9.mono hb1.size)
              clear hS
              have hS := HSS.out _ hb9
              refine hK.out _ _ (Or.inr hS) ?_
              clear hK Kn
              try simp only [Act.put, List.setIfInBounds_toArray, List.set_cons_zero, List.set_cons_succ]
              refine wpAnyG_one 4 at4 (by kernel_rfl) (fun Kn hK => ?_)
              go_simp
              refine (HCb.out x9 hb9).mono ?_
              rintro e x10 ⟨rfl, hq10⟩
              have hb10 := hb9.trans (hq10.mono hb9.size)
              have hz10 := (Keep.of_below hq10 : Keep (fun _ => False) x9 x10).at hz9 fun e => e
              clear hS
              have hS := HSS.out _ hb10
              refine hK.out _ _ (Or.inr hS) ?_
              clear hK Kn
              try simp only [Act.put, List.setIfInBounds_toArray, List.set_cons_zero, List.set_cons_succ]
              refine wpAnyG_one 7 at7 (by kernel_rfl) (fun Kn hK => ?_)
              go_simp
              refine (HCe.out x10 hb10).mono ?_
              rintro e x11 ⟨⟨vr, vw, vv, vbb, rfl, hmo⟩, hq11⟩
              have hb11 := hb10.trans (hq11.mono hb10.size)
              have hz11 := (Keep.of_below hq11 : Keep (fun _ => False) x10 x11).at hz10 fun e => e
              have HBB : Hid (wa.heap.size ≤ _) := Lib.hid hb10.size
              obtain ⟨Am, cm1, rfl, _, _⟩ := own_slice hmo.rd
              obtain ⟨Bm, cm2, rfl, _, _⟩ := own_slice hmo.wr
              obtain ⟨Cm, cm3, rfl, _, _⟩ := own_slice hmo.vf
              obtain ⟨Dm, cm4, rfl, _, _⟩ := own_slice hmo.bl
              have HMB := Lib.hid hmo
              clear hmo
              clear hS
              have hS := HSS.out _ hb11
              refine hK.out _ _ (Or.inr hS) ?_
              clear hK Kn
              try simp only [Act.put, List.setIfInBounds_toArray, List.set_cons_zero, List.set_cons_succ]
              refine wpAnyG_pure (i := 8) (v := ?vf15r128) at8 (by kernel_rfl) (fun _ _ _ h => h) (Or.inl ⟨by rfl, ?hf15r128⟩) (Or.inr (by assumption)) ?rf15r128
              case hf15r128 => (intro w hSw; (try dsimp only at hSw); go_simp; try with_reducible rfl)
              case' rf15r128 => skip
              try simp only [Act.put, List.setIfInBounds_toArray, List.set_cons_zero, List.set_cons_succ]
              refine wpAnyG_pure (i := 9) (v := ?vf15r129) at9 (by kernel_rfl) (fun _ _ _ h => h) (Or.inl ⟨by rfl, ?hf15r129⟩) (Or.inr (by assumption)) ?rf15r129
              case hf15r129 => (intro w hSw; (try dsimp only at hSw); go_simp; try with_reducible rfl)
              case' rf15r129 => skip
              try simp only [Act.put, List.setIfInBounds_toArray, List.set_cons_zero, List.set_cons_succ]
              refine wpAnyG_pure (i := 10) (v := ?vf15r1210) at10 (by kernel_rfl) (fun _ _ _ h => h) (Or.inl ⟨by rfl, ?hf15r1210⟩) (Or.inr (by assumption)) ?rf15r1210
              case hf15r1210 => (intro w hSw; (try dsimp only at hSw); go_simp; try with_reducible rfl)
              case' rf15r1210 => skip
              try simp only [Act.put, List.setIfInBounds_toArray, List.set_cons_zero, List.set_cons_succ]
              refine wpAnyG_one 12 at12 (by kernel_rfl) (fun Kn hK => ?_)
              refine step_store_all rfl _ _ _ rfl rfl rfl _ _ hz11 info_mt rfl (by simp [Value.oneCell']) ?_
              intro y9 h9 k9 s9
              refine hK.out _ _ (Or.inl (by kernel_rfl)) ?_
              have HLEAF : Hid (MtOwn w.heap.size wa y9 z9 BM1) := Lib.hid ⟨_, _, _, _, h9, (HMB.out.store hz11 k9).lower (Nat.le_trans Ba.out.size HBB.out), Nat.le_trans Ba.out.size HZL.out, below_at ((Below.refl wa.heap.size wa).trans (hb11.mono (Below.refl wa.heap.size wa).size)) k9 HZL.out⟩
              clear hK Kn h9 k9 s9 hS
              try simp only [Act.put, List.setIfInBounds_toArray, List.set_cons_zero, List.set_cons_succ]
              refine wpAnyG_one 13 at13 (by kernel_rfl) (fun Kn hK => ?_)
              go_simp
              refine hK.out _ _ (Or.inl (by kernel_rfl)) ?_
              clear hK Kn
              refine wpAnyG_done (by kernel_rfl) ?_
              try simp only [Act.put, List.setIfInBounds_toArray, List.set_cons_zero, List.set_cons_succ]
              go_wp2_with fail
              go_meet
              exact ⟨_, rfl, rfl, HLEAF⟩
          · skip
            go_simp
            obtain ⟨z13, hzz13⟩ : ∃ z, wd.heap.size = z := ⟨_, rfl⟩
            obtain ⟨x13, hx13⟩ : ∃ x, wd.alloc (.cells #[.string ⟨#[]⟩, .string ⟨#[]⟩, .int .i64 0, .slice none 0 0, .slice none 0 0, .int .u64 0, .slice none 0 0, .slice none 0 0, .string ⟨#[]⟩] 42) = x := ⟨_, rfl⟩
            have hz13 : x13.heap[z13]? = some (.cells #[.string ⟨#[]⟩, .string ⟨#[]⟩, .int .i64 0, .slice none 0 0, .slice none 0 0, .int .u64 0, .slice none 0 0, .slice none 0 0, .string ⟨#[]⟩] 42 (0, 0)) := by rw [← hx13, ← hzz13, get_alloc, if_pos rfl]
            have hq13 : Below wd.heap.size wd x13 := by rw [← hx13]; exact (Below.refl _ wd).alloc (Nat.le_refl _) _
            have HZL : Hid (wa.heap.size ≤ z13) := Lib.hid (by have h1 := (Below.refl wa.heap.size wa).size; have h2 := hb0.size; omega)
            rw [hx13, hzz13]
            have hb13 := hb0.trans (hq13.mono hb0.size)
            clear hS
            have hS := HSS.out _ hb13
            refine hK.out _ _ (Or.inr hS) ?_
            clear hK Kn
            try simp only [Act.put, List.setIfInBounds_toArray, List.set_cons_zero, List.set_cons_succ]
            refine wpAnyG_one 0 at0 (by kernel_rfl) (fun Kn hK => ?_)
            go_simp
            refine (HCa.out x13 hb13).mono ?_
            rintro e x14 ⟨rfl, hq14⟩
            have hb14 := hb13.trans (hq14.mono hb13.size)
            have hz14 := (Keep.of_below hq14 : Keep (fun _ => False) x13 x14).at hz13 fun e => e
            clear hS
            have hS := HSS.out _ hb14
            refine hK.out _ _ (Or.inr hS) ?_
            clear hK Kn
            try simp only [Act.put, List.setIfInBounds_toArray, List.set_cons_zero, List.set_cons_succ]
            refine wpAnyG_one 4 at4 (by kernel_rfl) (fun Kn hK => ?_)
            go_simp
            refine (HCb.out x14 hb14).mono ?_
            rintro e x15 ⟨rfl, hq15⟩
            have hb15 := hb14.trans (hq15.mono hb14.size)
            have hz15 := (Keep.of_below hq15 : Keep (fun _ => False) x14 x15).at hz14 fun e => e
            clear hS
            have hS := HSS.out _ hb15
            refine hK.out _ _ (Or.inr hS) ?_
            clear hK Kn
            try simp only [Act.put, List.setIfInBounds_toArray, List.set_cons_zero, List.set_cons_succ]
            refine wpAnyG_one 7 at7 (by kernel_rfl) (fun Kn hK => ?_)
            go_simp
            refine (HCe.out x15 hb15).mono ?_
            rintro e x16 ⟨⟨vr, vw, vv, vbb, rfl, hmo⟩, hq16⟩
            have hb16 := hb15.trans (hq16.mono hb15.size)
            have hz16 := (Keep.of_below hq16 : Keep (fun _ => False) x15 x16).at hz15 fun e => e
            have HBB : Hid (wa.heap.size ≤ _) := Lib.hid hb15.size
            obtain ⟨Am, cm1, rfl, _, _⟩ := own_slice hmo.rd
            obtain ⟨Bm, cm2, rfl, _, _⟩ := own_slice hmo.wr
            obtain ⟨Cm, cm3, rfl, _, _⟩ := own_slice hmo.vf
            obtain ⟨Dm, cm4, rfl, _, _⟩ := own_slice hmo.bl
            have HMB := Lib.hid hmo
            clear hmo
            clear hS
            have hS := HSS.out _ hb16
            refine hK.out _ _ (Or.inr hS) ?_
            clear hK Kn
            try simp only [Act.put, List.setIfInBounds_toArray, List.set_cons_zero, List.set_cons_succ]
            refine wpAnyG_pure (i := 8) (v := ?vf15r178) at8 (by kernel_rfl) (fun _ _ _ h => h) (Or.inl ⟨by rfl, ?hf15r178⟩) (Or.inr (by assumption)) ?rf15r178
            case hf15r178 => (intro w hSw; (try dsimp only at hSw); go_simp; try with_reducible rfl)
            case' rf15r178 => skip
            try simp only [Act.put, List.setIfInBounds_toArray, List.set_cons_zero, List.set_cons_succ]
            refine wpAnyG_pure (i := 9) (v := ?vf15r179) at9 (by kernel_rfl) (fun _ _ _ h => h) (Or.inl ⟨by rfl, ?hf15r179⟩) (Or.inr (by assumption)) ?rf15r179
            case hf15r179 => (intro w hSw; (try dsimp only at hSw); go_simp; try with_reducible rfl)
            case' rf15r179 => skip
            try simp only [Act.put, List.setIfInBounds_toArray, List.set_cons_zero, List.set_cons_succ]
            refine wpAnyG_pure (i := 10) (v := ?vf15r1710) at10 (by kernel_rfl) (fun _ _ _ h => h) (Or.inl ⟨by rfl, ?hf15r1710⟩) (Or.inr (by assumption)) ?rf15r1710
            case hf15r1710 => (intro w hSw; (try dsimp only at hSw); go_simp; try with_reducible rfl)
            case' rf15r1710 => skip
            try simp only [Act.put, List.setIfInBounds_toArray, List.set_cons_zero, List.set_cons_succ]
            refine wpAnyG_one 12 at12 (by kernel_rfl) (fun Kn hK => ?_)
            refine step_store_all rfl _ _ _ rfl rfl rfl _ _ hz16 info_mt rfl (by simp [Value.oneCell']) ?_
            intro y9 h9 k9 s9
            refine hK.out _ _ (Or.inl (by kernel_rfl)) ?_
            have HLEAF : Hid (MtOwn w.heap.size wa y9 z13 BM1) := Lib.hid ⟨_, _, _, _, h9, (HMB.out.store hz16 k9).lower (Nat.le_trans Ba.out.size HBB.out), Nat.le_trans Ba.out.size HZL.out, below_at ((Below.refl wa.heap.size wa).trans (hb16.mono (Below.refl wa.heap.size wa).size)) k9 HZL.out⟩
            clear hK Kn h9 k9 s9 hS
            try simp only [Act.put, List.setIfInBounds_toArray, List.set_cons_zero, List.set_cons_succ]
            refine wpAnyG_one 13 at13 (by kernel_rfl) (fun Kn hK => ?_)
            go_simp
            refine hK.out _ _ (Or.inl (by kernel_rfl)) ?_
            clear hK Kn
            refine wpAnyG_done (by kernel_rfl) ?_
            try simp only [Act.put, List.setIfInBounds_toArray, List.set_cons_zero, List.set_cons_succ]
            go_wp2_with fail
            go_meet
            exact ⟨_, rfl, rfl, HLEAF⟩
        case rest =>
          obtain ⟨Zm2, rfl, rfl, HIh⟩ := hcut
          obtain ⟨wb, hq0, HI2⟩ : ∃ W, W = _ ∧ Hid (MtOwn w.heap.size wa W Zm2 BM1) := ⟨_, rfl, HIh⟩
          subst hq0
          clear HIh HCa HCb HCe
          have hbel2 : Below wa.heap.size wa wb := by obtain ⟨_, _, _, _, _, _, _, h⟩ := HI2.out; exact h
          have Bb := Lib.hid (Ba.out.trans (hbel2.mono Ba.out.size))
          obtain ⟨_, hgood, _⟩ := HBD1.out.ok ver HVER.out
          rw [HE1.out] at hgood
          have hpv : putMV BM1 = .tuple #[.string (mkB (putM BM1)), .int .i64 0] := by unfold putMV; rw [good_rightM hgood]; rfl
          have hver : BM1.ver = ver := by rw [← HE1.out]; rfl
          obtain ⟨X, hX⟩ : ∃ x, mkB (putM BM1) = x := ⟨_, rfl⟩
          rw [hX] at hpv
          obtain ⟨vr1, vw1, vv1, vb1, row1, ml1, ⟨a1, d1, rfl⟩, ⟨a2, d2, rfl⟩, ⟨a3, d3, rfl⟩, ⟨a4, d4, rfl⟩⟩ := HI1.out.next hbel2
          obtain ⟨vr2, vw2, vv2, vb2, row2, ml2, ⟨e1, i1, rfl⟩, ⟨e2, i2, rfl⟩, ⟨e3, i3, rfl⟩, ⟨e4, i4, rfl⟩⟩ := HI2.out.next (Below.refl _ wb)
          have hp1 := Put_calls wb BM1 _ _ _ _ ml1 (HT.out.below Bb.out) (hgood.wf (by rw [hver]; exact HVER.out))
          have hp2 := fun W (hb : Below wb.heap.size wb W) => Put_calls W BM1 _ _ _ _ (ml2.below hb) (HT.out.below (Bb.out.trans (hb.mono Bb.out.size))) (hgood.wf (by rw [hver]; exact HVER.out))
          simp only [hpv] at hp1 hp2
          dsimp only [agM] at hp1 hp2
          have HP1 := Lib.hid hp1
          have HP2 := Lib.hid hp2
          have HR1 := Lib.hid row1
          have HR2 := Lib.hid row2
          have HVV := Lib.hid hver
          obtain ⟨k0, k1, k2, k3, k4, k5, k6, k7, k8⟩ := row9 row1
          clear hgood hpv hver hX row1 row2 ml1 ml2 hp1 hp2 hbel1 hbel2
          go_wp2_with fail
          refine HP1.out.mono ?_
          rintro e wc ⟨rfl, hbc⟩
          have HBC := Lib.hid hbc
          have Bc := Lib.hid (Bb.out.trans (hbc.mono Bb.out.size))
          have HR1c := Lib.hid ((Keep.of_below hbc : Keep (fun _ => False) wb wc).at HR1.out fun e => e)
          have hr2 := (Keep.of_below hbc : Keep (fun _ => False) wb wc).at HR2.out fun e => e
          clear k0 k1 k2 k3 k4 k5 k6 k7 k8
          obtain ⟨k0, k1, k2, k3, k4, k5, k6, k7, k8⟩ := row9 hr2
          clear hbc hr2
          go_wp2_with fail
          refine (HP2.out _ HBC.out).mono ?_
          rintro e wd ⟨rfl, hbd⟩
          have Bd := Lib.hid (Bc.out.trans (hbd.mono Bc.out.size))
          have hr1 := (Keep.of_below hbd : Keep (fun _ => False) wc wd).at HR1c.out fun e => e
          clear k0 k1 k2 k3 k4 k5 k6 k7 k8
          have k5 := (row9 hr1).2.2.2.2.2.1
          rw [HVV.out] at k5
          clear hr1 hbd
          go_wp2_with fail
          go_ret
          exact ⟨rfl, Bd.out⟩
end Go.Proofs.YtckblcfkajpofaaGreatDoor
