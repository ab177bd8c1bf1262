/- law 8: MetaEpochs. (Printed by tools/gmv.py; in work.) -/
import Derived.Test.YtckblcfkajpofaaGreatDoorZMu
namespace Go.Proofs.YtckblcfkajpofaaGreatDoor
open Go.RowKit Go.Sort
set_option linter.unusedVariables false
set_option linter.unusedSimpArgs false

theorem turnRow_one (l : List (Int × Int)) : ∀ u ∈ l.flatMap turnRow, u.oneCell' = true := by
  intro u hu
  obtain ⟨x, _, hx⟩ := List.mem_flatMap.1 hu
  simp only [turnRow, List.mem_cons, List.not_mem_nil, or_false] at hx
  rcases hx with rfl | rfl <;> rfl
theorem turns_length (l : List (Int × Int)) : (l.flatMap turnRow).length = l.length * 2 := by
  induction l with
  | nil => rfl
  | cons x l ih => rw [List.flatMap_cons, List.length_append, ih, List.length_cons]; show 2 + _ = _; omega
theorem turns_get {l : List (Int × Int)} {i : Nat} {x : Int × Int} (h : l[i]? = some x) {j : Nat} (hj : j < 2) : (l.flatMap turnRow)[i * 2 + j]? = (turnRow x)[j]? := by
  induction l generalizing i with
  | nil => simp at h
  | cons y l ih =>
    rw [List.flatMap_cons]
    cases i with
    | zero => simp at h; subst h; rw [List.getElem?_append_left (by show 0 * 2 + j < 2; omega)]; congr 1; omega
    | succ i =>
      rw [List.getElem?_append_right (by show 2 ≤ _; omega)]
      have := ih (i := i) (by simpa using h)
      rw [← this]
      congr 1
      show (i + 1) * 2 + j - 2 = _
      omega
theorem turns_own {w : World} {base : Nat} {e : TypeId} {v : Value} {l : List (Int × Int)} (h : w.ownsRow base e 2 v l.length (l.flatMap turnRow)) : rowsOf 2 turnRow w v l := by
  rcases h.2 with ⟨rfl, h0⟩ | ⟨g, cap, cur, rfl, hb, hg, hnc, hcm, hcs, htake⟩
  · have : l = [] := List.eq_nil_of_length_eq_zero h0
    subst this; exact ⟨none, 0, rfl, Nat.le_refl _, by simp, fun h => absurd h (Nat.lt_irrefl 0)⟩
  · refine ⟨_, cap, rfl, hnc, by unfold maxLen at hcm; omega, fun h0 => ⟨g, 0, rfl, fun i x hx j u hu => ?_⟩⟩
    have hj : j < 2 := (List.getElem?_eq_some_iff.1 hu).1
    rw [Nat.zero_add, cell_of_row w g _ cur e (0, 0) hg]
    have h1 : (l.flatMap turnRow)[i * 2 + j]? = some u := (turns_get hx hj).trans hu
    rw [← htake, List.getElem?_take] at h1
    split at h1
    · simpa using h1
    · cases h1
theorem info_turn : (Tryz.prog.info? 188).map (fun i => (i.zero, i.size, i.bytes)) = some (some (.agg #[.int .i64 0, .int .i64 0]), 2, 16) := by kernel_rfl
/-- turns behind a row of the call's own -/
theorem append_turns {w : World} {base : Nat} {v vm : Value} {l m : List (Int × Int)} (ho : w.ownsRow base 188 2 v l.length (l.flatMap turnRow)) (hm : rowsOf 2 turnRow w vm m) (hl : l.length + m.length ≤ 100000) (hb : base ≤ w.heap.size) :
    ∃ v' w', (Builtin.append_ #[66, 66] 66 #[v, vm]).run Tryz.prog w = .ok v' w' ∧
      w'.ownsRow base 188 2 v' (l ++ m).length ((l ++ m).flatMap turnRow) ∧ Keep (fun i => v.ownBlock = some i) w w' ∧ (v'.ownBlock = v.ownBlock ∨ v'.ownBlock = some w.heap.size) := by
  obtain ⟨i0, hi, hz0, hz1, hz2⟩ := info_parts info_turn
  obtain ⟨A, c, rfl, h1, h2, h3⟩ := hm
  cases A with
  | none =>
    have hm0 : m = [] := by
      cases m with
      | nil => rfl
      | cons x m => obtain ⟨b, off, e, _⟩ := h3 (by simp); cases e
    subst hm0
    refine ⟨v, w, ?_, by simpa using ho, Keep.refl _ _, Or.inl rfl⟩
    rcases ho.2 with ⟨rfl, h0⟩ | ⟨g, cap, cur, rfl, _, _, hnc, _⟩
    · simp [Builtin.append_, run_underlying Tryz.underlying66, sizeOf, typeInfo, hi, Builtin.lenOf, Builtin.firstCells, h0]
    · simp [Builtin.append_, run_underlying Tryz.underlying66, sizeOf, typeInfo, hi, Builtin.lenOf, Builtin.firstCells, hnc, storeCells]
  | some ad =>
    obtain ⟨v', w', hr, o1, o2, o3, o4⟩ := run_append_own_at (P := Tryz.prog) w base 66 66 188 i0 (.agg #[.int .i64 0, .int .i64 0]) 2 16 Tryz.underlying66 hi hz0 hz1 hz2 rfl (by decide) v l.length (l.flatMap turnRow) ho ad m.length c (m.flatMap turnRow) (turns_length m) (fun j u hj => by
        have hlt := (List.getElem?_eq_some_iff.1 hj).1
        rw [turns_length] at hlt
        obtain ⟨x, hx⟩ : ∃ x, m[j / 2]? = some x := ⟨_, List.getElem?_eq_getElem (by omega)⟩
        obtain ⟨b, off, e', hc⟩ := h3 (by omega)
        cases e'
        rw [add_at]
        have h4 := turns_get hx (j := j % 2) (Nat.mod_lt _ (by decide))
        rw [show j / 2 * 2 + j % 2 = j by omega, hj] at h4
        have h5 := hc (j / 2) x hx (j % 2) u h4.symm
        rw [show off + j / 2 * 2 + j % 2 = off + j by omega] at h5
        exact h5) (turnRow_one m) (by unfold maxLen; omega) (by omega) hb
    refine ⟨v', w', hr, ?_, Keep.of_grown o2 fun i e => e, o4⟩
    rw [List.flatMap_append, List.length_append]; exact o1
theorem MtIn.next {w0 w w2 : World} {z : Nat} {m : Mt} (h : MtIn w0 w z m) (k : Below w.heap.size w w2) : ∃ vr vw vv vb, w2.heap[z]? = some (.cells (mtCells m vr vw vv vb) 42 (0, 0)) ∧ MLists w2 m vr vw vv vb ∧ (∃ A c, vr = .slice A m.r.rd.length c) ∧ (∃ A c, vw = .slice A m.r.wr.length c) ∧ (∃ A c, vv = .slice A m.vf.length c) ∧ ∃ A c, vb = .slice A m.bl.length c := by
  obtain ⟨B, vr, vw, vv, vb, h1, h2, h3⟩ := h
  obtain ⟨a1, b1, e1, _⟩ := own_slice h2.rd
  obtain ⟨a2, b2, e2, _⟩ := own_slice h2.wr
  obtain ⟨a3, b3, e3, _⟩ := own_slice h2.vf
  obtain ⟨a4, b4, e4, _⟩ := own_slice h2.bl
  exact ⟨vr, vw, vv, vb, (Keep.of_below k : Keep (fun _ => False) w w2).at h1 fun e => e, h2.lists.below k, ⟨a1, b1, e1⟩, ⟨a2, b2, e2⟩, ⟨a3, b3, e3⟩, ⟨a4, b4, e4⟩⟩
set_option maxRecDepth 100000 in
set_option maxHeartbeats 8000000 in
theorem metaEpochs_calls (w : World) (v1 : Value) (l1 : List (Int × Int)) (v2 : Value) (l2 : List (Int × Int)) (va vb : Nat) (hv1 : rowsOf 2 turnRow w v1 l1) (hw1 : ∀ t ∈ l1, turnWf t) (hv2 : rowsOf 2 turnRow w v2 l2) (hw2 : ∀ t ∈ l2, turnWf t) (ha : va < 18446744073709551616) (hb : vb < 18446744073709551616) (hT : Tabs w) :
    Calls Tryz.prog 9 #[v1, v2, .int .u64 va, .int .u64 vb] w fun e w' => e = .returned (.bool true) ∧ Below w.heap.size w w' := by
  have HS1 := Lib.hid (shown8_calls w hT)
  have HT := Lib.hid hT
  obtain ⟨A1, c1, rfl, q1, q2⟩ := rowsOf.form hv1
  obtain ⟨A2, c2, rfl, q3, q4⟩ := rowsOf.form hv2
  have HV1 := Lib.hid hv1
  have HV2 := Lib.hid hv2
  have HW1 := Lib.hid hw1
  have HW12 := Lib.hid (fun t (ht : t ∈ l1 ++ l2) => (List.mem_append.1 ht).elim (hw1 t) (hw2 t))
  obtain ⟨n1, hn1⟩ : ∃ n, l1.length = n := ⟨_, rfl⟩
  obtain ⟨n2, hn2⟩ : ∃ n, l2.length = n := ⟨_, rfl⟩
  have HN1 := Lib.hid hn1
  have HN2 := Lib.hid hn2
  rw [hn1] at q1 q2 HV1 ⊢
  rw [hn2] at q3 q4 HV2 ⊢
  clear hv1 hv2 hw1 hw2 hT hn1 hn2
  go_enter Tryz.func9, Tryz.ntmps9
  go_wp2_with fail
  refine HS1.out.mono ?_
  rintro e w1 ⟨rfl, hb1⟩
  have B1 := Lib.hid hb1
  clear hb1
  by_cases h20 : 20 < n1
  · have i20 : (20 : Int) < (n1 : Int) := by omega
    go_wp2_with fail
    go_ret
    exact ⟨rfl, B1.out⟩
  by_cases h21 : 20 < n2
  · have i20 : ¬ (20 : Int) < (n1 : Int) := by omega
    have i21 : (20 : Int) < (n2 : Int) := by omega
    go_wp2_with fail
    go_ret
    exact ⟨rfl, B1.out⟩
  have i20 : ¬ (20 : Int) < (n1 : Int) := by omega
  have i21 : ¬ (20 : Int) < (n2 : Int) := by omega
  have HTU1 := Lib.hid (turned8_calls w1 _ l1 (HV1.out.below B1.out) HW1.out)
  go_wp2_with fail
  refine HTU1.out.mono ?_
  rintro e w2 ⟨⟨vr2, vw2, rfl, hl2⟩, hb2⟩
  have HOK1 := Lib.hid (turnedP_ok l1)
  have HOK2 := Lib.hid (turnedP_ok (l1 ++ l2))
  have HEP := Lib.hid (epochs_le (l := l1) (m := l2) (by have := HN1.out; omega) (by have := HN2.out; omega))
  obtain ⟨r1, hr1⟩ : ∃ r, turnedP l1 = r := ⟨_, rfl⟩
  obtain ⟨r2, hr2⟩ : ∃ r, turnedP (l1 ++ l2) = r := ⟨_, rfl⟩
  rw [hr1] at hl2 HOK1 HEP ⊢
  rw [hr2] at HOK2 HEP
  obtain ⟨D3, cD3, rfl, _, _⟩ := hl2.rd.form
  obtain ⟨E3, cE3, rfl, _, _⟩ := hl2.wr.form
  have B2 := Lib.hid (B1.out.trans (hb2.mono B1.out.size))
  have HL2 := Lib.hid hl2
  clear hl2 hb2 hr1
  dsimp only [agR]
  go_wp2_with (with_reducible refine wp_stop_store (o := ⟨none, .store _ (.tmp 10) _, _, _, _, _⟩) _ _ _ rfl ?_)
  unfold Stop
  refine wp_store_all rfl _ _ _ rfl rfl rfl _ _ ((get_alloc _ _ _).trans (if_pos rfl)) info_rt rfl (by simp [Value.oneCell']) ?_
  intro w3 h3 k3 s3
  obtain ⟨Z1, hZ1⟩ : ∃ Z, w2.heap.size = Z := ⟨_, rfl⟩
  have hb23 : Below w2.heap.size w2 w3 := below_at ((Below.refl w2.heap.size w2).alloc (Nat.le_refl _) _) k3 (Nat.le_refl _)
  have B3 := Lib.hid (B2.out.trans (hb23.mono B2.out.size))
  have HL3 := Lib.hid (HL2.out.below hb23)
  rw [hZ1] at h3 ⊢
  have HZ3 := Lib.hid h3
  clear hb23 h3 k3 s3 hZ1
  -- both lists, one behind the other
  obtain ⟨w4, hw4⟩ : ∃ W, w3.alloc (.cells #[] 188) = W := ⟨_, rfl⟩
  have hb34 : Below w3.heap.size w3 w4 := by rw [← hw4]; exact (Below.refl _ w3).alloc (Nat.le_refl _) _
  have ho4 : w4.ownsRow w3.heap.size 188 2 (.slice (some ⟨w3.heap.size, 0, none⟩) 0 0) ([] : List (Int × Int)).length (([] : List (Int × Int)).flatMap turnRow) := by rw [← hw4]; exact World.ownsRow_made w3 #[] 0 (Nat.le_refl _) (Nat.zero_le _) rfl
  have hb4 := B3.out.trans (hb34.mono B3.out.size)
  obtain ⟨v5, w5, hrun5, ho5, hk5, _⟩ := append_turns ho4 (HV1.out.below hb4) (by have := HN1.out; simp; omega) hb34.size
  rw [List.nil_append] at ho5
  obtain ⟨D5, cD5, rfl, _, _⟩ := own_slice ho5
  have hb45 : Below w3.heap.size w3 w5 := below_own hb34 ho4 hk5
  have hb5 := B3.out.trans (hb45.mono B3.out.size)
  obtain ⟨v6, w6, hrun6, ho6, hk6, _⟩ := append_turns ho5 (HV2.out.below hb5) (by have := HN1.out; have := HN2.out; omega) hb45.size
  obtain ⟨D6, cD6, rfl, _, _⟩ := own_slice ho6
  have hb36 : Below w3.heap.size w3 w6 := below_own hb45 ho5 hk6
  have B6 := Lib.hid (B3.out.trans (hb36.mono B3.out.size))
  have HL6 := Lib.hid (HL3.out.below hb36)
  have HZ6 := Lib.hid ((Keep.of_below hb36 : Keep (fun _ => False) w3 w6).at HZ3.out fun e => e)
  have HTU2 := Lib.hid (turned8_calls w6 _ (l1 ++ l2) (turns_own ho6) HW12.out)
  rw [hr2] at HTU2
  obtain ⟨nn, hnn⟩ : ∃ n, (l1 ++ l2).length = n := ⟨_, rfl⟩
  rw [hnn] at HTU2 hrun6
  rw [HN1.out] at hrun5 hrun6
  clear hb34 ho4 hb4 ho5 hk5 hb45 hb5 ho6 hk6 hb36 hr2 hnn
  go_wp2_with (at_builtin; first | (refine wp_append_run rfl _ _ _ rfl rfl rfl hrun5 ?_; clear hrun5) | (refine wp_append_run rfl _ _ _ rfl rfl rfl hrun6 ?_; clear hrun6))
  refine HTU2.out.mono ?_
  rintro e w7 ⟨⟨vr7, vw7, rfl, hl7⟩, hb7⟩
  obtain ⟨D7, cD7, rfl, _, _⟩ := hl7.rd.form
  obtain ⟨E7, cE7, rfl, _, _⟩ := hl7.wr.form
  have B7 := Lib.hid (B6.out.trans (hb7.mono B6.out.size))
  have HL7 := Lib.hid (HL6.out.below hb7)
  have HZ7 := Lib.hid ((Keep.of_below hb7 : Keep (fun _ => False) w6 w7).at HZ6.out fun e => e)
  have HM7 := Lib.hid hl7
  clear hb7 hl7 hw4
  dsimp only [agR]
  go_wp2_with (with_reducible refine wp_stop_store (o := ⟨none, .store _ (.tmp 11) _, _, _, _, _⟩) _ _ _ rfl ?_)
  unfold Stop
  refine wp_store_all rfl _ _ _ rfl rfl rfl _ _ ((get_alloc _ _ _).trans (if_pos rfl)) info_rt rfl (by simp [Value.oneCell']) ?_
  intro w8 h8 k8 s8
  obtain ⟨Z2, hZ2⟩ : ∃ Z, w7.heap.size = Z := ⟨_, rfl⟩
  have hb78 : Below w7.heap.size w7 w8 := below_at ((Below.refl w7.heap.size w7).alloc (Nat.le_refl _) _) k8 (Nat.le_refl _)
  have B8 := Lib.hid (B7.out.trans (hb78.mono B7.out.size))
  have HL8 := Lib.hid (HL7.out.below hb78)
  have HM8 := Lib.hid (HM7.out.below hb78)
  have HZ8 := Lib.hid ((Keep.of_below hb78 : Keep (fun _ => False) w7 w8).at HZ7.out fun e => e)
  rw [hZ2] at h8 ⊢
  have HY8 := Lib.hid h8
  clear hb78 h8 k8 s8 hZ2 i20 i21 q1 q2 q3 q4
  obtain ⟨m1, hm1⟩ : ∃ m, (r1.epoch + 1).toNat = m := ⟨_, rfl⟩
  obtain ⟨m2, hm2⟩ : ∃ m, (r2.epoch + 1).toNat = m := ⟨_, rfl⟩
  have g1 := Rt.right_good HOK1.out.right
  have g2 := Rt.right_good HOK2.out.right
  have u1 := g1.lo
  have u2 := g1.hi
  have u3 := g2.lo
  have u4 := g2.hi
  have hwr1 : IntKind.i64.wrap (r1.epoch + 1) = (m1 : Int) := by
    rw [show (m1 : Int) = r1.epoch + 1 by omega]
    simp only [IntKind.wrap, IntKind.bits, IntKind.signed]
    first | omega | (simp; omega) | (split <;> omega)
  have hwr2 : IntKind.i64.wrap (r2.epoch + 1) = (m2 : Int) := by
    rw [show (m2 : Int) = r2.epoch + 1 by omega]
    simp only [IntKind.wrap, IntKind.bits, IntKind.signed]
    first | omega | (simp; omega) | (split <;> omega)
  have hbd1 := HOK1.out.bld (root := 2) (by omega) kn8_pub
  have hbd2 := HOK2.out.bld (root := 2) (by omega) kn8_pub
  rw [hm1] at hbd1
  rw [hm2] at hbd2
  have HBD1 := Lib.hid hbd1
  have HBD2 := Lib.hid hbd2
  have hks : ∀ x ∈ kn8, x.2.size ≤ 9223372036854775807 := fun x hx => by
    unfold kn8 at hx
    obtain ⟨u, hu, rfl⟩ := List.mem_map.1 hx
    have := whoList_size u hu
    obtain ⟨⟨_, _, _, h3⟩, _⟩ := pkOf_is (u := u) (by omega)
    rw [toL_len] at h3
    show (pkOf u).size ≤ _
    omega
  have HKS := Lib.hid hks
  have HM12 : Hid ((r1.epoch + 1 : Int) = m1 ∧ (r2.epoch + 1 : Int) = m2 ∧ m1 ≤ m2 ∧ m2 ≤ 8) := Lib.hid (by have := HEP.out; omega)
  have HBV := Lib.hid hb
  clear g1 g2 u1 u2 u3 u4 hbd1 hbd2 hks hm1 hm2
  obtain ⟨BM1, hBM1⟩ : ∃ B, builtM (secOf annaB) r1 va (rootN 2) (signL m1) pkOf = B := ⟨_, rfl⟩
  obtain ⟨BM2, hBM2⟩ : ∃ B, builtM (secOf annaB) r2 vb (rootN 2) (signL m2) pkOf = B := ⟨_, rfl⟩
  obtain ⟨BM3, hBM3⟩ : ∃ B, builtM (secOf annaB) r1 vb (rootN 2) (signL m1) pkOf = B := ⟨_, rfl⟩
  have HE1 := Lib.hid hBM1
  have HE2 := Lib.hid hBM2
  have HE3 := Lib.hid hBM3
  clear hBM1 hBM2 hBM3
  have Bw8 := B8
  have HZw8 := HZ8
  have HYw8 := HY8
  have HLw8 := HL8
  have HMw8 := HM8
  have HCa := Lib.hid (fun (W : World) (_ : Below w8.heap.size w8 W) => secretOf8_calls annaB W (by decide))
  have HCb := Lib.hid (fun (W : World) (_ : Below w8.heap.size w8 W) => rootOf8_calls 2 W (by decide) (by decide))
  have HCc := Lib.hid (fun (W : World) (_ : Below w8.heap.size w8 W) => signersOf8_calls m1 W (by have := HM12.out; omega))
  have HCd := Lib.hid (fun (W : World) (_ : Below w8.heap.size w8 W) => known8_calls W)
  have hCe := fun (W : World) (hb : Below w8.heap.size w8 W) {vs vk : Value} (hs : strs W vs (signL m1)) (hk : rowsOf 2 twoV W vk kn8) => build_calls W (secOf annaB) (rootN 2) r1 _ _ vs vk va (signL m1) kn8 pkOf (HLw8.out.below hb) hs hk HBD1.out ha (HT.out.below (Bw8.out.trans (hb.mono Bw8.out.size))) HKS.out
  simp only [HE1.out] at hCe
  have HCe := Lib.hid hCe
  clear hCe
  go_simp
  go_upto_region 6 with fail
  go_cut [12, 13] from 43 to 54 (fun q er wx => ∃ Zm, q = .pointer (some ⟨Zm, 0, none⟩) ∧ er = .int .i64 0 ∧ Hid (MtIn w8 wx Zm BM1))
  case first =>
    refine wp_region_G (fun W2 => W2.cell? ⟨Z1, 0, none⟩ = some (.string r1.owner) ∧ W2.cell? ⟨Z1, 1, none⟩ = some (.string r1.file) ∧ W2.cell? ⟨Z1, 2, none⟩ = some (.int .i64 r1.epoch) ∧ W2.cell? ⟨Z1, 3, none⟩ = some (.slice D3 r1.rd.length cD3) ∧ W2.cell? ⟨Z1, 4, none⟩ = some (.slice E3 r1.wr.length cE3)) [14] (by kernel_rfl) ?_
    have HSS : Hid (∀ W2, Below w8.heap.size w8 W2 → (W2.cell? ⟨Z1, 0, none⟩ = some (.string r1.owner) ∧ W2.cell? ⟨Z1, 1, none⟩ = some (.string r1.file) ∧ W2.cell? ⟨Z1, 2, none⟩ = some (.int .i64 r1.epoch) ∧ W2.cell? ⟨Z1, 3, none⟩ = some (.slice D3 r1.rd.length cD3) ∧ W2.cell? ⟨Z1, 4, none⟩ = some (.slice E3 r1.wr.length cE3))) := Lib.hid (fun W2 hb => row5 ((Keep.of_below hb : Keep (fun _ => False) w8 W2).at HZw8.out fun e => e))
    have hb0 : Below w8.heap.size w8 w8.drew := (Below.refl w8.heap.size w8).drew
    obtain ⟨wd, hwd⟩ : ∃ x, w8.drew = x := ⟨_, rfl⟩
    rw [hwd] at hb0 ⊢
    have hS := HSS.out _ hb0
    refine wpAnyG_take (ws := [1,5]) (i := 1) (v := ?ve6a1) at1 (by kernel_rfl) (fun _ _ _ h => h) (Or.inl ⟨by rfl, ?he6a1⟩) (by assumption) ?re6a1
    case he6a1 => (intro w hSw; (try dsimp only at hSw); go_simp; try with_reducible rfl)
    case' re6a1 => skip
    try simp only [Act.put, List.setIfInBounds_toArray, List.set_cons_zero, List.set_cons_succ]
    refine wpAnyG_pure (i := 2) (v := ?ve6a2) at2 (by kernel_rfl) (fun _ _ _ h => h) (Or.inl ⟨by rfl, ?he6a2⟩) (Or.inr (by assumption)) ?re6a2
    case he6a2 => (intro w hSw; (try dsimp only at hSw); go_simp; try with_reducible rfl)
    case' re6a2 => skip
    try simp only [Act.put, List.setIfInBounds_toArray, List.set_cons_zero, List.set_cons_succ]
    refine wpAnyG_pure (i := 4) (v := ?ve6a4) at4 (by kernel_rfl) (fun _ _ _ h => h) (Or.inl ⟨by rfl, ?he6a4⟩) (Or.inr (by assumption)) ?re6a4
    case he6a4 => (intro w hSw; (try dsimp only at hSw); go_simp; try with_reducible rfl)
    case' re6a4 => skip
    try simp only [Act.put, List.setIfInBounds_toArray, List.set_cons_zero, List.set_cons_succ]
    refine wpAnyG_take (ws := [1,5]) (i := 5) (v := ?ve6a5) at5 (by kernel_rfl) (fun _ _ _ h => h) (Or.inl ⟨by rfl, ?he6a5⟩) (by assumption) ?re6a5
    case he6a5 => (intro w hSw; (try dsimp only at hSw); go_simp; try with_reducible rfl)
    case' re6a5 => skip
    try simp only [Act.put, List.setIfInBounds_toArray, List.set_cons_zero, List.set_cons_succ]
    refine wpAnyG_pure (i := 6) (v := ?ve6a6) at6 (by kernel_rfl) (fun _ _ _ h => h) (Or.inl ⟨by rfl, ?he6a6⟩) (Or.inr (by assumption)) ?re6a6
    case he6a6 => (intro w hSw; (try dsimp only at hSw); go_simp; try with_reducible rfl)
    case' re6a6 => skip
    try simp only [Act.put, List.setIfInBounds_toArray, List.set_cons_zero, List.set_cons_succ]
    refine wpAnyG_two 0 13 at0 at13 (by kernel_rfl) (fun Kn hK => ?_) (fun Kn hK => ?_)
    · skip
      go_simp
      refine (HCa.out wd hb0).mono ?_
      rintro e x1 ⟨rfl, hq1⟩
      have hb1 := hb0.trans (hq1.mono hb0.size)
      clear hS
      have hS := HSS.out _ hb1
      refine hK.out _ _ (Or.inr hS) ?_
      clear hK Kn
      try simp only [Act.put, List.setIfInBounds_toArray, List.set_cons_zero, List.set_cons_succ]
      refine wpAnyG_two 3 13 at3 at13 (by kernel_rfl) (fun Kn hK => ?_) (fun Kn hK => ?_)
      · skip
        go_simp
        refine (HCb.out x1 hb1).mono ?_
        rintro e x2 ⟨rfl, hq2⟩
        have hb2 := hb1.trans (hq2.mono hb1.size)
        clear hS
        have hS := HSS.out _ hb2
        refine hK.out _ _ (Or.inr hS) ?_
        clear hK Kn
        try simp only [Act.put, List.setIfInBounds_toArray, List.set_cons_zero, List.set_cons_succ]
        refine wpAnyG_two 7 13 at7 at13 (by kernel_rfl) (fun Kn hK => ?_) (fun Kn hK => ?_)
        · skip
          go_simp
          refine (HCc.out x2 hb2).mono ?_
          rintro e x3 ⟨vs, rfl, hos, hq3⟩
          have hb3 := hb2.trans (hq3.mono hb2.size)
          obtain ⟨As, cs, rfl, _, _⟩ := own_slice hos
          have HOS := Lib.hid (strs_own hos)
          clear hos
          clear hS
          have hS := HSS.out _ hb3
          refine hK.out _ _ (Or.inr hS) ?_
          clear hK Kn
          try simp only [Act.put, List.setIfInBounds_toArray, List.set_cons_zero, List.set_cons_succ]
          refine wpAnyG_two 8 13 at8 at13 (by kernel_rfl) (fun Kn hK => ?_) (fun Kn hK => ?_)
          · skip
            go_simp
            refine (HCd.out x3 hb3).mono ?_
            rintro e x4 ⟨vk, rfl, hok, hq4⟩
            have hb4 := hb3.trans (hq4.mono hb3.size)
            have HOS := Lib.hid (HOS.out.below hq4)
            obtain ⟨Ak, ck, rfl, _, _⟩ := own_slice hok
            have HKN := Lib.hid (rows_own hok)
            clear hok
            clear hS
            have hS := HSS.out _ hb4
            refine hK.out _ _ (Or.inr hS) ?_
            clear hK Kn
            try simp only [Act.put, List.setIfInBounds_toArray, List.set_cons_zero, List.set_cons_succ]
            refine wpAnyG_two 9 13 at9 at13 (by kernel_rfl) (fun Kn hK => ?_) (fun Kn hK => ?_)
            · skip
              go_simp
              refine (HCe.out x4 hb4 HOS.out HKN.out).mono ?_
              rintro e x5 ⟨⟨vr, vw, vv, vbb, rfl, hmo⟩, hq5⟩
              have hb5 := hb4.trans (hq5.mono hb4.size)
              have HOS := Lib.hid (HOS.out.below hq5)
              have HKN := Lib.hid (HKN.out.below hq5)
              obtain ⟨Am, cm1, rfl, _, _⟩ := own_slice hmo.rd
              obtain ⟨Bm, cm2, rfl, _, _⟩ := own_slice hmo.wr
              obtain ⟨Cm, cm3, rfl, _, _⟩ := own_slice hmo.vf
              obtain ⟨Dm, cm4, rfl, _, _⟩ := own_slice hmo.bl
              have HMB := Lib.hid hmo
              clear hmo
              clear hS
              have hS := HSS.out _ hb5
              refine hK.out _ _ (Or.inr hS) ?_
              clear hK Kn
              try simp only [Act.put, List.setIfInBounds_toArray, List.set_cons_zero, List.set_cons_succ]
              refine wpAnyG_pure (i := 10) (v := ?ve6r610) at10 (by kernel_rfl) (fun _ _ _ h => h) (Or.inl ⟨by rfl, ?he6r610⟩) (Or.inr (by assumption)) ?re6r610
              case he6r610 => (intro w hSw; (try dsimp only at hSw); go_simp; try with_reducible rfl)
              case' re6r610 => skip
              try simp only [Act.put, List.setIfInBounds_toArray, List.set_cons_zero, List.set_cons_succ]
              refine wpAnyG_pure (i := 11) (v := ?ve6r611) at11 (by kernel_rfl) (fun _ _ _ h => h) (Or.inl ⟨by rfl, ?he6r611⟩) (Or.inr (by assumption)) ?re6r611
              case he6r611 => (intro w hSw; (try dsimp only at hSw); go_simp; try with_reducible rfl)
              case' re6r611 => skip
              try simp only [Act.put, List.setIfInBounds_toArray, List.set_cons_zero, List.set_cons_succ]
              refine wpAnyG_pure (i := 12) (v := ?ve6r612) at12 (by kernel_rfl) (fun _ _ _ h => h) (Or.inl ⟨by rfl, ?he6r612⟩) (Or.inr (by assumption)) ?re6r612
              case he6r612 => (intro w hSw; (try dsimp only at hSw); go_simp; try with_reducible rfl)
              case' re6r612 => skip
              try simp only [Act.put, List.setIfInBounds_toArray, List.set_cons_zero, List.set_cons_succ]
              refine wpAnyG_one 13 at13 (by kernel_rfl) (fun Kn hK => ?_)
              go_simp
              obtain ⟨z7, hzz7⟩ : ∃ z, x5.heap.size = z := ⟨_, rfl⟩
              obtain ⟨x7, hx7⟩ : ∃ x, x5.alloc (.cells #[.string ⟨#[]⟩, .string ⟨#[]⟩, .int .i64 0, .slice none 0 0, .slice none 0 0, .int .u64 0, .slice none 0 0, .slice none 0 0, .string ⟨#[]⟩] 42) = x := ⟨_, rfl⟩
              have hz7 : x7.heap[z7]? = some (.cells #[.string ⟨#[]⟩, .string ⟨#[]⟩, .int .i64 0, .slice none 0 0, .slice none 0 0, .int .u64 0, .slice none 0 0, .slice none 0 0, .string ⟨#[]⟩] 42 (0, 0)) := by rw [← hx7, ← hzz7, get_alloc, if_pos rfl]
              have hq7 : Below x5.heap.size x5 x7 := by rw [← hx7]; exact (Below.refl _ x5).alloc (Nat.le_refl _) _
              have HZL : Hid (w8.heap.size ≤ z7) := Lib.hid (by have h1 := (Below.refl w8.heap.size w8).size; have h2 := hb5.size; omega)
              rw [hx7, hzz7]
              have hb7 := hb5.trans (hq7.mono hb5.size)
              have HOS := Lib.hid (HOS.out.below hq7)
              have HKN := Lib.hid (HKN.out.below hq7)
              have HMB := Lib.hid (HMB.out.below hq7)
              clear hS
              have hS := HSS.out _ hb7
              refine hK.out _ _ (Or.inr hS) ?_
              clear hK Kn
              try simp only [Act.put, List.setIfInBounds_toArray, List.set_cons_zero, List.set_cons_succ]
              refine wpAnyG_one 14 at14 (by kernel_rfl) (fun Kn hK => ?_)
              refine step_store_all rfl _ _ _ rfl rfl rfl _ _ hz7 info_mt rfl (by simp [Value.oneCell']) ?_
              intro y9 h9 k9 s9
              refine hK.out _ _ (Or.inl (by kernel_rfl)) ?_
              have HLEAF : Hid (MtIn w8 y9 z7 BM1) := Lib.hid ⟨_, _, _, _, _, h9, HMB.out.store hz7 k9, below_at ((Below.refl w8.heap.size w8).trans (hb7.mono (Below.refl w8.heap.size w8).size)) k9 HZL.out⟩
              clear hK Kn h9 k9 s9 hS
              try simp only [Act.put, List.setIfInBounds_toArray, List.set_cons_zero, List.set_cons_succ]
              refine wpAnyG_one 15 at15 (by kernel_rfl) (fun Kn hK => ?_)
              go_simp
              refine hK.out _ _ (Or.inl (by kernel_rfl)) ?_
              clear hK Kn
              refine wpAnyG_done (by kernel_rfl) ?_
              try simp only [Act.put, List.setIfInBounds_toArray, List.set_cons_zero, List.set_cons_succ]
              go_wp2_with fail
              go_meet
              exact ⟨_, rfl, rfl, HLEAF⟩
            · skip
              go_simp
              obtain ⟨z8, hzz8⟩ : ∃ z, x4.heap.size = z := ⟨_, rfl⟩
              obtain ⟨x8, hx8⟩ : ∃ x, x4.alloc (.cells #[.string ⟨#[]⟩, .string ⟨#[]⟩, .int .i64 0, .slice none 0 0, .slice none 0 0, .int .u64 0, .slice none 0 0, .slice none 0 0, .string ⟨#[]⟩] 42) = x := ⟨_, rfl⟩
              have hz8 : x8.heap[z8]? = some (.cells #[.string ⟨#[]⟩, .string ⟨#[]⟩, .int .i64 0, .slice none 0 0, .slice none 0 0, .int .u64 0, .slice none 0 0, .slice none 0 0, .string ⟨#[]⟩] 42 (0, 0)) := by rw [← hx8, ← hzz8, get_alloc, if_pos rfl]
              have hq8 : Below x4.heap.size x4 x8 := by rw [← hx8]; exact (Below.refl _ x4).alloc (Nat.le_refl _) _
              have HZL : Hid (w8.heap.size ≤ z8) := Lib.hid (by have h1 := (Below.refl w8.heap.size w8).size; have h2 := hb4.size; omega)
              rw [hx8, hzz8]
              have hb8 := hb4.trans (hq8.mono hb4.size)
              have HOS := Lib.hid (HOS.out.below hq8)
              have HKN := Lib.hid (HKN.out.below hq8)
              clear hS
              have hS := HSS.out _ hb8
              refine hK.out _ _ (Or.inr hS) ?_
              clear hK Kn
              try simp only [Act.put, List.setIfInBounds_toArray, List.set_cons_zero, List.set_cons_succ]
              refine wpAnyG_one 9 at9 (by kernel_rfl) (fun Kn hK => ?_)
              go_simp
              refine (HCe.out x8 hb8 HOS.out HKN.out).mono ?_
              rintro e x9 ⟨⟨vr, vw, vv, vbb, rfl, hmo⟩, hq9⟩
              have hb9 := hb8.trans (hq9.mono hb8.size)
              have HOS := Lib.hid (HOS.out.below hq9)
              have HKN := Lib.hid (HKN.out.below hq9)
              have hz9 := (Keep.of_below hq9 : Keep (fun _ => False) x8 x9).at hz8 fun e => e
              obtain ⟨Am, cm1, rfl, _, _⟩ := own_slice hmo.rd
              obtain ⟨Bm, cm2, rfl, _, _⟩ := own_slice hmo.wr
              obtain ⟨Cm, cm3, rfl, _, _⟩ := own_slice hmo.vf
              obtain ⟨Dm, cm4, rfl, _, _⟩ := own_slice hmo.bl
              have HMB := Lib.hid hmo
              clear hmo
              clear hS
              have hS := HSS.out _ hb9
              refine hK.out _ _ (Or.inr hS) ?_
              clear hK Kn
              try simp only [Act.put, List.setIfInBounds_toArray, List.set_cons_zero, List.set_cons_succ]
              refine wpAnyG_pure (i := 10) (v := ?ve6r1010) at10 (by kernel_rfl) (fun _ _ _ h => h) (Or.inl ⟨by rfl, ?he6r1010⟩) (Or.inr (by assumption)) ?re6r1010
              case he6r1010 => (intro w hSw; (try dsimp only at hSw); go_simp; try with_reducible rfl)
              case' re6r1010 => skip
              try simp only [Act.put, List.setIfInBounds_toArray, List.set_cons_zero, List.set_cons_succ]
              refine wpAnyG_pure (i := 11) (v := ?ve6r1011) at11 (by kernel_rfl) (fun _ _ _ h => h) (Or.inl ⟨by rfl, ?he6r1011⟩) (Or.inr (by assumption)) ?re6r1011
              case he6r1011 => (intro w hSw; (try dsimp only at hSw); go_simp; try with_reducible rfl)
              case' re6r1011 => skip
              try simp only [Act.put, List.setIfInBounds_toArray, List.set_cons_zero, List.set_cons_succ]
              refine wpAnyG_pure (i := 12) (v := ?ve6r1012) at12 (by kernel_rfl) (fun _ _ _ h => h) (Or.inl ⟨by rfl, ?he6r1012⟩) (Or.inr (by assumption)) ?re6r1012
              case he6r1012 => (intro w hSw; (try dsimp only at hSw); go_simp; try with_reducible rfl)
              case' re6r1012 => skip
              try simp only [Act.put, List.setIfInBounds_toArray, List.set_cons_zero, List.set_cons_succ]
              refine wpAnyG_one 14 at14 (by kernel_rfl) (fun Kn hK => ?_)
              refine step_store_all rfl _ _ _ rfl rfl rfl _ _ hz9 info_mt rfl (by simp [Value.oneCell']) ?_
              intro y9 h9 k9 s9
              refine hK.out _ _ (Or.inl (by kernel_rfl)) ?_
              have HLEAF : Hid (MtIn w8 y9 z8 BM1) := Lib.hid ⟨_, _, _, _, _, h9, HMB.out.store hz9 k9, below_at ((Below.refl w8.heap.size w8).trans (hb9.mono (Below.refl w8.heap.size w8).size)) k9 HZL.out⟩
              clear hK Kn h9 k9 s9 hS
              try simp only [Act.put, List.setIfInBounds_toArray, List.set_cons_zero, List.set_cons_succ]
              refine wpAnyG_one 15 at15 (by kernel_rfl) (fun Kn hK => ?_)
              go_simp
              refine hK.out _ _ (Or.inl (by kernel_rfl)) ?_
              clear hK Kn
              refine wpAnyG_done (by kernel_rfl) ?_
              try simp only [Act.put, List.setIfInBounds_toArray, List.set_cons_zero, List.set_cons_succ]
              go_wp2_with fail
              go_meet
              exact ⟨_, rfl, rfl, HLEAF⟩
          · skip
            go_simp
            obtain ⟨z11, hzz11⟩ : ∃ z, x3.heap.size = z := ⟨_, rfl⟩
            obtain ⟨x11, hx11⟩ : ∃ x, x3.alloc (.cells #[.string ⟨#[]⟩, .string ⟨#[]⟩, .int .i64 0, .slice none 0 0, .slice none 0 0, .int .u64 0, .slice none 0 0, .slice none 0 0, .string ⟨#[]⟩] 42) = x := ⟨_, rfl⟩
            have hz11 : x11.heap[z11]? = some (.cells #[.string ⟨#[]⟩, .string ⟨#[]⟩, .int .i64 0, .slice none 0 0, .slice none 0 0, .int .u64 0, .slice none 0 0, .slice none 0 0, .string ⟨#[]⟩] 42 (0, 0)) := by rw [← hx11, ← hzz11, get_alloc, if_pos rfl]
            have hq11 : Below x3.heap.size x3 x11 := by rw [← hx11]; exact (Below.refl _ x3).alloc (Nat.le_refl _) _
            have HZL : Hid (w8.heap.size ≤ z11) := Lib.hid (by have h1 := (Below.refl w8.heap.size w8).size; have h2 := hb3.size; omega)
            rw [hx11, hzz11]
            have hb11 := hb3.trans (hq11.mono hb3.size)
            have HOS := Lib.hid (HOS.out.below hq11)
            clear hS
            have hS := HSS.out _ hb11
            refine hK.out _ _ (Or.inr hS) ?_
            clear hK Kn
            try simp only [Act.put, List.setIfInBounds_toArray, List.set_cons_zero, List.set_cons_succ]
            refine wpAnyG_one 8 at8 (by kernel_rfl) (fun Kn hK => ?_)
            go_simp
            refine (HCd.out x11 hb11).mono ?_
            rintro e x12 ⟨vk, rfl, hok, hq12⟩
            have hb12 := hb11.trans (hq12.mono hb11.size)
            have HOS := Lib.hid (HOS.out.below hq12)
            have hz12 := (Keep.of_below hq12 : Keep (fun _ => False) x11 x12).at hz11 fun e => e
            obtain ⟨Ak, ck, rfl, _, _⟩ := own_slice hok
            have HKN := Lib.hid (rows_own hok)
            clear hok
            clear hS
            have hS := HSS.out _ hb12
            refine hK.out _ _ (Or.inr hS) ?_
            clear hK Kn
            try simp only [Act.put, List.setIfInBounds_toArray, List.set_cons_zero, List.set_cons_succ]
            refine wpAnyG_one 9 at9 (by kernel_rfl) (fun Kn hK => ?_)
            go_simp
            refine (HCe.out x12 hb12 HOS.out HKN.out).mono ?_
            rintro e x13 ⟨⟨vr, vw, vv, vbb, rfl, hmo⟩, hq13⟩
            have hb13 := hb12.trans (hq13.mono hb12.size)
            have HOS := Lib.hid (HOS.out.below hq13)
            have HKN := Lib.hid (HKN.out.below hq13)
            have hz13 := (Keep.of_below hq13 : Keep (fun _ => False) x12 x13).at hz12 fun e => e
            obtain ⟨Am, cm1, rfl, _, _⟩ := own_slice hmo.rd
            obtain ⟨Bm, cm2, rfl, _, _⟩ := own_slice hmo.wr
            obtain ⟨Cm, cm3, rfl, _, _⟩ := own_slice hmo.vf
            obtain ⟨Dm, cm4, rfl, _, _⟩ := own_slice hmo.bl
            have HMB := Lib.hid hmo
            clear hmo
            clear hS
            have hS := HSS.out _ hb13
            refine hK.out _ _ (Or.inr hS) ?_
            clear hK Kn
            try simp only [Act.put, List.setIfInBounds_toArray, List.set_cons_zero, List.set_cons_succ]
            refine wpAnyG_pure (i := 10) (v := ?ve6r1410) at10 (by kernel_rfl) (fun _ _ _ h => h) (Or.inl ⟨by rfl, ?he6r1410⟩) (Or.inr (by assumption)) ?re6r1410
            case he6r1410 => (intro w hSw; (try dsimp only at hSw); go_simp; try with_reducible rfl)
            case' re6r1410 => skip
            try simp only [Act.put, List.setIfInBounds_toArray, List.set_cons_zero, List.set_cons_succ]
            refine wpAnyG_pure (i := 11) (v := ?ve6r1411) at11 (by kernel_rfl) (fun _ _ _ h => h) (Or.inl ⟨by rfl, ?he6r1411⟩) (Or.inr (by assumption)) ?re6r1411
            case he6r1411 => (intro w hSw; (try dsimp only at hSw); go_simp; try with_reducible rfl)
            case' re6r1411 => skip
            try simp only [Act.put, List.setIfInBounds_toArray, List.set_cons_zero, List.set_cons_succ]
            refine wpAnyG_pure (i := 12) (v := ?ve6r1412) at12 (by kernel_rfl) (fun _ _ _ h => h) (Or.inl ⟨by rfl, ?he6r1412⟩) (Or.inr (by assumption)) ?re6r1412
            case he6r1412 => (intro w hSw; (try dsimp only at hSw); go_simp; try with_reducible rfl)
            case' re6r1412 => skip
            try simp only [Act.put, List.setIfInBounds_toArray, List.set_cons_zero, List.set_cons_succ]
            refine wpAnyG_one 14 at14 (by kernel_rfl) (fun Kn hK => ?_)
            refine step_store_all rfl _ _ _ rfl rfl rfl _ _ hz13 info_mt rfl (by simp [Value.oneCell']) ?_
            intro y9 h9 k9 s9
            refine hK.out _ _ (Or.inl (by kernel_rfl)) ?_
            have HLEAF : Hid (MtIn w8 y9 z11 BM1) := Lib.hid ⟨_, _, _, _, _, h9, HMB.out.store hz13 k9, below_at ((Below.refl w8.heap.size w8).trans (hb13.mono (Below.refl w8.heap.size w8).size)) k9 HZL.out⟩
            clear hK Kn h9 k9 s9 hS
            try simp only [Act.put, List.setIfInBounds_toArray, List.set_cons_zero, List.set_cons_succ]
            refine wpAnyG_one 15 at15 (by kernel_rfl) (fun Kn hK => ?_)
            go_simp
            refine hK.out _ _ (Or.inl (by kernel_rfl)) ?_
            clear hK Kn
            refine wpAnyG_done (by kernel_rfl) ?_
            try simp only [Act.put, List.setIfInBounds_toArray, List.set_cons_zero, List.set_cons_succ]
            go_wp2_with fail
            go_meet
            exact ⟨_, rfl, rfl, HLEAF⟩
        · skip
          go_simp
          obtain ⟨z15, hzz15⟩ : ∃ z, x2.heap.size = z := ⟨_, rfl⟩
          obtain ⟨x15, hx15⟩ : ∃ x, x2.alloc (.cells #[.string ⟨#[]⟩, .string ⟨#[]⟩, .int .i64 0, .slice none 0 0, .slice none 0 0, .int .u64 0, .slice none 0 0, .slice none 0 0, .string ⟨#[]⟩] 42) = x := ⟨_, rfl⟩
          have hz15 : x15.heap[z15]? = some (.cells #[.string ⟨#[]⟩, .string ⟨#[]⟩, .int .i64 0, .slice none 0 0, .slice none 0 0, .int .u64 0, .slice none 0 0, .slice none 0 0, .string ⟨#[]⟩] 42 (0, 0)) := by rw [← hx15, ← hzz15, get_alloc, if_pos rfl]
          have hq15 : Below x2.heap.size x2 x15 := by rw [← hx15]; exact (Below.refl _ x2).alloc (Nat.le_refl _) _
          have HZL : Hid (w8.heap.size ≤ z15) := Lib.hid (by have h1 := (Below.refl w8.heap.size w8).size; have h2 := hb2.size; omega)
          rw [hx15, hzz15]
          have hb15 := hb2.trans (hq15.mono hb2.size)
          clear hS
          have hS := HSS.out _ hb15
          refine hK.out _ _ (Or.inr hS) ?_
          clear hK Kn
          try simp only [Act.put, List.setIfInBounds_toArray, List.set_cons_zero, List.set_cons_succ]
          refine wpAnyG_one 7 at7 (by kernel_rfl) (fun Kn hK => ?_)
          go_simp
          refine (HCc.out x15 hb15).mono ?_
          rintro e x16 ⟨vs, rfl, hos, hq16⟩
          have hb16 := hb15.trans (hq16.mono hb15.size)
          have hz16 := (Keep.of_below hq16 : Keep (fun _ => False) x15 x16).at hz15 fun e => e
          obtain ⟨As, cs, rfl, _, _⟩ := own_slice hos
          have HOS := Lib.hid (strs_own hos)
          clear hos
          clear hS
          have hS := HSS.out _ hb16
          refine hK.out _ _ (Or.inr hS) ?_
          clear hK Kn
          try simp only [Act.put, List.setIfInBounds_toArray, List.set_cons_zero, List.set_cons_succ]
          refine wpAnyG_one 8 at8 (by kernel_rfl) (fun Kn hK => ?_)
          go_simp
          refine (HCd.out x16 hb16).mono ?_
          rintro e x17 ⟨vk, rfl, hok, hq17⟩
          have hb17 := hb16.trans (hq17.mono hb16.size)
          have HOS := Lib.hid (HOS.out.below hq17)
          have hz17 := (Keep.of_below hq17 : Keep (fun _ => False) x16 x17).at hz16 fun e => e
          obtain ⟨Ak, ck, rfl, _, _⟩ := own_slice hok
          have HKN := Lib.hid (rows_own hok)
          clear hok
          clear hS
          have hS := HSS.out _ hb17
          refine hK.out _ _ (Or.inr hS) ?_
          clear hK Kn
          try simp only [Act.put, List.setIfInBounds_toArray, List.set_cons_zero, List.set_cons_succ]
          refine wpAnyG_one 9 at9 (by kernel_rfl) (fun Kn hK => ?_)
          go_simp
          refine (HCe.out x17 hb17 HOS.out HKN.out).mono ?_
          rintro e x18 ⟨⟨vr, vw, vv, vbb, rfl, hmo⟩, hq18⟩
          have hb18 := hb17.trans (hq18.mono hb17.size)
          have HOS := Lib.hid (HOS.out.below hq18)
          have HKN := Lib.hid (HKN.out.below hq18)
          have hz18 := (Keep.of_below hq18 : Keep (fun _ => False) x17 x18).at hz17 fun e => e
          obtain ⟨Am, cm1, rfl, _, _⟩ := own_slice hmo.rd
          obtain ⟨Bm, cm2, rfl, _, _⟩ := own_slice hmo.wr
          obtain ⟨Cm, cm3, rfl, _, _⟩ := own_slice hmo.vf
          obtain ⟨Dm, cm4, rfl, _, _⟩ := own_slice hmo.bl
          have HMB := Lib.hid hmo
          clear hmo
          clear hS
          have hS := HSS.out _ hb18
          refine hK.out _ _ (Or.inr hS) ?_
          clear hK Kn
          try simp only [Act.put, List.setIfInBounds_toArray, List.set_cons_zero, List.set_cons_succ]
          refine wpAnyG_pure (i := 10) (v := ?ve6r1910) at10 (by kernel_rfl) (fun _ _ _ h => h) (Or.inl ⟨by rfl, ?he6r1910⟩) (Or.inr (by assumption)) ?re6r1910
          case he6r1910 => (intro w hSw; (try dsimp only at hSw); go_simp; try with_reducible rfl)
          case' re6r1910 => skip
          try simp only [Act.put, List.setIfInBounds_toArray, List.set_cons_zero, List.set_cons_succ]
          refine wpAnyG_pure (i := 11) (v := ?ve6r1911) at11 (by kernel_rfl) (fun _ _ _ h => h) (Or.inl ⟨by rfl, ?he6r1911⟩) (Or.inr (by assumption)) ?re6r1911
          case he6r1911 => (intro w hSw; (try dsimp only at hSw); go_simp; try with_reducible rfl)
          case' re6r1911 => skip
          try simp only [Act.put, List.setIfInBounds_toArray, List.set_cons_zero, List.set_cons_succ]
          refine wpAnyG_pure (i := 12) (v := ?ve6r1912) at12 (by kernel_rfl) (fun _ _ _ h => h) (Or.inl ⟨by rfl, ?he6r1912⟩) (Or.inr (by assumption)) ?re6r1912
          case he6r1912 => (intro w hSw; (try dsimp only at hSw); go_simp; try with_reducible rfl)
          case' re6r1912 => skip
          try simp only [Act.put, List.setIfInBounds_toArray, List.set_cons_zero, List.set_cons_succ]
          refine wpAnyG_one 14 at14 (by kernel_rfl) (fun Kn hK => ?_)
          refine step_store_all rfl _ _ _ rfl rfl rfl _ _ hz18 info_mt rfl (by simp [Value.oneCell']) ?_
          intro y9 h9 k9 s9
          refine hK.out _ _ (Or.inl (by kernel_rfl)) ?_
          have HLEAF : Hid (MtIn w8 y9 z15 BM1) := Lib.hid ⟨_, _, _, _, _, h9, HMB.out.store hz18 k9, below_at ((Below.refl w8.heap.size w8).trans (hb18.mono (Below.refl w8.heap.size w8).size)) k9 HZL.out⟩
          clear hK Kn h9 k9 s9 hS
          try simp only [Act.put, List.setIfInBounds_toArray, List.set_cons_zero, List.set_cons_succ]
          refine wpAnyG_one 15 at15 (by kernel_rfl) (fun Kn hK => ?_)
          go_simp
          refine hK.out _ _ (Or.inl (by kernel_rfl)) ?_
          clear hK Kn
          refine wpAnyG_done (by kernel_rfl) ?_
          try simp only [Act.put, List.setIfInBounds_toArray, List.set_cons_zero, List.set_cons_succ]
          go_wp2_with fail
          go_meet
          exact ⟨_, rfl, rfl, HLEAF⟩
      · skip
        go_simp
        obtain ⟨z20, hzz20⟩ : ∃ z, x1.heap.size = z := ⟨_, rfl⟩
        obtain ⟨x20, hx20⟩ : ∃ x, x1.alloc (.cells #[.string ⟨#[]⟩, .string ⟨#[]⟩, .int .i64 0, .slice none 0 0, .slice none 0 0, .int .u64 0, .slice none 0 0, .slice none 0 0, .string ⟨#[]⟩] 42) = x := ⟨_, rfl⟩
        have hz20 : x20.heap[z20]? = some (.cells #[.string ⟨#[]⟩, .string ⟨#[]⟩, .int .i64 0, .slice none 0 0, .slice none 0 0, .int .u64 0, .slice none 0 0, .slice none 0 0, .string ⟨#[]⟩] 42 (0, 0)) := by rw [← hx20, ← hzz20, get_alloc, if_pos rfl]
        have hq20 : Below x1.heap.size x1 x20 := by rw [← hx20]; exact (Below.refl _ x1).alloc (Nat.le_refl _) _
        have HZL : Hid (w8.heap.size ≤ z20) := Lib.hid (by have h1 := (Below.refl w8.heap.size w8).size; have h2 := hb1.size; omega)
        rw [hx20, hzz20]
        have hb20 := hb1.trans (hq20.mono hb1.size)
        clear hS
        have hS := HSS.out _ hb20
        refine hK.out _ _ (Or.inr hS) ?_
        clear hK Kn
        try simp only [Act.put, List.setIfInBounds_toArray, List.set_cons_zero, List.set_cons_succ]
        refine wpAnyG_one 3 at3 (by kernel_rfl) (fun Kn hK => ?_)
        go_simp
        refine (HCb.out x20 hb20).mono ?_
        rintro e x21 ⟨rfl, hq21⟩
        have hb21 := hb20.trans (hq21.mono hb20.size)
        have hz21 := (Keep.of_below hq21 : Keep (fun _ => False) x20 x21).at hz20 fun e => e
        clear hS
        have hS := HSS.out _ hb21
        refine hK.out _ _ (Or.inr hS) ?_
        clear hK Kn
        try simp only [Act.put, List.setIfInBounds_toArray, List.set_cons_zero, List.set_cons_succ]
        refine wpAnyG_one 7 at7 (by kernel_rfl) (fun Kn hK => ?_)
        go_simp
        refine (HCc.out x21 hb21).mono ?_
        rintro e x22 ⟨vs, rfl, hos, hq22⟩
        have hb22 := hb21.trans (hq22.mono hb21.size)
        have hz22 := (Keep.of_below hq22 : Keep (fun _ => False) x21 x22).at hz21 fun e => e
        obtain ⟨As, cs, rfl, _, _⟩ := own_slice hos
        have HOS := Lib.hid (strs_own hos)
        clear hos
        clear hS
        have hS := HSS.out _ hb22
        refine hK.out _ _ (Or.inr hS) ?_
        clear hK Kn
        try simp only [Act.put, List.setIfInBounds_toArray, List.set_cons_zero, List.set_cons_succ]
        refine wpAnyG_one 8 at8 (by kernel_rfl) (fun Kn hK => ?_)
        go_simp
        refine (HCd.out x22 hb22).mono ?_
        rintro e x23 ⟨vk, rfl, hok, hq23⟩
        have hb23 := hb22.trans (hq23.mono hb22.size)
        have HOS := Lib.hid (HOS.out.below hq23)
        have hz23 := (Keep.of_below hq23 : Keep (fun _ => False) x22 x23).at hz22 fun e => e
        obtain ⟨Ak, ck, rfl, _, _⟩ := own_slice hok
        have HKN := Lib.hid (rows_own hok)
        clear hok
        clear hS
        have hS := HSS.out _ hb23
        refine hK.out _ _ (Or.inr hS) ?_
        clear hK Kn
        try simp only [Act.put, List.setIfInBounds_toArray, List.set_cons_zero, List.set_cons_succ]
        refine wpAnyG_one 9 at9 (by kernel_rfl) (fun Kn hK => ?_)
        go_simp
        refine (HCe.out x23 hb23 HOS.out HKN.out).mono ?_
        rintro e x24 ⟨⟨vr, vw, vv, vbb, rfl, hmo⟩, hq24⟩
        have hb24 := hb23.trans (hq24.mono hb23.size)
        have HOS := Lib.hid (HOS.out.below hq24)
        have HKN := Lib.hid (HKN.out.below hq24)
        have hz24 := (Keep.of_below hq24 : Keep (fun _ => False) x23 x24).at hz23 fun e => e
        obtain ⟨Am, cm1, rfl, _, _⟩ := own_slice hmo.rd
        obtain ⟨Bm, cm2, rfl, _, _⟩ := own_slice hmo.wr
        obtain ⟨Cm, cm3, rfl, _, _⟩ := own_slice hmo.vf
        obtain ⟨Dm, cm4, rfl, _, _⟩ := own_slice hmo.bl
        have HMB := Lib.hid hmo
        clear hmo
        clear hS
        have hS := HSS.out _ hb24
        refine hK.out _ _ (Or.inr hS) ?_
        clear hK Kn
        try simp only [Act.put, List.setIfInBounds_toArray, List.set_cons_zero, List.set_cons_succ]
        refine wpAnyG_pure (i := 10) (v := ?ve6r2510) at10 (by kernel_rfl) (fun _ _ _ h => h) (Or.inl ⟨by rfl, ?he6r2510⟩) (Or.inr (by assumption)) ?re6r2510
        case he6r2510 => (intro w hSw; (try dsimp only at hSw); go_simp; try with_reducible rfl)
        case' re6r2510 => skip
        try simp only [Act.put, List.setIfInBounds_toArray, List.set_cons_zero, List.set_cons_succ]
        refine wpAnyG_pure (i := 11) (v := ?ve6r2511) at11 (by kernel_rfl) (fun _ _ _ h => h) (Or.inl ⟨by rfl, ?he6r2511⟩) (Or.inr (by assumption)) ?re6r2511
        case he6r2511 => (intro w hSw; (try dsimp only at hSw); go_simp; try with_reducible rfl)
        case' re6r2511 => skip
        try simp only [Act.put, List.setIfInBounds_toArray, List.set_cons_zero, List.set_cons_succ]
        refine wpAnyG_pure (i := 12) (v := ?ve6r2512) at12 (by kernel_rfl) (fun _ _ _ h => h) (Or.inl ⟨by rfl, ?he6r2512⟩) (Or.inr (by assumption)) ?re6r2512
        case he6r2512 => (intro w hSw; (try dsimp only at hSw); go_simp; try with_reducible rfl)
        case' re6r2512 => skip
        try simp only [Act.put, List.setIfInBounds_toArray, List.set_cons_zero, List.set_cons_succ]
        refine wpAnyG_one 14 at14 (by kernel_rfl) (fun Kn hK => ?_)
        refine step_store_all rfl _ _ _ rfl rfl rfl _ _ hz24 info_mt rfl (by simp [Value.oneCell']) ?_
        intro y9 h9 k9 s9
        refine hK.out _ _ (Or.inl (by kernel_rfl)) ?_
        have HLEAF : Hid (MtIn w8 y9 z20 BM1) := Lib.hid ⟨_, _, _, _, _, h9, HMB.out.store hz24 k9, below_at ((Below.refl w8.heap.size w8).trans (hb24.mono (Below.refl w8.heap.size w8).size)) k9 HZL.out⟩
        clear hK Kn h9 k9 s9 hS
        try simp only [Act.put, List.setIfInBounds_toArray, List.set_cons_zero, List.set_cons_succ]
        refine wpAnyG_one 15 at15 (by kernel_rfl) (fun Kn hK => ?_)
        go_simp
        refine hK.out _ _ (Or.inl (by kernel_rfl)) ?_
        clear hK Kn
        refine wpAnyG_done (by kernel_rfl) ?_
        try simp only [Act.put, List.setIfInBounds_toArray, List.set_cons_zero, List.set_cons_succ]
        go_wp2_with fail
        go_meet
        exact ⟨_, rfl, rfl, HLEAF⟩
    · skip
      go_simp
      obtain ⟨z26, hzz26⟩ : ∃ z, wd.heap.size = z := ⟨_, rfl⟩
      obtain ⟨x26, hx26⟩ : ∃ x, wd.alloc (.cells #[.string ⟨#[]⟩, .string ⟨#[]⟩, .int .i64 0, .slice none 0 0, .slice none 0 0, .int .u64 0, .slice none 0 0, .slice none 0 0, .string ⟨#[]⟩] 42) = x := ⟨_, rfl⟩
      have hz26 : x26.heap[z26]? = some (.cells #[.string ⟨#[]⟩, .string ⟨#[]⟩, .int .i64 0, .slice none 0 0, .slice none 0 0, .int .u64 0, .slice none 0 0, .slice none 0 0, .string ⟨#[]⟩] 42 (0, 0)) := by rw [← hx26, ← hzz26, get_alloc, if_pos rfl]
      have hq26 : Below wd.heap.size wd x26 := by rw [← hx26]; exact (Below.refl _ wd).alloc (Nat.le_refl _) _
      have HZL : Hid (w8.heap.size ≤ z26) := Lib.hid (by have h1 := (Below.refl w8.heap.size w8).size; have h2 := hb0.size; omega)
      rw [hx26, hzz26]
      have hb26 := hb0.trans (hq26.mono hb0.size)
      clear hS
      have hS := HSS.out _ hb26
      refine hK.out _ _ (Or.inr hS) ?_
      clear hK Kn
      try simp only [Act.put, List.setIfInBounds_toArray, List.set_cons_zero, List.set_cons_succ]
      refine wpAnyG_one 0 at0 (by kernel_rfl) (fun Kn hK => ?_)
      go_simp
      refine (HCa.out x26 hb26).mono ?_
      rintro e x27 ⟨rfl, hq27⟩
      have hb27 := hb26.trans (hq27.mono hb26.size)
      have hz27 := (Keep.of_below hq27 : Keep (fun _ => False) x26 x27).at hz26 fun e => e
      clear hS
      have hS := HSS.out _ hb27
      refine hK.out _ _ (Or.inr hS) ?_
      clear hK Kn
      try simp only [Act.put, List.setIfInBounds_toArray, List.set_cons_zero, List.set_cons_succ]
      refine wpAnyG_one 3 at3 (by kernel_rfl) (fun Kn hK => ?_)
      go_simp
      refine (HCb.out x27 hb27).mono ?_
      rintro e x28 ⟨rfl, hq28⟩
      have hb28 := hb27.trans (hq28.mono hb27.size)
      have hz28 := (Keep.of_below hq28 : Keep (fun _ => False) x27 x28).at hz27 fun e => e
      clear hS
      have hS := HSS.out _ hb28
      refine hK.out _ _ (Or.inr hS) ?_
      clear hK Kn
      try simp only [Act.put, List.setIfInBounds_toArray, List.set_cons_zero, List.set_cons_succ]
      refine wpAnyG_one 7 at7 (by kernel_rfl) (fun Kn hK => ?_)
      go_simp
      refine (HCc.out x28 hb28).mono ?_
      rintro e x29 ⟨vs, rfl, hos, hq29⟩
      have hb29 := hb28.trans (hq29.mono hb28.size)
      have hz29 := (Keep.of_below hq29 : Keep (fun _ => False) x28 x29).at hz28 fun e => e
      obtain ⟨As, cs, rfl, _, _⟩ := own_slice hos
      have HOS := Lib.hid (strs_own hos)
      clear hos
      clear hS
      have hS := HSS.out _ hb29
      refine hK.out _ _ (Or.inr hS) ?_
      clear hK Kn
      try simp only [Act.put, List.setIfInBounds_toArray, List.set_cons_zero, List.set_cons_succ]
      refine wpAnyG_one 8 at8 (by kernel_rfl) (fun Kn hK => ?_)
      go_simp
      refine (HCd.out x29 hb29).mono ?_
      rintro e x30 ⟨vk, rfl, hok, hq30⟩
      have hb30 := hb29.trans (hq30.mono hb29.size)
      have HOS := Lib.hid (HOS.out.below hq30)
      have hz30 := (Keep.of_below hq30 : Keep (fun _ => False) x29 x30).at hz29 fun e => e
      obtain ⟨Ak, ck, rfl, _, _⟩ := own_slice hok
      have HKN := Lib.hid (rows_own hok)
      clear hok
      clear hS
      have hS := HSS.out _ hb30
      refine hK.out _ _ (Or.inr hS) ?_
      clear hK Kn
      try simp only [Act.put, List.setIfInBounds_toArray, List.set_cons_zero, List.set_cons_succ]
      refine wpAnyG_one 9 at9 (by kernel_rfl) (fun Kn hK => ?_)
      go_simp
      refine (HCe.out x30 hb30 HOS.out HKN.out).mono ?_
      rintro e x31 ⟨⟨vr, vw, vv, vbb, rfl, hmo⟩, hq31⟩
      have hb31 := hb30.trans (hq31.mono hb30.size)
      have HOS := Lib.hid (HOS.out.below hq31)
      have HKN := Lib.hid (HKN.out.below hq31)
      have hz31 := (Keep.of_below hq31 : Keep (fun _ => False) x30 x31).at hz30 fun e => e
      obtain ⟨Am, cm1, rfl, _, _⟩ := own_slice hmo.rd
      obtain ⟨Bm, cm2, rfl, _, _⟩ := own_slice hmo.wr
      obtain ⟨Cm, cm3, rfl, _, _⟩ := own_slice hmo.vf
      obtain ⟨Dm, cm4, rfl, _, _⟩ := own_slice hmo.bl
      have HMB := Lib.hid hmo
      clear hmo
      clear hS
      have hS := HSS.out _ hb31
      refine hK.out _ _ (Or.inr hS) ?_
      clear hK Kn
      try simp only [Act.put, List.setIfInBounds_toArray, List.set_cons_zero, List.set_cons_succ]
      refine wpAnyG_pure (i := 10) (v := ?ve6r3210) at10 (by kernel_rfl) (fun _ _ _ h => h) (Or.inl ⟨by rfl, ?he6r3210⟩) (Or.inr (by assumption)) ?re6r3210
      case he6r3210 => (intro w hSw; (try dsimp only at hSw); go_simp; try with_reducible rfl)
      case' re6r3210 => skip
      try simp only [Act.put, List.setIfInBounds_toArray, List.set_cons_zero, List.set_cons_succ]
      refine wpAnyG_pure (i := 11) (v := ?ve6r3211) at11 (by kernel_rfl) (fun _ _ _ h => h) (Or.inl ⟨by rfl, ?he6r3211⟩) (Or.inr (by assumption)) ?re6r3211
      case he6r3211 => (intro w hSw; (try dsimp only at hSw); go_simp; try with_reducible rfl)
      case' re6r3211 => skip
      try simp only [Act.put, List.setIfInBounds_toArray, List.set_cons_zero, List.set_cons_succ]
      refine wpAnyG_pure (i := 12) (v := ?ve6r3212) at12 (by kernel_rfl) (fun _ _ _ h => h) (Or.inl ⟨by rfl, ?he6r3212⟩) (Or.inr (by assumption)) ?re6r3212
      case he6r3212 => (intro w hSw; (try dsimp only at hSw); go_simp; try with_reducible rfl)
      case' re6r3212 => skip
      try simp only [Act.put, List.setIfInBounds_toArray, List.set_cons_zero, List.set_cons_succ]
      refine wpAnyG_one 14 at14 (by kernel_rfl) (fun Kn hK => ?_)
      refine step_store_all rfl _ _ _ rfl rfl rfl _ _ hz31 info_mt rfl (by simp [Value.oneCell']) ?_
      intro y9 h9 k9 s9
      refine hK.out _ _ (Or.inl (by kernel_rfl)) ?_
      have HLEAF : Hid (MtIn w8 y9 z26 BM1) := Lib.hid ⟨_, _, _, _, _, h9, HMB.out.store hz31 k9, below_at ((Below.refl w8.heap.size w8).trans (hb31.mono (Below.refl w8.heap.size w8).size)) k9 HZL.out⟩
      clear hK Kn h9 k9 s9 hS
      try simp only [Act.put, List.setIfInBounds_toArray, List.set_cons_zero, List.set_cons_succ]
      refine wpAnyG_one 15 at15 (by kernel_rfl) (fun Kn hK => ?_)
      go_simp
      refine hK.out _ _ (Or.inl (by kernel_rfl)) ?_
      clear hK Kn
      refine wpAnyG_done (by kernel_rfl) ?_
      try simp only [Act.put, List.setIfInBounds_toArray, List.set_cons_zero, List.set_cons_succ]
      go_wp2_with fail
      go_meet
      exact ⟨_, rfl, rfl, HLEAF⟩
  case rest =>
    obtain ⟨Zm1, rfl, rfl, HIh⟩ := hcut
    obtain ⟨wa, hq0, HI1⟩ : ∃ W, W = _ ∧ Hid (MtIn w8 W Zm1 BM1) := ⟨_, rfl, HIh⟩
    subst hq0
    clear HIh HCa HCb HCc HCd HCe
    have hbel1 : Below w8.heap.size w8 wa := by obtain ⟨_, _, _, _, _, _, _, h⟩ := HI1.out; exact h
    have Bwa := Lib.hid (Bw8.out.trans (hbel1.mono Bw8.out.size))
    have HZwa := Lib.hid ((Keep.of_below hbel1 : Keep (fun _ => False) w8 wa).at HZw8.out fun e => e)
    have HYwa := Lib.hid ((Keep.of_below hbel1 : Keep (fun _ => False) w8 wa).at HYw8.out fun e => e)
    have HLwa := Lib.hid (HLw8.out.below hbel1)
    have HMwa := Lib.hid (HMw8.out.below hbel1)
    have HCa := Lib.hid (fun (W : World) (_ : Below wa.heap.size wa W) => secretOf8_calls annaB W (by decide))
    have HCb := Lib.hid (fun (W : World) (_ : Below wa.heap.size wa W) => rootOf8_calls 2 W (by decide) (by decide))
    have HCc := Lib.hid (fun (W : World) (_ : Below wa.heap.size wa W) => signersOf8_calls m2 W (by have := HM12.out; omega))
    have HCd := Lib.hid (fun (W : World) (_ : Below wa.heap.size wa W) => known8_calls W)
    have hCe := fun (W : World) (hb : Below wa.heap.size wa W) {vs vk : Value} (hs : strs W vs (signL m2)) (hk : rowsOf 2 twoV W vk kn8) => build_calls W (secOf annaB) (rootN 2) r2 _ _ vs vk vb (signL m2) kn8 pkOf (HMwa.out.below hb) hs hk HBD2.out HBV.out (HT.out.below (Bwa.out.trans (hb.mono Bwa.out.size))) HKS.out
    simp only [HE2.out] at hCe
    have HCe := Lib.hid hCe
    clear hCe
    go_simp
    go_upto_region 7 with fail
    go_cut [14, 15] from 56 to 67 (fun q er wx => ∃ Zm, q = .pointer (some ⟨Zm, 0, none⟩) ∧ er = .int .i64 0 ∧ Hid (MtIn wa wx Zm BM2))
    case first =>
      refine wp_region_G (fun W2 => W2.cell? ⟨Z2, 0, none⟩ = some (.string r2.owner) ∧ W2.cell? ⟨Z2, 1, none⟩ = some (.string r2.file) ∧ W2.cell? ⟨Z2, 2, none⟩ = some (.int .i64 r2.epoch) ∧ W2.cell? ⟨Z2, 3, none⟩ = some (.slice D7 r2.rd.length cD7) ∧ W2.cell? ⟨Z2, 4, none⟩ = some (.slice E7 r2.wr.length cE7)) [14] (by kernel_rfl) ?_
      have HSS : Hid (∀ W2, Below wa.heap.size wa W2 → (W2.cell? ⟨Z2, 0, none⟩ = some (.string r2.owner) ∧ W2.cell? ⟨Z2, 1, none⟩ = some (.string r2.file) ∧ W2.cell? ⟨Z2, 2, none⟩ = some (.int .i64 r2.epoch) ∧ W2.cell? ⟨Z2, 3, none⟩ = some (.slice D7 r2.rd.length cD7) ∧ W2.cell? ⟨Z2, 4, none⟩ = some (.slice E7 r2.wr.length cE7))) := Lib.hid (fun W2 hb => row5 ((Keep.of_below hb : Keep (fun _ => False) wa W2).at HYwa.out fun e => e))
      have hb0 : Below wa.heap.size wa wa.drew := (Below.refl wa.heap.size wa).drew
      obtain ⟨wd, hwd⟩ : ∃ x, wa.drew = x := ⟨_, rfl⟩
      rw [hwd] at hb0 ⊢
      have hS := HSS.out _ hb0
      refine wpAnyG_take (ws := [1,5]) (i := 1) (v := ?ve7a1) at1 (by kernel_rfl) (fun _ _ _ h => h) (Or.inl ⟨by rfl, ?he7a1⟩) (by assumption) ?re7a1
      case he7a1 => (intro w hSw; (try dsimp only at hSw); go_simp; try with_reducible rfl)
      case' re7a1 => skip
      try simp only [Act.put, List.setIfInBounds_toArray, List.set_cons_zero, List.set_cons_succ]
      refine wpAnyG_pure (i := 2) (v := ?ve7a2) at2 (by kernel_rfl) (fun _ _ _ h => h) (Or.inl ⟨by rfl, ?he7a2⟩) (Or.inr (by assumption)) ?re7a2
      case he7a2 => (intro w hSw; (try dsimp only at hSw); go_simp; try with_reducible rfl)
      case' re7a2 => skip
      try simp only [Act.put, List.setIfInBounds_toArray, List.set_cons_zero, List.set_cons_succ]
      refine wpAnyG_pure (i := 4) (v := ?ve7a4) at4 (by kernel_rfl) (fun _ _ _ h => h) (Or.inl ⟨by rfl, ?he7a4⟩) (Or.inr (by assumption)) ?re7a4
      case he7a4 => (intro w hSw; (try dsimp only at hSw); go_simp; try with_reducible rfl)
      case' re7a4 => skip
      try simp only [Act.put, List.setIfInBounds_toArray, List.set_cons_zero, List.set_cons_succ]
      refine wpAnyG_take (ws := [1,5]) (i := 5) (v := ?ve7a5) at5 (by kernel_rfl) (fun _ _ _ h => h) (Or.inl ⟨by rfl, ?he7a5⟩) (by assumption) ?re7a5
      case he7a5 => (intro w hSw; (try dsimp only at hSw); go_simp; try with_reducible rfl)
      case' re7a5 => skip
      try simp only [Act.put, List.setIfInBounds_toArray, List.set_cons_zero, List.set_cons_succ]
      refine wpAnyG_pure (i := 6) (v := ?ve7a6) at6 (by kernel_rfl) (fun _ _ _ h => h) (Or.inl ⟨by rfl, ?he7a6⟩) (Or.inr (by assumption)) ?re7a6
      case he7a6 => (intro w hSw; (try dsimp only at hSw); go_simp; try with_reducible rfl)
      case' re7a6 => skip
      try simp only [Act.put, List.setIfInBounds_toArray, List.set_cons_zero, List.set_cons_succ]
      refine wpAnyG_two 0 13 at0 at13 (by kernel_rfl) (fun Kn hK => ?_) (fun Kn hK => ?_)
      · skip
        go_simp
        refine (HCa.out wd hb0).mono ?_
        rintro e x1 ⟨rfl, hq1⟩
        have hb1 := hb0.trans (hq1.mono hb0.size)
        clear hS
        have hS := HSS.out _ hb1
        refine hK.out _ _ (Or.inr hS) ?_
        clear hK Kn
        try simp only [Act.put, List.setIfInBounds_toArray, List.set_cons_zero, List.set_cons_succ]
        refine wpAnyG_two 3 13 at3 at13 (by kernel_rfl) (fun Kn hK => ?_) (fun Kn hK => ?_)
        · skip
          go_simp
          refine (HCb.out x1 hb1).mono ?_
          rintro e x2 ⟨rfl, hq2⟩
          have hb2 := hb1.trans (hq2.mono hb1.size)
          clear hS
          have hS := HSS.out _ hb2
          refine hK.out _ _ (Or.inr hS) ?_
          clear hK Kn
          try simp only [Act.put, List.setIfInBounds_toArray, List.set_cons_zero, List.set_cons_succ]
          refine wpAnyG_two 7 13 at7 at13 (by kernel_rfl) (fun Kn hK => ?_) (fun Kn hK => ?_)
          · skip
            go_simp
            refine (HCc.out x2 hb2).mono ?_
            rintro e x3 ⟨vs, rfl, hos, hq3⟩
            have hb3 := hb2.trans (hq3.mono hb2.size)
            obtain ⟨As, cs, rfl, _, _⟩ := own_slice hos
            have HOS := Lib.hid (strs_own hos)
            clear hos
            clear hS
            have hS := HSS.out _ hb3
            refine hK.out _ _ (Or.inr hS) ?_
            clear hK Kn
            try simp only [Act.put, List.setIfInBounds_toArray, List.set_cons_zero, List.set_cons_succ]
            refine wpAnyG_two 8 13 at8 at13 (by kernel_rfl) (fun Kn hK => ?_) (fun Kn hK => ?_)
            · skip
              go_simp
              refine (HCd.out x3 hb3).mono ?_
              rintro e x4 ⟨vk, rfl, hok, hq4⟩
              have hb4 := hb3.trans (hq4.mono hb3.size)
              have HOS := Lib.hid (HOS.out.below hq4)
              obtain ⟨Ak, ck, rfl, _, _⟩ := own_slice hok
              have HKN := Lib.hid (rows_own hok)
              clear hok
              clear hS
              have hS := HSS.out _ hb4
              refine hK.out _ _ (Or.inr hS) ?_
              clear hK Kn
              try simp only [Act.put, List.setIfInBounds_toArray, List.set_cons_zero, List.set_cons_succ]
              refine wpAnyG_two 9 13 at9 at13 (by kernel_rfl) (fun Kn hK => ?_) (fun Kn hK => ?_)
              · skip
                go_simp
                refine (HCe.out x4 hb4 HOS.out HKN.out).mono ?_
                rintro e x5 ⟨⟨vr, vw, vv, vbb, rfl, hmo⟩, hq5⟩
                have hb5 := hb4.trans (hq5.mono hb4.size)
                have HOS := Lib.hid (HOS.out.below hq5)
                have HKN := Lib.hid (HKN.out.below hq5)
                obtain ⟨Am, cm1, rfl, _, _⟩ := own_slice hmo.rd
                obtain ⟨Bm, cm2, rfl, _, _⟩ := own_slice hmo.wr
                obtain ⟨Cm, cm3, rfl, _, _⟩ := own_slice hmo.vf
                obtain ⟨Dm, cm4, rfl, _, _⟩ := own_slice hmo.bl
                have HMB := Lib.hid hmo
                clear hmo
                clear hS
                have hS := HSS.out _ hb5
                refine hK.out _ _ (Or.inr hS) ?_
                clear hK Kn
                try simp only [Act.put, List.setIfInBounds_toArray, List.set_cons_zero, List.set_cons_succ]
                refine wpAnyG_pure (i := 10) (v := ?ve7r610) at10 (by kernel_rfl) (fun _ _ _ h => h) (Or.inl ⟨by rfl, ?he7r610⟩) (Or.inr (by assumption)) ?re7r610
                case he7r610 => (intro w hSw; (try dsimp only at hSw); go_simp; try with_reducible rfl)
                case' re7r610 => skip
                try simp only [Act.put, List.setIfInBounds_toArray, List.set_cons_zero, List.set_cons_succ]
                refine wpAnyG_pure (i := 11) (v := ?ve7r611) at11 (by kernel_rfl) (fun _ _ _ h => h) (Or.inl ⟨by rfl, ?he7r611⟩) (Or.inr (by assumption)) ?re7r611
                case he7r611 => (intro w hSw; (try dsimp only at hSw); go_simp; try with_reducible rfl)
                case' re7r611 => skip
                try simp only [Act.put, List.setIfInBounds_toArray, List.set_cons_zero, List.set_cons_succ]
                refine wpAnyG_pure (i := 12) (v := ?ve7r612) at12 (by kernel_rfl) (fun _ _ _ h => h) (Or.inl ⟨by rfl, ?he7r612⟩) (Or.inr (by assumption)) ?re7r612
                case he7r612 => (intro w hSw; (try dsimp only at hSw); go_simp; try with_reducible rfl)
                case' re7r612 => skip
                try simp only [Act.put, List.setIfInBounds_toArray, List.set_cons_zero, List.set_cons_succ]
                refine wpAnyG_one 13 at13 (by kernel_rfl) (fun Kn hK => ?_)
                go_simp
                obtain ⟨z7, hzz7⟩ : ∃ z, x5.heap.size = z := ⟨_, rfl⟩
                obtain ⟨x7, hx7⟩ : ∃ x, x5.alloc (.cells #[.string ⟨#[]⟩, .string ⟨#[]⟩, .int .i64 0, .slice none 0 0, .slice none 0 0, .int .u64 0, .slice none 0 0, .slice none 0 0, .string ⟨#[]⟩] 42) = x := ⟨_, rfl⟩
                have hz7 : x7.heap[z7]? = some (.cells #[.string ⟨#[]⟩, .string ⟨#[]⟩, .int .i64 0, .slice none 0 0, .slice none 0 0, .int .u64 0, .slice none 0 0, .slice none 0 0, .string ⟨#[]⟩] 42 (0, 0)) := by rw [← hx7, ← hzz7, get_alloc, if_pos rfl]
                have hq7 : Below x5.heap.size x5 x7 := by rw [← hx7]; exact (Below.refl _ x5).alloc (Nat.le_refl _) _
                have HZL : Hid (wa.heap.size ≤ z7) := Lib.hid (by have h1 := (Below.refl wa.heap.size wa).size; have h2 := hb5.size; omega)
                rw [hx7, hzz7]
                have hb7 := hb5.trans (hq7.mono hb5.size)
                have HOS := Lib.hid (HOS.out.below hq7)
                have HKN := Lib.hid (HKN.out.below hq7)
                have HMB := Lib.hid (HMB.out.below hq7)
                clear hS
                have hS := HSS.out _ hb7
                refine hK.out _ _ (Or.inr hS) ?_
                clear hK Kn
                try simp only [Act.put, List.setIfInBounds_toArray, List.set_cons_zero, List.set_cons_succ]
                refine wpAnyG_one 14 at14 (by kernel_rfl) (fun Kn hK => ?_)
                refine step_store_all rfl _ _ _ rfl rfl rfl _ _ hz7 info_mt rfl (by simp [Value.oneCell']) ?_
                intro y9 h9 k9 s9
                refine hK.out _ _ (Or.inl (by kernel_rfl)) ?_
                have HLEAF : Hid (MtIn wa y9 z7 BM2) := Lib.hid ⟨_, _, _, _, _, h9, HMB.out.store hz7 k9, below_at ((Below.refl wa.heap.size wa).trans (hb7.mono (Below.refl wa.heap.size wa).size)) k9 HZL.out⟩
                clear hK Kn h9 k9 s9 hS
                try simp only [Act.put, List.setIfInBounds_toArray, List.set_cons_zero, List.set_cons_succ]
                refine wpAnyG_one 15 at15 (by kernel_rfl) (fun Kn hK => ?_)
                go_simp
                refine hK.out _ _ (Or.inl (by kernel_rfl)) ?_
                clear hK Kn
                refine wpAnyG_done (by kernel_rfl) ?_
                try simp only [Act.put, List.setIfInBounds_toArray, List.set_cons_zero, List.set_cons_succ]
                go_wp2_with fail
                go_meet
                exact ⟨_, rfl, rfl, HLEAF⟩
              · skip
                go_simp
                obtain ⟨z8, hzz8⟩ : ∃ z, x4.heap.size = z := ⟨_, rfl⟩
                obtain ⟨x8, hx8⟩ : ∃ x, x4.alloc (.cells #[.string ⟨#[]⟩, .string ⟨#[]⟩, .int .i64 0, .slice none 0 0, .slice none 0 0, .int .u64 0, .slice none 0 0, .slice none 0 0, .string ⟨#[]⟩] 42) = x := ⟨_, rfl⟩
                have hz8 : x8.heap[z8]? = some (.cells #[.string ⟨#[]⟩, .string ⟨#[]⟩, .int .i64 0, .slice none 0 0, .slice none 0 0, .int .u64 0, .slice none 0 0, .slice none 0 0, .string ⟨#[]⟩] 42 (0, 0)) := by rw [← hx8, ← hzz8, get_alloc, if_pos rfl]
                have hq8 : Below x4.heap.size x4 x8 := by rw [← hx8]; exact (Below.refl _ x4).alloc (Nat.le_refl _) _
                have HZL : Hid (wa.heap.size ≤ z8) := Lib.hid (by have h1 := (Below.refl wa.heap.size wa).size; have h2 := hb4.size; omega)
                rw [hx8, hzz8]
                have hb8 := hb4.trans (hq8.mono hb4.size)
                have HOS := Lib.hid (HOS.out.below hq8)
                have HKN := Lib.hid (HKN.out.below hq8)
                clear hS
                have hS := HSS.out _ hb8
                refine hK.out _ _ (Or.inr hS) ?_
                clear hK Kn
                try simp only [Act.put, List.setIfInBounds_toArray, List.set_cons_zero, List.set_cons_succ]
                refine wpAnyG_one 9 at9 (by kernel_rfl) (fun Kn hK => ?_)
                go_simp
                refine (HCe.out x8 hb8 HOS.out HKN.out).mono ?_
                rintro e x9 ⟨⟨vr, vw, vv, vbb, rfl, hmo⟩, hq9⟩
                have hb9 := hb8.trans (hq9.mono hb8.size)
                have HOS := Lib.hid (HOS.out.below hq9)
                have HKN := Lib.hid (HKN.out.below hq9)
                have hz9 := (Keep.of_below hq9 : Keep (fun _ => False) x8 x9).at hz8 fun e => e
                obtain ⟨Am, cm1, rfl, _, _⟩ := own_slice hmo.rd
                obtain ⟨Bm, cm2, rfl, _, _⟩ := own_slice hmo.wr
                obtain ⟨Cm, cm3, rfl, _, _⟩ := own_slice hmo.vf
                obtain ⟨Dm, cm4, rfl, _, _⟩ := own_slice hmo.bl
                have HMB := Lib.hid hmo
                clear hmo
                clear hS
                have hS := HSS.out _ hb9
                refine hK.out _ _ (Or.inr hS) ?_
                clear hK Kn
                try simp only [Act.put, List.setIfInBounds_toArray, List.set_cons_zero, List.set_cons_succ]
                refine wpAnyG_pure (i := 10) (v := ?ve7r1010) at10 (by kernel_rfl) (fun _ _ _ h => h) (Or.inl ⟨by rfl, ?he7r1010⟩) (Or.inr (by assumption)) ?re7r1010
                case he7r1010 => (intro w hSw; (try dsimp only at hSw); go_simp; try with_reducible rfl)
                case' re7r1010 => skip
                try simp only [Act.put, List.setIfInBounds_toArray, List.set_cons_zero, List.set_cons_succ]
                refine wpAnyG_pure (i := 11) (v := ?ve7r1011) at11 (by kernel_rfl) (fun _ _ _ h => h) (Or.inl ⟨by rfl, ?he7r1011⟩) (Or.inr (by assumption)) ?re7r1011
                case he7r1011 => (intro w hSw; (try dsimp only at hSw); go_simp; try with_reducible rfl)
                case' re7r1011 => skip
                try simp only [Act.put, List.setIfInBounds_toArray, List.set_cons_zero, List.set_cons_succ]
                refine wpAnyG_pure (i := 12) (v := ?ve7r1012) at12 (by kernel_rfl) (fun _ _ _ h => h) (Or.inl ⟨by rfl, ?he7r1012⟩) (Or.inr (by assumption)) ?re7r1012
                case he7r1012 => (intro w hSw; (try dsimp only at hSw); go_simp; try with_reducible rfl)
                case' re7r1012 => skip
                try simp only [Act.put, List.setIfInBounds_toArray, List.set_cons_zero, List.set_cons_succ]
                refine wpAnyG_one 14 at14 (by kernel_rfl) (fun Kn hK => ?_)
                refine step_store_all rfl _ _ _ rfl rfl rfl _ _ hz9 info_mt rfl (by simp [Value.oneCell']) ?_
                intro y9 h9 k9 s9
                refine hK.out _ _ (Or.inl (by kernel_rfl)) ?_
                have HLEAF : Hid (MtIn wa y9 z8 BM2) := Lib.hid ⟨_, _, _, _, _, h9, HMB.out.store hz9 k9, below_at ((Below.refl wa.heap.size wa).trans (hb9.mono (Below.refl wa.heap.size wa).size)) k9 HZL.out⟩
                clear hK Kn h9 k9 s9 hS
                try simp only [Act.put, List.setIfInBounds_toArray, List.set_cons_zero, List.set_cons_succ]
                refine wpAnyG_one 15 at15 (by kernel_rfl) (fun Kn hK => ?_)
                go_simp
                refine hK.out _ _ (Or.inl (by kernel_rfl)) ?_
                clear hK Kn
                refine wpAnyG_done (by kernel_rfl) ?_
                try simp only [Act.put, List.setIfInBounds_toArray, List.set_cons_zero, List.set_cons_succ]
                go_wp2_with fail
                go_meet
                exact ⟨_, rfl, rfl, HLEAF⟩
            · skip
              go_simp
              obtain ⟨z11, hzz11⟩ : ∃ z, x3.heap.size = z := ⟨_, rfl⟩
              obtain ⟨x11, hx11⟩ : ∃ x, x3.alloc (.cells #[.string ⟨#[]⟩, .string ⟨#[]⟩, .int .i64 0, .slice none 0 0, .slice none 0 0, .int .u64 0, .slice none 0 0, .slice none 0 0, .string ⟨#[]⟩] 42) = x := ⟨_, rfl⟩
              have hz11 : x11.heap[z11]? = some (.cells #[.string ⟨#[]⟩, .string ⟨#[]⟩, .int .i64 0, .slice none 0 0, .slice none 0 0, .int .u64 0, .slice none 0 0, .slice none 0 0, .string ⟨#[]⟩] 42 (0, 0)) := by rw [← hx11, ← hzz11, get_alloc, if_pos rfl]
              have hq11 : Below x3.heap.size x3 x11 := by rw [← hx11]; exact (Below.refl _ x3).alloc (Nat.le_refl _) _
              have HZL : Hid (wa.heap.size ≤ z11) := Lib.hid (by have h1 := (Below.refl wa.heap.size wa).size; have h2 := hb3.size; omega)
              rw [hx11, hzz11]
              have hb11 := hb3.trans (hq11.mono hb3.size)
              have HOS := Lib.hid (HOS.out.below hq11)
              clear hS
              have hS := HSS.out _ hb11
              refine hK.out _ _ (Or.inr hS) ?_
              clear hK Kn
              try simp only [Act.put, List.setIfInBounds_toArray, List.set_cons_zero, List.set_cons_succ]
              refine wpAnyG_one 8 at8 (by kernel_rfl) (fun Kn hK => ?_)
              go_simp
              refine (HCd.out x11 hb11).mono ?_
              rintro e x12 ⟨vk, rfl, hok, hq12⟩
              have hb12 := hb11.trans (hq12.mono hb11.size)
              have HOS := Lib.hid (HOS.out.below hq12)
              have hz12 := (Keep.of_below hq12 : Keep (fun _ => False) x11 x12).at hz11 fun e => e
              obtain ⟨Ak, ck, rfl, _, _⟩ := own_slice hok
              have HKN := Lib.hid (rows_own hok)
              clear hok
              clear hS
              have hS := HSS.out _ hb12
              refine hK.out _ _ (Or.inr hS) ?_
              clear hK Kn
              try simp only [Act.put, List.setIfInBounds_toArray, List.set_cons_zero, List.set_cons_succ]
              refine wpAnyG_one 9 at9 (by kernel_rfl) (fun Kn hK => ?_)
              go_simp
              refine (HCe.out x12 hb12 HOS.out HKN.out).mono ?_
              rintro e x13 ⟨⟨vr, vw, vv, vbb, rfl, hmo⟩, hq13⟩
              have hb13 := hb12.trans (hq13.mono hb12.size)
              have HOS := Lib.hid (HOS.out.below hq13)
              have HKN := Lib.hid (HKN.out.below hq13)
              have hz13 := (Keep.of_below hq13 : Keep (fun _ => False) x12 x13).at hz12 fun e => e
              obtain ⟨Am, cm1, rfl, _, _⟩ := own_slice hmo.rd
              obtain ⟨Bm, cm2, rfl, _, _⟩ := own_slice hmo.wr
              obtain ⟨Cm, cm3, rfl, _, _⟩ := own_slice hmo.vf
              obtain ⟨Dm, cm4, rfl, _, _⟩ := own_slice hmo.bl
              have HMB := Lib.hid hmo
              clear hmo
              clear hS
              have hS := HSS.out _ hb13
              refine hK.out _ _ (Or.inr hS) ?_
              clear hK Kn
              try simp only [Act.put, List.setIfInBounds_toArray, List.set_cons_zero, List.set_cons_succ]
              refine wpAnyG_pure (i := 10) (v := ?ve7r1410) at10 (by kernel_rfl) (fun _ _ _ h => h) (Or.inl ⟨by rfl, ?he7r1410⟩) (Or.inr (by assumption)) ?re7r1410
              case he7r1410 => (intro w hSw; (try dsimp only at hSw); go_simp; try with_reducible rfl)
              case' re7r1410 => skip
              try simp only [Act.put, List.setIfInBounds_toArray, List.set_cons_zero, List.set_cons_succ]
              refine wpAnyG_pure (i := 11) (v := ?ve7r1411) at11 (by kernel_rfl) (fun _ _ _ h => h) (Or.inl ⟨by rfl, ?he7r1411⟩) (Or.inr (by assumption)) ?re7r1411
              case he7r1411 => (intro w hSw; (try dsimp only at hSw); go_simp; try with_reducible rfl)
              case' re7r1411 => skip
              try simp only [Act.put, List.setIfInBounds_toArray, List.set_cons_zero, List.set_cons_succ]
              refine wpAnyG_pure (i := 12) (v := ?ve7r1412) at12 (by kernel_rfl) (fun _ _ _ h => h) (Or.inl ⟨by rfl, ?he7r1412⟩) (Or.inr (by assumption)) ?re7r1412
              case he7r1412 => (intro w hSw; (try dsimp only at hSw); go_simp; try with_reducible rfl)
              case' re7r1412 => skip
              try simp only [Act.put, List.setIfInBounds_toArray, List.set_cons_zero, List.set_cons_succ]
              refine wpAnyG_one 14 at14 (by kernel_rfl) (fun Kn hK => ?_)
              refine step_store_all rfl _ _ _ rfl rfl rfl _ _ hz13 info_mt rfl (by simp [Value.oneCell']) ?_
              intro y9 h9 k9 s9
              refine hK.out _ _ (Or.inl (by kernel_rfl)) ?_
              have HLEAF : Hid (MtIn wa y9 z11 BM2) := Lib.hid ⟨_, _, _, _, _, h9, HMB.out.store hz13 k9, below_at ((Below.refl wa.heap.size wa).trans (hb13.mono (Below.refl wa.heap.size wa).size)) k9 HZL.out⟩
              clear hK Kn h9 k9 s9 hS
              try simp only [Act.put, List.setIfInBounds_toArray, List.set_cons_zero, List.set_cons_succ]
              refine wpAnyG_one 15 at15 (by kernel_rfl) (fun Kn hK => ?_)
              go_simp
              refine hK.out _ _ (Or.inl (by kernel_rfl)) ?_
              clear hK Kn
              refine wpAnyG_done (by kernel_rfl) ?_
              try simp only [Act.put, List.setIfInBounds_toArray, List.set_cons_zero, List.set_cons_succ]
              go_wp2_with fail
              go_meet
              exact ⟨_, rfl, rfl, HLEAF⟩
          · skip
            go_simp
            obtain ⟨z15, hzz15⟩ : ∃ z, x2.heap.size = z := ⟨_, rfl⟩
            obtain ⟨x15, hx15⟩ : ∃ x, x2.alloc (.cells #[.string ⟨#[]⟩, .string ⟨#[]⟩, .int .i64 0, .slice none 0 0, .slice none 0 0, .int .u64 0, .slice none 0 0, .slice none 0 0, .string ⟨#[]⟩] 42) = x := ⟨_, rfl⟩
            have hz15 : x15.heap[z15]? = some (.cells #[.string ⟨#[]⟩, .string ⟨#[]⟩, .int .i64 0, .slice none 0 0, .slice none 0 0, .int .u64 0, .slice none 0 0, .slice none 0 0, .string ⟨#[]⟩] 42 (0, 0)) := by rw [← hx15, ← hzz15, get_alloc, if_pos rfl]
            have hq15 : Below x2.heap.size x2 x15 := by rw [← hx15]; exact (Below.refl _ x2).alloc (Nat.le_refl _) _
            have HZL : Hid (wa.heap.size ≤ z15) := Lib.hid (by have h1 := (Below.refl wa.heap.size wa).size; have h2 := hb2.size; omega)
            rw [hx15, hzz15]
            have hb15 := hb2.trans (hq15.mono hb2.size)
            clear hS
            have hS := HSS.out _ hb15
            refine hK.out _ _ (Or.inr hS) ?_
            clear hK Kn
            try simp only [Act.put, List.setIfInBounds_toArray, List.set_cons_zero, List.set_cons_succ]
            refine wpAnyG_one 7 at7 (by kernel_rfl) (fun Kn hK => ?_)
            go_simp
            refine (HCc.out x15 hb15).mono ?_
            rintro e x16 ⟨vs, rfl, hos, hq16⟩
            have hb16 := hb15.trans (hq16.mono hb15.size)
            have hz16 := (Keep.of_below hq16 : Keep (fun _ => False) x15 x16).at hz15 fun e => e
            obtain ⟨As, cs, rfl, _, _⟩ := own_slice hos
            have HOS := Lib.hid (strs_own hos)
            clear hos
            clear hS
            have hS := HSS.out _ hb16
            refine hK.out _ _ (Or.inr hS) ?_
            clear hK Kn
            try simp only [Act.put, List.setIfInBounds_toArray, List.set_cons_zero, List.set_cons_succ]
            refine wpAnyG_one 8 at8 (by kernel_rfl) (fun Kn hK => ?_)
            go_simp
            refine (HCd.out x16 hb16).mono ?_
            rintro e x17 ⟨vk, rfl, hok, hq17⟩
            have hb17 := hb16.trans (hq17.mono hb16.size)
            have HOS := Lib.hid (HOS.out.below hq17)
            have hz17 := (Keep.of_below hq17 : Keep (fun _ => False) x16 x17).at hz16 fun e => e
            obtain ⟨Ak, ck, rfl, _, _⟩ := own_slice hok
            have HKN := Lib.hid (rows_own hok)
            clear hok
            clear hS
            have hS := HSS.out _ hb17
            refine hK.out _ _ (Or.inr hS) ?_
            clear hK Kn
            try simp only [Act.put, List.setIfInBounds_toArray, List.set_cons_zero, List.set_cons_succ]
            refine wpAnyG_one 9 at9 (by kernel_rfl) (fun Kn hK => ?_)
            go_simp
            refine (HCe.out x17 hb17 HOS.out HKN.out).mono ?_
            rintro e x18 ⟨⟨vr, vw, vv, vbb, rfl, hmo⟩, hq18⟩
            have hb18 := hb17.trans (hq18.mono hb17.size)
            have HOS := Lib.hid (HOS.out.below hq18)
            have HKN := Lib.hid (HKN.out.below hq18)
            have hz18 := (Keep.of_below hq18 : Keep (fun _ => False) x17 x18).at hz17 fun e => e
            obtain ⟨Am, cm1, rfl, _, _⟩ := own_slice hmo.rd
            obtain ⟨Bm, cm2, rfl, _, _⟩ := own_slice hmo.wr
            obtain ⟨Cm, cm3, rfl, _, _⟩ := own_slice hmo.vf
            obtain ⟨Dm, cm4, rfl, _, _⟩ := own_slice hmo.bl
            have HMB := Lib.hid hmo
            clear hmo
            clear hS
            have hS := HSS.out _ hb18
            refine hK.out _ _ (Or.inr hS) ?_
            clear hK Kn
            try simp only [Act.put, List.setIfInBounds_toArray, List.set_cons_zero, List.set_cons_succ]
            refine wpAnyG_pure (i := 10) (v := ?ve7r1910) at10 (by kernel_rfl) (fun _ _ _ h => h) (Or.inl ⟨by rfl, ?he7r1910⟩) (Or.inr (by assumption)) ?re7r1910
            case he7r1910 => (intro w hSw; (try dsimp only at hSw); go_simp; try with_reducible rfl)
            case' re7r1910 => skip
            try simp only [Act.put, List.setIfInBounds_toArray, List.set_cons_zero, List.set_cons_succ]
            refine wpAnyG_pure (i := 11) (v := ?ve7r1911) at11 (by kernel_rfl) (fun _ _ _ h => h) (Or.inl ⟨by rfl, ?he7r1911⟩) (Or.inr (by assumption)) ?re7r1911
            case he7r1911 => (intro w hSw; (try dsimp only at hSw); go_simp; try with_reducible rfl)
            case' re7r1911 => skip
            try simp only [Act.put, List.setIfInBounds_toArray, List.set_cons_zero, List.set_cons_succ]
            refine wpAnyG_pure (i := 12) (v := ?ve7r1912) at12 (by kernel_rfl) (fun _ _ _ h => h) (Or.inl ⟨by rfl, ?he7r1912⟩) (Or.inr (by assumption)) ?re7r1912
            case he7r1912 => (intro w hSw; (try dsimp only at hSw); go_simp; try with_reducible rfl)
            case' re7r1912 => skip
            try simp only [Act.put, List.setIfInBounds_toArray, List.set_cons_zero, List.set_cons_succ]
            refine wpAnyG_one 14 at14 (by kernel_rfl) (fun Kn hK => ?_)
            refine step_store_all rfl _ _ _ rfl rfl rfl _ _ hz18 info_mt rfl (by simp [Value.oneCell']) ?_
            intro y9 h9 k9 s9
            refine hK.out _ _ (Or.inl (by kernel_rfl)) ?_
            have HLEAF : Hid (MtIn wa y9 z15 BM2) := Lib.hid ⟨_, _, _, _, _, h9, HMB.out.store hz18 k9, below_at ((Below.refl wa.heap.size wa).trans (hb18.mono (Below.refl wa.heap.size wa).size)) k9 HZL.out⟩
            clear hK Kn h9 k9 s9 hS
            try simp only [Act.put, List.setIfInBounds_toArray, List.set_cons_zero, List.set_cons_succ]
            refine wpAnyG_one 15 at15 (by kernel_rfl) (fun Kn hK => ?_)
            go_simp
            refine hK.out _ _ (Or.inl (by kernel_rfl)) ?_
            clear hK Kn
            refine wpAnyG_done (by kernel_rfl) ?_
            try simp only [Act.put, List.setIfInBounds_toArray, List.set_cons_zero, List.set_cons_succ]
            go_wp2_with fail
            go_meet
            exact ⟨_, rfl, rfl, HLEAF⟩
        · skip
          go_simp
          obtain ⟨z20, hzz20⟩ : ∃ z, x1.heap.size = z := ⟨_, rfl⟩
          obtain ⟨x20, hx20⟩ : ∃ x, x1.alloc (.cells #[.string ⟨#[]⟩, .string ⟨#[]⟩, .int .i64 0, .slice none 0 0, .slice none 0 0, .int .u64 0, .slice none 0 0, .slice none 0 0, .string ⟨#[]⟩] 42) = x := ⟨_, rfl⟩
          have hz20 : x20.heap[z20]? = some (.cells #[.string ⟨#[]⟩, .string ⟨#[]⟩, .int .i64 0, .slice none 0 0, .slice none 0 0, .int .u64 0, .slice none 0 0, .slice none 0 0, .string ⟨#[]⟩] 42 (0, 0)) := by rw [← hx20, ← hzz20, get_alloc, if_pos rfl]
          have hq20 : Below x1.heap.size x1 x20 := by rw [← hx20]; exact (Below.refl _ x1).alloc (Nat.le_refl _) _
          have HZL : Hid (wa.heap.size ≤ z20) := Lib.hid (by have h1 := (Below.refl wa.heap.size wa).size; have h2 := hb1.size; omega)
          rw [hx20, hzz20]
          have hb20 := hb1.trans (hq20.mono hb1.size)
          clear hS
          have hS := HSS.out _ hb20
          refine hK.out _ _ (Or.inr hS) ?_
          clear hK Kn
          try simp only [Act.put, List.setIfInBounds_toArray, List.set_cons_zero, List.set_cons_succ]
          refine wpAnyG_one 3 at3 (by kernel_rfl) (fun Kn hK => ?_)
          go_simp
          refine (HCb.out x20 hb20).mono ?_
          rintro e x21 ⟨rfl, hq21⟩
          have hb21 := hb20.trans (hq21.mono hb20.size)
          have hz21 := (Keep.of_below hq21 : Keep (fun _ => False) x20 x21).at hz20 fun e => e
          clear hS
          have hS := HSS.out _ hb21
          refine hK.out _ _ (Or.inr hS) ?_
          clear hK Kn
          try simp only [Act.put, List.setIfInBounds_toArray, List.set_cons_zero, List.set_cons_succ]
          refine wpAnyG_one 7 at7 (by kernel_rfl) (fun Kn hK => ?_)
          go_simp
          refine (HCc.out x21 hb21).mono ?_
          rintro e x22 ⟨vs, rfl, hos, hq22⟩
          have hb22 := hb21.trans (hq22.mono hb21.size)
          have hz22 := (Keep.of_below hq22 : Keep (fun _ => False) x21 x22).at hz21 fun e => e
          obtain ⟨As, cs, rfl, _, _⟩ := own_slice hos
          have HOS := Lib.hid (strs_own hos)
          clear hos
          clear hS
          have hS := HSS.out _ hb22
          refine hK.out _ _ (Or.inr hS) ?_
          clear hK Kn
          try simp only [Act.put, List.setIfInBounds_toArray, List.set_cons_zero, List.set_cons_succ]
          refine wpAnyG_one 8 at8 (by kernel_rfl) (fun Kn hK => ?_)
          go_simp
          refine (HCd.out x22 hb22).mono ?_
          rintro e x23 ⟨vk, rfl, hok, hq23⟩
          have hb23 := hb22.trans (hq23.mono hb22.size)
          have HOS := Lib.hid (HOS.out.below hq23)
          have hz23 := (Keep.of_below hq23 : Keep (fun _ => False) x22 x23).at hz22 fun e => e
          obtain ⟨Ak, ck, rfl, _, _⟩ := own_slice hok
          have HKN := Lib.hid (rows_own hok)
          clear hok
          clear hS
          have hS := HSS.out _ hb23
          refine hK.out _ _ (Or.inr hS) ?_
          clear hK Kn
          try simp only [Act.put, List.setIfInBounds_toArray, List.set_cons_zero, List.set_cons_succ]
          refine wpAnyG_one 9 at9 (by kernel_rfl) (fun Kn hK => ?_)
          go_simp
          refine (HCe.out x23 hb23 HOS.out HKN.out).mono ?_
          rintro e x24 ⟨⟨vr, vw, vv, vbb, rfl, hmo⟩, hq24⟩
          have hb24 := hb23.trans (hq24.mono hb23.size)
          have HOS := Lib.hid (HOS.out.below hq24)
          have HKN := Lib.hid (HKN.out.below hq24)
          have hz24 := (Keep.of_below hq24 : Keep (fun _ => False) x23 x24).at hz23 fun e => e
          obtain ⟨Am, cm1, rfl, _, _⟩ := own_slice hmo.rd
          obtain ⟨Bm, cm2, rfl, _, _⟩ := own_slice hmo.wr
          obtain ⟨Cm, cm3, rfl, _, _⟩ := own_slice hmo.vf
          obtain ⟨Dm, cm4, rfl, _, _⟩ := own_slice hmo.bl
          have HMB := Lib.hid hmo
          clear hmo
          clear hS
          have hS := HSS.out _ hb24
          refine hK.out _ _ (Or.inr hS) ?_
          clear hK Kn
          try simp only [Act.put, List.setIfInBounds_toArray, List.set_cons_zero, List.set_cons_succ]
          refine wpAnyG_pure (i := 10) (v := ?ve7r2510) at10 (by kernel_rfl) (fun _ _ _ h => h) (Or.inl ⟨by rfl, ?he7r2510⟩) (Or.inr (by assumption)) ?re7r2510
          case he7r2510 => (intro w hSw; (try dsimp only at hSw); go_simp; try with_reducible rfl)
          case' re7r2510 => skip
          try simp only [Act.put, List.setIfInBounds_toArray, List.set_cons_zero, List.set_cons_succ]
          refine wpAnyG_pure (i := 11) (v := ?ve7r2511) at11 (by kernel_rfl) (fun _ _ _ h => h) (Or.inl ⟨by rfl, ?he7r2511⟩) (Or.inr (by assumption)) ?re7r2511
          case he7r2511 => (intro w hSw; (try dsimp only at hSw); go_simp; try with_reducible rfl)
          case' re7r2511 => skip
          try simp only [Act.put, List.setIfInBounds_toArray, List.set_cons_zero, List.set_cons_succ]
          refine wpAnyG_pure (i := 12) (v := ?ve7r2512) at12 (by kernel_rfl) (fun _ _ _ h => h) (Or.inl ⟨by rfl, ?he7r2512⟩) (Or.inr (by assumption)) ?re7r2512
          case he7r2512 => (intro w hSw; (try dsimp only at hSw); go_simp; try with_reducible rfl)
          case' re7r2512 => skip
          try simp only [Act.put, List.setIfInBounds_toArray, List.set_cons_zero, List.set_cons_succ]
          refine wpAnyG_one 14 at14 (by kernel_rfl) (fun Kn hK => ?_)
          refine step_store_all rfl _ _ _ rfl rfl rfl _ _ hz24 info_mt rfl (by simp [Value.oneCell']) ?_
          intro y9 h9 k9 s9
          refine hK.out _ _ (Or.inl (by kernel_rfl)) ?_
          have HLEAF : Hid (MtIn wa y9 z20 BM2) := Lib.hid ⟨_, _, _, _, _, h9, HMB.out.store hz24 k9, below_at ((Below.refl wa.heap.size wa).trans (hb24.mono (Below.refl wa.heap.size wa).size)) k9 HZL.out⟩
          clear hK Kn h9 k9 s9 hS
          try simp only [Act.put, List.setIfInBounds_toArray, List.set_cons_zero, List.set_cons_succ]
          refine wpAnyG_one 15 at15 (by kernel_rfl) (fun Kn hK => ?_)
          go_simp
          refine hK.out _ _ (Or.inl (by kernel_rfl)) ?_
          clear hK Kn
          refine wpAnyG_done (by kernel_rfl) ?_
          try simp only [Act.put, List.setIfInBounds_toArray, List.set_cons_zero, List.set_cons_succ]
          go_wp2_with fail
          go_meet
          exact ⟨_, rfl, rfl, HLEAF⟩
      · skip
        go_simp
        obtain ⟨z26, hzz26⟩ : ∃ z, wd.heap.size = z := ⟨_, rfl⟩
        obtain ⟨x26, hx26⟩ : ∃ x, wd.alloc (.cells #[.string ⟨#[]⟩, .string ⟨#[]⟩, .int .i64 0, .slice none 0 0, .slice none 0 0, .int .u64 0, .slice none 0 0, .slice none 0 0, .string ⟨#[]⟩] 42) = x := ⟨_, rfl⟩
        have hz26 : x26.heap[z26]? = some (.cells #[.string ⟨#[]⟩, .string ⟨#[]⟩, .int .i64 0, .slice none 0 0, .slice none 0 0, .int .u64 0, .slice none 0 0, .slice none 0 0, .string ⟨#[]⟩] 42 (0, 0)) := by rw [← hx26, ← hzz26, get_alloc, if_pos rfl]
        have hq26 : Below wd.heap.size wd x26 := by rw [← hx26]; exact (Below.refl _ wd).alloc (Nat.le_refl _) _
        have HZL : Hid (wa.heap.size ≤ z26) := Lib.hid (by have h1 := (Below.refl wa.heap.size wa).size; have h2 := hb0.size; omega)
        rw [hx26, hzz26]
        have hb26 := hb0.trans (hq26.mono hb0.size)
        clear hS
        have hS := HSS.out _ hb26
        refine hK.out _ _ (Or.inr hS) ?_
        clear hK Kn
        try simp only [Act.put, List.setIfInBounds_toArray, List.set_cons_zero, List.set_cons_succ]
        refine wpAnyG_one 0 at0 (by kernel_rfl) (fun Kn hK => ?_)
        go_simp
        refine (HCa.out x26 hb26).mono ?_
        rintro e x27 ⟨rfl, hq27⟩
        have hb27 := hb26.trans (hq27.mono hb26.size)
        have hz27 := (Keep.of_below hq27 : Keep (fun _ => False) x26 x27).at hz26 fun e => e
        clear hS
        have hS := HSS.out _ hb27
        refine hK.out _ _ (Or.inr hS) ?_
        clear hK Kn
        try simp only [Act.put, List.setIfInBounds_toArray, List.set_cons_zero, List.set_cons_succ]
        refine wpAnyG_one 3 at3 (by kernel_rfl) (fun Kn hK => ?_)
        go_simp
        refine (HCb.out x27 hb27).mono ?_
        rintro e x28 ⟨rfl, hq28⟩
        have hb28 := hb27.trans (hq28.mono hb27.size)
        have hz28 := (Keep.of_below hq28 : Keep (fun _ => False) x27 x28).at hz27 fun e => e
        clear hS
        have hS := HSS.out _ hb28
        refine hK.out _ _ (Or.inr hS) ?_
        clear hK Kn
        try simp only [Act.put, List.setIfInBounds_toArray, List.set_cons_zero, List.set_cons_succ]
        refine wpAnyG_one 7 at7 (by kernel_rfl) (fun Kn hK => ?_)
        go_simp
        refine (HCc.out x28 hb28).mono ?_
        rintro e x29 ⟨vs, rfl, hos, hq29⟩
        have hb29 := hb28.trans (hq29.mono hb28.size)
        have hz29 := (Keep.of_below hq29 : Keep (fun _ => False) x28 x29).at hz28 fun e => e
        obtain ⟨As, cs, rfl, _, _⟩ := own_slice hos
        have HOS := Lib.hid (strs_own hos)
        clear hos
        clear hS
        have hS := HSS.out _ hb29
        refine hK.out _ _ (Or.inr hS) ?_
        clear hK Kn
        try simp only [Act.put, List.setIfInBounds_toArray, List.set_cons_zero, List.set_cons_succ]
        refine wpAnyG_one 8 at8 (by kernel_rfl) (fun Kn hK => ?_)
        go_simp
        refine (HCd.out x29 hb29).mono ?_
        rintro e x30 ⟨vk, rfl, hok, hq30⟩
        have hb30 := hb29.trans (hq30.mono hb29.size)
        have HOS := Lib.hid (HOS.out.below hq30)
        have hz30 := (Keep.of_below hq30 : Keep (fun _ => False) x29 x30).at hz29 fun e => e
        obtain ⟨Ak, ck, rfl, _, _⟩ := own_slice hok
        have HKN := Lib.hid (rows_own hok)
        clear hok
        clear hS
        have hS := HSS.out _ hb30
        refine hK.out _ _ (Or.inr hS) ?_
        clear hK Kn
        try simp only [Act.put, List.setIfInBounds_toArray, List.set_cons_zero, List.set_cons_succ]
        refine wpAnyG_one 9 at9 (by kernel_rfl) (fun Kn hK => ?_)
        go_simp
        refine (HCe.out x30 hb30 HOS.out HKN.out).mono ?_
        rintro e x31 ⟨⟨vr, vw, vv, vbb, rfl, hmo⟩, hq31⟩
        have hb31 := hb30.trans (hq31.mono hb30.size)
        have HOS := Lib.hid (HOS.out.below hq31)
        have HKN := Lib.hid (HKN.out.below hq31)
        have hz31 := (Keep.of_below hq31 : Keep (fun _ => False) x30 x31).at hz30 fun e => e
        obtain ⟨Am, cm1, rfl, _, _⟩ := own_slice hmo.rd
        obtain ⟨Bm, cm2, rfl, _, _⟩ := own_slice hmo.wr
        obtain ⟨Cm, cm3, rfl, _, _⟩ := own_slice hmo.vf
        obtain ⟨Dm, cm4, rfl, _, _⟩ := own_slice hmo.bl
        have HMB := Lib.hid hmo
        clear hmo
        clear hS
        have hS := HSS.out _ hb31
        refine hK.out _ _ (Or.inr hS) ?_
        clear hK Kn
        try simp only [Act.put, List.setIfInBounds_toArray, List.set_cons_zero, List.set_cons_succ]
        refine wpAnyG_pure (i := 10) (v := ?ve7r3210) at10 (by kernel_rfl) (fun _ _ _ h => h) (Or.inl ⟨by rfl, ?he7r3210⟩) (Or.inr (by assumption)) ?re7r3210
        case he7r3210 => (intro w hSw; (try dsimp only at hSw); go_simp; try with_reducible rfl)
        case' re7r3210 => skip
        try simp only [Act.put, List.setIfInBounds_toArray, List.set_cons_zero, List.set_cons_succ]
        refine wpAnyG_pure (i := 11) (v := ?ve7r3211) at11 (by kernel_rfl) (fun _ _ _ h => h) (Or.inl ⟨by rfl, ?he7r3211⟩) (Or.inr (by assumption)) ?re7r3211
        case he7r3211 => (intro w hSw; (try dsimp only at hSw); go_simp; try with_reducible rfl)
        case' re7r3211 => skip
        try simp only [Act.put, List.setIfInBounds_toArray, List.set_cons_zero, List.set_cons_succ]
        refine wpAnyG_pure (i := 12) (v := ?ve7r3212) at12 (by kernel_rfl) (fun _ _ _ h => h) (Or.inl ⟨by rfl, ?he7r3212⟩) (Or.inr (by assumption)) ?re7r3212
        case he7r3212 => (intro w hSw; (try dsimp only at hSw); go_simp; try with_reducible rfl)
        case' re7r3212 => skip
        try simp only [Act.put, List.setIfInBounds_toArray, List.set_cons_zero, List.set_cons_succ]
        refine wpAnyG_one 14 at14 (by kernel_rfl) (fun Kn hK => ?_)
        refine step_store_all rfl _ _ _ rfl rfl rfl _ _ hz31 info_mt rfl (by simp [Value.oneCell']) ?_
        intro y9 h9 k9 s9
        refine hK.out _ _ (Or.inl (by kernel_rfl)) ?_
        have HLEAF : Hid (MtIn wa y9 z26 BM2) := Lib.hid ⟨_, _, _, _, _, h9, HMB.out.store hz31 k9, below_at ((Below.refl wa.heap.size wa).trans (hb31.mono (Below.refl wa.heap.size wa).size)) k9 HZL.out⟩
        clear hK Kn h9 k9 s9 hS
        try simp only [Act.put, List.setIfInBounds_toArray, List.set_cons_zero, List.set_cons_succ]
        refine wpAnyG_one 15 at15 (by kernel_rfl) (fun Kn hK => ?_)
        go_simp
        refine hK.out _ _ (Or.inl (by kernel_rfl)) ?_
        clear hK Kn
        refine wpAnyG_done (by kernel_rfl) ?_
        try simp only [Act.put, List.setIfInBounds_toArray, List.set_cons_zero, List.set_cons_succ]
        go_wp2_with fail
        go_meet
        exact ⟨_, rfl, rfl, HLEAF⟩
    case rest =>
      obtain ⟨Zm2, rfl, rfl, HIh⟩ := hcut
      obtain ⟨wb, hq0, HI2⟩ : ∃ W, W = _ ∧ Hid (MtIn wa W Zm2 BM2) := ⟨_, rfl, HIh⟩
      subst hq0
      clear HIh HCa HCb HCc HCd HCe
      have hbel2 : Below wa.heap.size wa wb := by obtain ⟨_, _, _, _, _, _, _, h⟩ := HI2.out; exact h
      have Bwb := Lib.hid (Bwa.out.trans (hbel2.mono Bwa.out.size))
      have HZwb := Lib.hid ((Keep.of_below hbel2 : Keep (fun _ => False) wa wb).at HZwa.out fun e => e)
      have HYwb := Lib.hid ((Keep.of_below hbel2 : Keep (fun _ => False) wa wb).at HYwa.out fun e => e)
      have HLwb := Lib.hid (HLwa.out.below hbel2)
      have HMwb := Lib.hid (HMwa.out.below hbel2)
      have HCa := Lib.hid (fun (W : World) (_ : Below wb.heap.size wb W) => secretOf8_calls annaB W (by decide))
      have HCb := Lib.hid (fun (W : World) (_ : Below wb.heap.size wb W) => rootOf8_calls 2 W (by decide) (by decide))
      have HCc := Lib.hid (fun (W : World) (_ : Below wb.heap.size wb W) => signersOf8_calls m1 W (by have := HM12.out; omega))
      have HCd := Lib.hid (fun (W : World) (_ : Below wb.heap.size wb W) => known8_calls W)
      have hCe := fun (W : World) (hb : Below wb.heap.size wb W) {vs vk : Value} (hs : strs W vs (signL m1)) (hk : rowsOf 2 twoV W vk kn8) => build_calls W (secOf annaB) (rootN 2) r1 _ _ vs vk vb (signL m1) kn8 pkOf (HLwb.out.below hb) hs hk HBD1.out HBV.out (HT.out.below (Bwb.out.trans (hb.mono Bwb.out.size))) HKS.out
      simp only [HE3.out] at hCe
      have HCe := Lib.hid hCe
      clear hCe
      go_simp
      go_upto_region 8 with fail
      go_cut [16, 17] from 69 to 80 (fun q er wx => ∃ Zm, q = .pointer (some ⟨Zm, 0, none⟩) ∧ er = .int .i64 0 ∧ Hid (MtIn wb wx Zm BM3))
      case first =>
        refine wp_region_G (fun W2 => W2.cell? ⟨Z1, 0, none⟩ = some (.string r1.owner) ∧ W2.cell? ⟨Z1, 1, none⟩ = some (.string r1.file) ∧ W2.cell? ⟨Z1, 2, none⟩ = some (.int .i64 r1.epoch) ∧ W2.cell? ⟨Z1, 3, none⟩ = some (.slice D3 r1.rd.length cD3) ∧ W2.cell? ⟨Z1, 4, none⟩ = some (.slice E3 r1.wr.length cE3)) [14] (by kernel_rfl) ?_
        have HSS : Hid (∀ W2, Below wb.heap.size wb W2 → (W2.cell? ⟨Z1, 0, none⟩ = some (.string r1.owner) ∧ W2.cell? ⟨Z1, 1, none⟩ = some (.string r1.file) ∧ W2.cell? ⟨Z1, 2, none⟩ = some (.int .i64 r1.epoch) ∧ W2.cell? ⟨Z1, 3, none⟩ = some (.slice D3 r1.rd.length cD3) ∧ W2.cell? ⟨Z1, 4, none⟩ = some (.slice E3 r1.wr.length cE3))) := Lib.hid (fun W2 hb => row5 ((Keep.of_below hb : Keep (fun _ => False) wb W2).at HZwb.out fun e => e))
        have hb0 : Below wb.heap.size wb wb.drew := (Below.refl wb.heap.size wb).drew
        obtain ⟨wd, hwd⟩ : ∃ x, wb.drew = x := ⟨_, rfl⟩
        rw [hwd] at hb0 ⊢
        have hS := HSS.out _ hb0
        refine wpAnyG_take (ws := [1,5]) (i := 1) (v := ?ve8a1) at1 (by kernel_rfl) (fun _ _ _ h => h) (Or.inl ⟨by rfl, ?he8a1⟩) (by assumption) ?re8a1
        case he8a1 => (intro w hSw; (try dsimp only at hSw); go_simp; try with_reducible rfl)
        case' re8a1 => skip
        try simp only [Act.put, List.setIfInBounds_toArray, List.set_cons_zero, List.set_cons_succ]
        refine wpAnyG_pure (i := 2) (v := ?ve8a2) at2 (by kernel_rfl) (fun _ _ _ h => h) (Or.inl ⟨by rfl, ?he8a2⟩) (Or.inr (by assumption)) ?re8a2
        case he8a2 => (intro w hSw; (try dsimp only at hSw); go_simp; try with_reducible rfl)
        case' re8a2 => skip
        try simp only [Act.put, List.setIfInBounds_toArray, List.set_cons_zero, List.set_cons_succ]
        refine wpAnyG_pure (i := 4) (v := ?ve8a4) at4 (by kernel_rfl) (fun _ _ _ h => h) (Or.inl ⟨by rfl, ?he8a4⟩) (Or.inr (by assumption)) ?re8a4
        case he8a4 => (intro w hSw; (try dsimp only at hSw); go_simp; try with_reducible rfl)
        case' re8a4 => skip
        try simp only [Act.put, List.setIfInBounds_toArray, List.set_cons_zero, List.set_cons_succ]
        refine wpAnyG_take (ws := [1,5]) (i := 5) (v := ?ve8a5) at5 (by kernel_rfl) (fun _ _ _ h => h) (Or.inl ⟨by rfl, ?he8a5⟩) (by assumption) ?re8a5
        case he8a5 => (intro w hSw; (try dsimp only at hSw); go_simp; try with_reducible rfl)
        case' re8a5 => skip
        try simp only [Act.put, List.setIfInBounds_toArray, List.set_cons_zero, List.set_cons_succ]
        refine wpAnyG_pure (i := 6) (v := ?ve8a6) at6 (by kernel_rfl) (fun _ _ _ h => h) (Or.inl ⟨by rfl, ?he8a6⟩) (Or.inr (by assumption)) ?re8a6
        case he8a6 => (intro w hSw; (try dsimp only at hSw); go_simp; try with_reducible rfl)
        case' re8a6 => skip
        try simp only [Act.put, List.setIfInBounds_toArray, List.set_cons_zero, List.set_cons_succ]
        refine wpAnyG_two 0 13 at0 at13 (by kernel_rfl) (fun Kn hK => ?_) (fun Kn hK => ?_)
        · skip
          go_simp
          refine (HCa.out wd hb0).mono ?_
          rintro e x1 ⟨rfl, hq1⟩
          have hb1 := hb0.trans (hq1.mono hb0.size)
          clear hS
          have hS := HSS.out _ hb1
          refine hK.out _ _ (Or.inr hS) ?_
          clear hK Kn
          try simp only [Act.put, List.setIfInBounds_toArray, List.set_cons_zero, List.set_cons_succ]
          refine wpAnyG_two 3 13 at3 at13 (by kernel_rfl) (fun Kn hK => ?_) (fun Kn hK => ?_)
          · skip
            go_simp
            refine (HCb.out x1 hb1).mono ?_
            rintro e x2 ⟨rfl, hq2⟩
            have hb2 := hb1.trans (hq2.mono hb1.size)
            clear hS
            have hS := HSS.out _ hb2
            refine hK.out _ _ (Or.inr hS) ?_
            clear hK Kn
            try simp only [Act.put, List.setIfInBounds_toArray, List.set_cons_zero, List.set_cons_succ]
            refine wpAnyG_two 7 13 at7 at13 (by kernel_rfl) (fun Kn hK => ?_) (fun Kn hK => ?_)
            · skip
              go_simp
              refine (HCc.out x2 hb2).mono ?_
              rintro e x3 ⟨vs, rfl, hos, hq3⟩
              have hb3 := hb2.trans (hq3.mono hb2.size)
              obtain ⟨As, cs, rfl, _, _⟩ := own_slice hos
              have HOS := Lib.hid (strs_own hos)
              clear hos
              clear hS
              have hS := HSS.out _ hb3
              refine hK.out _ _ (Or.inr hS) ?_
              clear hK Kn
              try simp only [Act.put, List.setIfInBounds_toArray, List.set_cons_zero, List.set_cons_succ]
              refine wpAnyG_two 8 13 at8 at13 (by kernel_rfl) (fun Kn hK => ?_) (fun Kn hK => ?_)
              · skip
                go_simp
                refine (HCd.out x3 hb3).mono ?_
                rintro e x4 ⟨vk, rfl, hok, hq4⟩
                have hb4 := hb3.trans (hq4.mono hb3.size)
                have HOS := Lib.hid (HOS.out.below hq4)
                obtain ⟨Ak, ck, rfl, _, _⟩ := own_slice hok
                have HKN := Lib.hid (rows_own hok)
                clear hok
                clear hS
                have hS := HSS.out _ hb4
                refine hK.out _ _ (Or.inr hS) ?_
                clear hK Kn
                try simp only [Act.put, List.setIfInBounds_toArray, List.set_cons_zero, List.set_cons_succ]
                refine wpAnyG_two 9 13 at9 at13 (by kernel_rfl) (fun Kn hK => ?_) (fun Kn hK => ?_)
                · skip
                  go_simp
                  refine (HCe.out x4 hb4 HOS.out HKN.out).mono ?_
                  rintro e x5 ⟨⟨vr, vw, vv, vbb, rfl, hmo⟩, hq5⟩
                  have hb5 := hb4.trans (hq5.mono hb4.size)
                  have HOS := Lib.hid (HOS.out.below hq5)
                  have HKN := Lib.hid (HKN.out.below hq5)
                  obtain ⟨Am, cm1, rfl, _, _⟩ := own_slice hmo.rd
                  obtain ⟨Bm, cm2, rfl, _, _⟩ := own_slice hmo.wr
                  obtain ⟨Cm, cm3, rfl, _, _⟩ := own_slice hmo.vf
                  obtain ⟨Dm, cm4, rfl, _, _⟩ := own_slice hmo.bl
                  have HMB := Lib.hid hmo
                  clear hmo
                  clear hS
                  have hS := HSS.out _ hb5
                  refine hK.out _ _ (Or.inr hS) ?_
                  clear hK Kn
                  try simp only [Act.put, List.setIfInBounds_toArray, List.set_cons_zero, List.set_cons_succ]
                  refine wpAnyG_pure (i := 10) (v := ?ve8r610) at10 (by kernel_rfl) (fun _ _ _ h => h) (Or.inl ⟨by rfl, ?he8r610⟩) (Or.inr (by assumption)) ?re8r610
                  case he8r610 => (intro w hSw; (try dsimp only at hSw); go_simp; try with_reducible rfl)
                  case' re8r610 => skip
                  try simp only [Act.put, List.setIfInBounds_toArray, List.set_cons_zero, List.set_cons_succ]
                  refine wpAnyG_pure (i := 11) (v := ?ve8r611) at11 (by kernel_rfl) (fun _ _ _ h => h) (Or.inl ⟨by rfl, ?he8r611⟩) (Or.inr (by assumption)) ?re8r611
                  case he8r611 => (intro w hSw; (try dsimp only at hSw); go_simp; try with_reducible rfl)
                  case' re8r611 => skip
                  try simp only [Act.put, List.setIfInBounds_toArray, List.set_cons_zero, List.set_cons_succ]
                  refine wpAnyG_pure (i := 12) (v := ?ve8r612) at12 (by kernel_rfl) (fun _ _ _ h => h) (Or.inl ⟨by rfl, ?he8r612⟩) (Or.inr (by assumption)) ?re8r612
                  case he8r612 => (intro w hSw; (try dsimp only at hSw); go_simp; try with_reducible rfl)
                  case' re8r612 => skip
                  try simp only [Act.put, List.setIfInBounds_toArray, List.set_cons_zero, List.set_cons_succ]
                  refine wpAnyG_one 13 at13 (by kernel_rfl) (fun Kn hK => ?_)
                  go_simp
                  obtain ⟨z7, hzz7⟩ : ∃ z, x5.heap.size = z := ⟨_, rfl⟩
                  obtain ⟨x7, hx7⟩ : ∃ x, x5.alloc (.cells #[.string ⟨#[]⟩, .string ⟨#[]⟩, .int .i64 0, .slice none 0 0, .slice none 0 0, .int .u64 0, .slice none 0 0, .slice none 0 0, .string ⟨#[]⟩] 42) = x := ⟨_, rfl⟩
                  have hz7 : x7.heap[z7]? = some (.cells #[.string ⟨#[]⟩, .string ⟨#[]⟩, .int .i64 0, .slice none 0 0, .slice none 0 0, .int .u64 0, .slice none 0 0, .slice none 0 0, .string ⟨#[]⟩] 42 (0, 0)) := by rw [← hx7, ← hzz7, get_alloc, if_pos rfl]
                  have hq7 : Below x5.heap.size x5 x7 := by rw [← hx7]; exact (Below.refl _ x5).alloc (Nat.le_refl _) _
                  have HZL : Hid (wb.heap.size ≤ z7) := Lib.hid (by have h1 := (Below.refl wb.heap.size wb).size; have h2 := hb5.size; omega)
                  rw [hx7, hzz7]
                  have hb7 := hb5.trans (hq7.mono hb5.size)
                  have HOS := Lib.hid (HOS.out.below hq7)
                  have HKN := Lib.hid (HKN.out.below hq7)
                  have HMB := Lib.hid (HMB.out.below hq7)
                  clear hS
                  have hS := HSS.out _ hb7
                  refine hK.out _ _ (Or.inr hS) ?_
                  clear hK Kn
                  try simp only [Act.put, List.setIfInBounds_toArray, List.set_cons_zero, List.set_cons_succ]
                  refine wpAnyG_one 14 at14 (by kernel_rfl) (fun Kn hK => ?_)
                  refine step_store_all rfl _ _ _ rfl rfl rfl _ _ hz7 info_mt rfl (by simp [Value.oneCell']) ?_
                  intro y9 h9 k9 s9
                  refine hK.out _ _ (Or.inl (by kernel_rfl)) ?_
                  have HLEAF : Hid (MtIn wb y9 z7 BM3) := Lib.hid ⟨_, _, _, _, _, h9, HMB.out.store hz7 k9, below_at ((Below.refl wb.heap.size wb).trans (hb7.mono (Below.refl wb.heap.size wb).size)) k9 HZL.out⟩
                  clear hK Kn h9 k9 s9 hS
                  try simp only [Act.put, List.setIfInBounds_toArray, List.set_cons_zero, List.set_cons_succ]
                  refine wpAnyG_one 15 at15 (by kernel_rfl) (fun Kn hK => ?_)
                  go_simp
                  refine hK.out _ _ (Or.inl (by kernel_rfl)) ?_
                  clear hK Kn
                  refine wpAnyG_done (by kernel_rfl) ?_
                  try simp only [Act.put, List.setIfInBounds_toArray, List.set_cons_zero, List.set_cons_succ]
                  go_wp2_with fail
                  go_meet
                  exact ⟨_, rfl, rfl, HLEAF⟩
                · skip
                  go_simp
                  obtain ⟨z8, hzz8⟩ : ∃ z, x4.heap.size = z := ⟨_, rfl⟩
                  obtain ⟨x8, hx8⟩ : ∃ x, x4.alloc (.cells #[.string ⟨#[]⟩, .string ⟨#[]⟩, .int .i64 0, .slice none 0 0, .slice none 0 0, .int .u64 0, .slice none 0 0, .slice none 0 0, .string ⟨#[]⟩] 42) = x := ⟨_, rfl⟩
                  have hz8 : x8.heap[z8]? = some (.cells #[.string ⟨#[]⟩, .string ⟨#[]⟩, .int .i64 0, .slice none 0 0, .slice none 0 0, .int .u64 0, .slice none 0 0, .slice none 0 0, .string ⟨#[]⟩] 42 (0, 0)) := by rw [← hx8, ← hzz8, get_alloc, if_pos rfl]
                  have hq8 : Below x4.heap.size x4 x8 := by rw [← hx8]; exact (Below.refl _ x4).alloc (Nat.le_refl _) _
                  have HZL : Hid (wb.heap.size ≤ z8) := Lib.hid (by have h1 := (Below.refl wb.heap.size wb).size; have h2 := hb4.size; omega)
                  rw [hx8, hzz8]
                  have hb8 := hb4.trans (hq8.mono hb4.size)
                  have HOS := Lib.hid (HOS.out.below hq8)
                  have HKN := Lib.hid (HKN.out.below hq8)
                  clear hS
                  have hS := HSS.out _ hb8
                  refine hK.out _ _ (Or.inr hS) ?_
                  clear hK Kn
                  try simp only [Act.put, List.setIfInBounds_toArray, List.set_cons_zero, List.set_cons_succ]
                  refine wpAnyG_one 9 at9 (by kernel_rfl) (fun Kn hK => ?_)
                  go_simp
                  refine (HCe.out x8 hb8 HOS.out HKN.out).mono ?_
                  rintro e x9 ⟨⟨vr, vw, vv, vbb, rfl, hmo⟩, hq9⟩
                  have hb9 := hb8.trans (hq9.mono hb8.size)
                  have HOS := Lib.hid (HOS.out.below hq9)
                  have HKN := Lib.hid (HKN.out.below hq9)
                  have hz9 := (Keep.of_below hq9 : Keep (fun _ => False) x8 x9).at hz8 fun e => e
                  obtain ⟨Am, cm1, rfl, _, _⟩ := own_slice hmo.rd
                  obtain ⟨Bm, cm2, rfl, _, _⟩ := own_slice hmo.wr
                  obtain ⟨Cm, cm3, rfl, _, _⟩ := own_slice hmo.vf
                  obtain ⟨Dm, cm4, rfl, _, _⟩ := own_slice hmo.bl
                  have HMB := Lib.hid hmo
                  clear hmo
                  clear hS
                  have hS := HSS.out _ hb9
                  refine hK.out _ _ (Or.inr hS) ?_
                  clear hK Kn
                  try simp only [Act.put, List.setIfInBounds_toArray, List.set_cons_zero, List.set_cons_succ]
                  refine wpAnyG_pure (i := 10) (v := ?ve8r1010) at10 (by kernel_rfl) (fun _ _ _ h => h) (Or.inl ⟨by rfl, ?he8r1010⟩) (Or.inr (by assumption)) ?re8r1010
                  case he8r1010 => (intro w hSw; (try dsimp only at hSw); go_simp; try with_reducible rfl)
                  case' re8r1010 => skip
                  try simp only [Act.put, List.setIfInBounds_toArray, List.set_cons_zero, List.set_cons_succ]
                  refine wpAnyG_pure (i := 11) (v := ?ve8r1011) at11 (by kernel_rfl) (fun _ _ _ h => h) (Or.inl ⟨by rfl, ?he8r1011⟩) (Or.inr (by assumption)) ?re8r1011
                  case he8r1011 => (intro w hSw; (try dsimp only at hSw); go_simp; try with_reducible rfl)
                  case' re8r1011 => skip
                  try simp only [Act.put, List.setIfInBounds_toArray, List.set_cons_zero, List.set_cons_succ]
                  refine wpAnyG_pure (i := 12) (v := ?ve8r1012) at12 (by kernel_rfl) (fun _ _ _ h => h) (Or.inl ⟨by rfl, ?he8r1012⟩) (Or.inr (by assumption)) ?re8r1012
                  case he8r1012 => (intro w hSw; (try dsimp only at hSw); go_simp; try with_reducible rfl)
                  case' re8r1012 => skip
                  try simp only [Act.put, List.setIfInBounds_toArray, List.set_cons_zero, List.set_cons_succ]
                  refine wpAnyG_one 14 at14 (by kernel_rfl) (fun Kn hK => ?_)
                  refine step_store_all rfl _ _ _ rfl rfl rfl _ _ hz9 info_mt rfl (by simp [Value.oneCell']) ?_
                  intro y9 h9 k9 s9
                  refine hK.out _ _ (Or.inl (by kernel_rfl)) ?_
                  have HLEAF : Hid (MtIn wb y9 z8 BM3) := Lib.hid ⟨_, _, _, _, _, h9, HMB.out.store hz9 k9, below_at ((Below.refl wb.heap.size wb).trans (hb9.mono (Below.refl wb.heap.size wb).size)) k9 HZL.out⟩
                  clear hK Kn h9 k9 s9 hS
                  try simp only [Act.put, List.setIfInBounds_toArray, List.set_cons_zero, List.set_cons_succ]
                  refine wpAnyG_one 15 at15 (by kernel_rfl) (fun Kn hK => ?_)
                  go_simp
                  refine hK.out _ _ (Or.inl (by kernel_rfl)) ?_
                  clear hK Kn
                  refine wpAnyG_done (by kernel_rfl) ?_
                  try simp only [Act.put, List.setIfInBounds_toArray, List.set_cons_zero, List.set_cons_succ]
                  go_wp2_with fail
                  go_meet
                  exact ⟨_, rfl, rfl, HLEAF⟩
              · skip
                go_simp
                obtain ⟨z11, hzz11⟩ : ∃ z, x3.heap.size = z := ⟨_, rfl⟩
                obtain ⟨x11, hx11⟩ : ∃ x, x3.alloc (.cells #[.string ⟨#[]⟩, .string ⟨#[]⟩, .int .i64 0, .slice none 0 0, .slice none 0 0, .int .u64 0, .slice none 0 0, .slice none 0 0, .string ⟨#[]⟩] 42) = x := ⟨_, rfl⟩
                have hz11 : x11.heap[z11]? = some (.cells #[.string ⟨#[]⟩, .string ⟨#[]⟩, .int .i64 0, .slice none 0 0, .slice none 0 0, .int .u64 0, .slice none 0 0, .slice none 0 0, .string ⟨#[]⟩] 42 (0, 0)) := by rw [← hx11, ← hzz11, get_alloc, if_pos rfl]
                have hq11 : Below x3.heap.size x3 x11 := by rw [← hx11]; exact (Below.refl _ x3).alloc (Nat.le_refl _) _
                have HZL : Hid (wb.heap.size ≤ z11) := Lib.hid (by have h1 := (Below.refl wb.heap.size wb).size; have h2 := hb3.size; omega)
                rw [hx11, hzz11]
                have hb11 := hb3.trans (hq11.mono hb3.size)
                have HOS := Lib.hid (HOS.out.below hq11)
                clear hS
                have hS := HSS.out _ hb11
                refine hK.out _ _ (Or.inr hS) ?_
                clear hK Kn
                try simp only [Act.put, List.setIfInBounds_toArray, List.set_cons_zero, List.set_cons_succ]
                refine wpAnyG_one 8 at8 (by kernel_rfl) (fun Kn hK => ?_)
                go_simp
                refine (HCd.out x11 hb11).mono ?_
                rintro e x12 ⟨vk, rfl, hok, hq12⟩
                have hb12 := hb11.trans (hq12.mono hb11.size)
                have HOS := Lib.hid (HOS.out.below hq12)
                have hz12 := (Keep.of_below hq12 : Keep (fun _ => False) x11 x12).at hz11 fun e => e
                obtain ⟨Ak, ck, rfl, _, _⟩ := own_slice hok
                have HKN := Lib.hid (rows_own hok)
                clear hok
                clear hS
                have hS := HSS.out _ hb12
                refine hK.out _ _ (Or.inr hS) ?_
                clear hK Kn
                try simp only [Act.put, List.setIfInBounds_toArray, List.set_cons_zero, List.set_cons_succ]
                refine wpAnyG_one 9 at9 (by kernel_rfl) (fun Kn hK => ?_)
                go_simp
                refine (HCe.out x12 hb12 HOS.out HKN.out).mono ?_
                rintro e x13 ⟨⟨vr, vw, vv, vbb, rfl, hmo⟩, hq13⟩
                have hb13 := hb12.trans (hq13.mono hb12.size)
                have HOS := Lib.hid (HOS.out.below hq13)
                have HKN := Lib.hid (HKN.out.below hq13)
                have hz13 := (Keep.of_below hq13 : Keep (fun _ => False) x12 x13).at hz12 fun e => e
                obtain ⟨Am, cm1, rfl, _, _⟩ := own_slice hmo.rd
                obtain ⟨Bm, cm2, rfl, _, _⟩ := own_slice hmo.wr
                obtain ⟨Cm, cm3, rfl, _, _⟩ := own_slice hmo.vf
                obtain ⟨Dm, cm4, rfl, _, _⟩ := own_slice hmo.bl
                have HMB := Lib.hid hmo
                clear hmo
                clear hS
                have hS := HSS.out _ hb13
                refine hK.out _ _ (Or.inr hS) ?_
                clear hK Kn
                try simp only [Act.put, List.setIfInBounds_toArray, List.set_cons_zero, List.set_cons_succ]
                refine wpAnyG_pure (i := 10) (v := ?ve8r1410) at10 (by kernel_rfl) (fun _ _ _ h => h) (Or.inl ⟨by rfl, ?he8r1410⟩) (Or.inr (by assumption)) ?re8r1410
                case he8r1410 => (intro w hSw; (try dsimp only at hSw); go_simp; try with_reducible rfl)
                case' re8r1410 => skip
                try simp only [Act.put, List.setIfInBounds_toArray, List.set_cons_zero, List.set_cons_succ]
                refine wpAnyG_pure (i := 11) (v := ?ve8r1411) at11 (by kernel_rfl) (fun _ _ _ h => h) (Or.inl ⟨by rfl, ?he8r1411⟩) (Or.inr (by assumption)) ?re8r1411
                case he8r1411 => (intro w hSw; (try dsimp only at hSw); go_simp; try with_reducible rfl)
                case' re8r1411 => skip
                try simp only [Act.put, List.setIfInBounds_toArray, List.set_cons_zero, List.set_cons_succ]
                refine wpAnyG_pure (i := 12) (v := ?ve8r1412) at12 (by kernel_rfl) (fun _ _ _ h => h) (Or.inl ⟨by rfl, ?he8r1412⟩) (Or.inr (by assumption)) ?re8r1412
                case he8r1412 => (intro w hSw; (try dsimp only at hSw); go_simp; try with_reducible rfl)
                case' re8r1412 => skip
                try simp only [Act.put, List.setIfInBounds_toArray, List.set_cons_zero, List.set_cons_succ]
                refine wpAnyG_one 14 at14 (by kernel_rfl) (fun Kn hK => ?_)
                refine step_store_all rfl _ _ _ rfl rfl rfl _ _ hz13 info_mt rfl (by simp [Value.oneCell']) ?_
                intro y9 h9 k9 s9
                refine hK.out _ _ (Or.inl (by kernel_rfl)) ?_
                have HLEAF : Hid (MtIn wb y9 z11 BM3) := Lib.hid ⟨_, _, _, _, _, h9, HMB.out.store hz13 k9, below_at ((Below.refl wb.heap.size wb).trans (hb13.mono (Below.refl wb.heap.size wb).size)) k9 HZL.out⟩
                clear hK Kn h9 k9 s9 hS
                try simp only [Act.put, List.setIfInBounds_toArray, List.set_cons_zero, List.set_cons_succ]
                refine wpAnyG_one 15 at15 (by kernel_rfl) (fun Kn hK => ?_)
                go_simp
                refine hK.out _ _ (Or.inl (by kernel_rfl)) ?_
                clear hK Kn
                refine wpAnyG_done (by kernel_rfl) ?_
                try simp only [Act.put, List.setIfInBounds_toArray, List.set_cons_zero, List.set_cons_succ]
                go_wp2_with fail
                go_meet
                exact ⟨_, rfl, rfl, HLEAF⟩
            · skip
              go_simp
              obtain ⟨z15, hzz15⟩ : ∃ z, x2.heap.size = z := ⟨_, rfl⟩
              obtain ⟨x15, hx15⟩ : ∃ x, x2.alloc (.cells #[.string ⟨#[]⟩, .string ⟨#[]⟩, .int .i64 0, .slice none 0 0, .slice none 0 0, .int .u64 0, .slice none 0 0, .slice none 0 0, .string ⟨#[]⟩] 42) = x := ⟨_, rfl⟩
              have hz15 : x15.heap[z15]? = some (.cells #[.string ⟨#[]⟩, .string ⟨#[]⟩, .int .i64 0, .slice none 0 0, .slice none 0 0, .int .u64 0, .slice none 0 0, .slice none 0 0, .string ⟨#[]⟩] 42 (0, 0)) := by rw [← hx15, ← hzz15, get_alloc, if_pos rfl]
              have hq15 : Below x2.heap.size x2 x15 := by rw [← hx15]; exact (Below.refl _ x2).alloc (Nat.le_refl _) _
              have HZL : Hid (wb.heap.size ≤ z15) := Lib.hid (by have h1 := (Below.refl wb.heap.size wb).size; have h2 := hb2.size; omega)
              rw [hx15, hzz15]
              have hb15 := hb2.trans (hq15.mono hb2.size)
              clear hS
              have hS := HSS.out _ hb15
              refine hK.out _ _ (Or.inr hS) ?_
              clear hK Kn
              try simp only [Act.put, List.setIfInBounds_toArray, List.set_cons_zero, List.set_cons_succ]
              refine wpAnyG_one 7 at7 (by kernel_rfl) (fun Kn hK => ?_)
              go_simp
              refine (HCc.out x15 hb15).mono ?_
              rintro e x16 ⟨vs, rfl, hos, hq16⟩
              have hb16 := hb15.trans (hq16.mono hb15.size)
              have hz16 := (Keep.of_below hq16 : Keep (fun _ => False) x15 x16).at hz15 fun e => e
              obtain ⟨As, cs, rfl, _, _⟩ := own_slice hos
              have HOS := Lib.hid (strs_own hos)
              clear hos
              clear hS
              have hS := HSS.out _ hb16
              refine hK.out _ _ (Or.inr hS) ?_
              clear hK Kn
              try simp only [Act.put, List.setIfInBounds_toArray, List.set_cons_zero, List.set_cons_succ]
              refine wpAnyG_one 8 at8 (by kernel_rfl) (fun Kn hK => ?_)
              go_simp
              refine (HCd.out x16 hb16).mono ?_
              rintro e x17 ⟨vk, rfl, hok, hq17⟩
              have hb17 := hb16.trans (hq17.mono hb16.size)
              have HOS := Lib.hid (HOS.out.below hq17)
              have hz17 := (Keep.of_below hq17 : Keep (fun _ => False) x16 x17).at hz16 fun e => e
              obtain ⟨Ak, ck, rfl, _, _⟩ := own_slice hok
              have HKN := Lib.hid (rows_own hok)
              clear hok
              clear hS
              have hS := HSS.out _ hb17
              refine hK.out _ _ (Or.inr hS) ?_
              clear hK Kn
              try simp only [Act.put, List.setIfInBounds_toArray, List.set_cons_zero, List.set_cons_succ]
              refine wpAnyG_one 9 at9 (by kernel_rfl) (fun Kn hK => ?_)
              go_simp
              refine (HCe.out x17 hb17 HOS.out HKN.out).mono ?_
              rintro e x18 ⟨⟨vr, vw, vv, vbb, rfl, hmo⟩, hq18⟩
              have hb18 := hb17.trans (hq18.mono hb17.size)
              have HOS := Lib.hid (HOS.out.below hq18)
              have HKN := Lib.hid (HKN.out.below hq18)
              have hz18 := (Keep.of_below hq18 : Keep (fun _ => False) x17 x18).at hz17 fun e => e
              obtain ⟨Am, cm1, rfl, _, _⟩ := own_slice hmo.rd
              obtain ⟨Bm, cm2, rfl, _, _⟩ := own_slice hmo.wr
              obtain ⟨Cm, cm3, rfl, _, _⟩ := own_slice hmo.vf
              obtain ⟨Dm, cm4, rfl, _, _⟩ := own_slice hmo.bl
              have HMB := Lib.hid hmo
              clear hmo
              clear hS
              have hS := HSS.out _ hb18
              refine hK.out _ _ (Or.inr hS) ?_
              clear hK Kn
              try simp only [Act.put, List.setIfInBounds_toArray, List.set_cons_zero, List.set_cons_succ]
              refine wpAnyG_pure (i := 10) (v := ?ve8r1910) at10 (by kernel_rfl) (fun _ _ _ h => h) (Or.inl ⟨by rfl, ?he8r1910⟩) (Or.inr (by assumption)) ?re8r1910
              case he8r1910 => (intro w hSw; (try dsimp only at hSw); go_simp; try with_reducible rfl)
              case' re8r1910 => skip
              try simp only [Act.put, List.setIfInBounds_toArray, List.set_cons_zero, List.set_cons_succ]
              refine wpAnyG_pure (i := 11) (v := ?ve8r1911) at11 (by kernel_rfl) (fun _ _ _ h => h) (Or.inl ⟨by rfl, ?he8r1911⟩) (Or.inr (by assumption)) ?re8r1911
              case he8r1911 => (intro w hSw; (try dsimp only at hSw); go_simp; try with_reducible rfl)
              case' re8r1911 => skip
              try simp only [Act.put, List.setIfInBounds_toArray, List.set_cons_zero, List.set_cons_succ]
              refine wpAnyG_pure (i := 12) (v := ?ve8r1912) at12 (by kernel_rfl) (fun _ _ _ h => h) (Or.inl ⟨by rfl, ?he8r1912⟩) (Or.inr (by assumption)) ?re8r1912
              case he8r1912 => (intro w hSw; (try dsimp only at hSw); go_simp; try with_reducible rfl)
              case' re8r1912 => skip
              try simp only [Act.put, List.setIfInBounds_toArray, List.set_cons_zero, List.set_cons_succ]
              refine wpAnyG_one 14 at14 (by kernel_rfl) (fun Kn hK => ?_)
              refine step_store_all rfl _ _ _ rfl rfl rfl _ _ hz18 info_mt rfl (by simp [Value.oneCell']) ?_
              intro y9 h9 k9 s9
              refine hK.out _ _ (Or.inl (by kernel_rfl)) ?_
              have HLEAF : Hid (MtIn wb y9 z15 BM3) := Lib.hid ⟨_, _, _, _, _, h9, HMB.out.store hz18 k9, below_at ((Below.refl wb.heap.size wb).trans (hb18.mono (Below.refl wb.heap.size wb).size)) k9 HZL.out⟩
              clear hK Kn h9 k9 s9 hS
              try simp only [Act.put, List.setIfInBounds_toArray, List.set_cons_zero, List.set_cons_succ]
              refine wpAnyG_one 15 at15 (by kernel_rfl) (fun Kn hK => ?_)
              go_simp
              refine hK.out _ _ (Or.inl (by kernel_rfl)) ?_
              clear hK Kn
              refine wpAnyG_done (by kernel_rfl) ?_
              try simp only [Act.put, List.setIfInBounds_toArray, List.set_cons_zero, List.set_cons_succ]
              go_wp2_with fail
              go_meet
              exact ⟨_, rfl, rfl, HLEAF⟩
          · skip
            go_simp
            obtain ⟨z20, hzz20⟩ : ∃ z, x1.heap.size = z := ⟨_, rfl⟩
            obtain ⟨x20, hx20⟩ : ∃ x, x1.alloc (.cells #[.string ⟨#[]⟩, .string ⟨#[]⟩, .int .i64 0, .slice none 0 0, .slice none 0 0, .int .u64 0, .slice none 0 0, .slice none 0 0, .string ⟨#[]⟩] 42) = x := ⟨_, rfl⟩
            have hz20 : x20.heap[z20]? = some (.cells #[.string ⟨#[]⟩, .string ⟨#[]⟩, .int .i64 0, .slice none 0 0, .slice none 0 0, .int .u64 0, .slice none 0 0, .slice none 0 0, .string ⟨#[]⟩] 42 (0, 0)) := by rw [← hx20, ← hzz20, get_alloc, if_pos rfl]
            have hq20 : Below x1.heap.size x1 x20 := by rw [← hx20]; exact (Below.refl _ x1).alloc (Nat.le_refl _) _
            have HZL : Hid (wb.heap.size ≤ z20) := Lib.hid (by have h1 := (Below.refl wb.heap.size wb).size; have h2 := hb1.size; omega)
            rw [hx20, hzz20]
            have hb20 := hb1.trans (hq20.mono hb1.size)
            clear hS
            have hS := HSS.out _ hb20
            refine hK.out _ _ (Or.inr hS) ?_
            clear hK Kn
            try simp only [Act.put, List.setIfInBounds_toArray, List.set_cons_zero, List.set_cons_succ]
            refine wpAnyG_one 3 at3 (by kernel_rfl) (fun Kn hK => ?_)
            go_simp
            refine (HCb.out x20 hb20).mono ?_
            rintro e x21 ⟨rfl, hq21⟩
            have hb21 := hb20.trans (hq21.mono hb20.size)
            have hz21 := (Keep.of_below hq21 : Keep (fun _ => False) x20 x21).at hz20 fun e => e
            clear hS
            have hS := HSS.out _ hb21
            refine hK.out _ _ (Or.inr hS) ?_
            clear hK Kn
            try simp only [Act.put, List.setIfInBounds_toArray, List.set_cons_zero, List.set_cons_succ]
            refine wpAnyG_one 7 at7 (by kernel_rfl) (fun Kn hK => ?_)
            go_simp
            refine (HCc.out x21 hb21).mono ?_
            rintro e x22 ⟨vs, rfl, hos, hq22⟩
            have hb22 := hb21.trans (hq22.mono hb21.size)
            have hz22 := (Keep.of_below hq22 : Keep (fun _ => False) x21 x22).at hz21 fun e => e
            obtain ⟨As, cs, rfl, _, _⟩ := own_slice hos
            have HOS := Lib.hid (strs_own hos)
            clear hos
            clear hS
            have hS := HSS.out _ hb22
            refine hK.out _ _ (Or.inr hS) ?_
            clear hK Kn
            try simp only [Act.put, List.setIfInBounds_toArray, List.set_cons_zero, List.set_cons_succ]
            refine wpAnyG_one 8 at8 (by kernel_rfl) (fun Kn hK => ?_)
            go_simp
            refine (HCd.out x22 hb22).mono ?_
            rintro e x23 ⟨vk, rfl, hok, hq23⟩
            have hb23 := hb22.trans (hq23.mono hb22.size)
            have HOS := Lib.hid (HOS.out.below hq23)
            have hz23 := (Keep.of_below hq23 : Keep (fun _ => False) x22 x23).at hz22 fun e => e
            obtain ⟨Ak, ck, rfl, _, _⟩ := own_slice hok
            have HKN := Lib.hid (rows_own hok)
            clear hok
            clear hS
            have hS := HSS.out _ hb23
            refine hK.out _ _ (Or.inr hS) ?_
            clear hK Kn
            try simp only [Act.put, List.setIfInBounds_toArray, List.set_cons_zero, List.set_cons_succ]
            refine wpAnyG_one 9 at9 (by kernel_rfl) (fun Kn hK => ?_)
            go_simp
            refine (HCe.out x23 hb23 HOS.out HKN.out).mono ?_
            rintro e x24 ⟨⟨vr, vw, vv, vbb, rfl, hmo⟩, hq24⟩
            have hb24 := hb23.trans (hq24.mono hb23.size)
            have HOS := Lib.hid (HOS.out.below hq24)
            have HKN := Lib.hid (HKN.out.below hq24)
            have hz24 := (Keep.of_below hq24 : Keep (fun _ => False) x23 x24).at hz23 fun e => e
            obtain ⟨Am, cm1, rfl, _, _⟩ := own_slice hmo.rd
            obtain ⟨Bm, cm2, rfl, _, _⟩ := own_slice hmo.wr
            obtain ⟨Cm, cm3, rfl, _, _⟩ := own_slice hmo.vf
            obtain ⟨Dm, cm4, rfl, _, _⟩ := own_slice hmo.bl
            have HMB := Lib.hid hmo
            clear hmo
            clear hS
            have hS := HSS.out _ hb24
            refine hK.out _ _ (Or.inr hS) ?_
            clear hK Kn
            try simp only [Act.put, List.setIfInBounds_toArray, List.set_cons_zero, List.set_cons_succ]
            refine wpAnyG_pure (i := 10) (v := ?ve8r2510) at10 (by kernel_rfl) (fun _ _ _ h => h) (Or.inl ⟨by rfl, ?he8r2510⟩) (Or.inr (by assumption)) ?re8r2510
            case he8r2510 => (intro w hSw; (try dsimp only at hSw); go_simp; try with_reducible rfl)
            case' re8r2510 => skip
            try simp only [Act.put, List.setIfInBounds_toArray, List.set_cons_zero, List.set_cons_succ]
            refine wpAnyG_pure (i := 11) (v := ?ve8r2511) at11 (by kernel_rfl) (fun _ _ _ h => h) (Or.inl ⟨by rfl, ?he8r2511⟩) (Or.inr (by assumption)) ?re8r2511
            case he8r2511 => (intro w hSw; (try dsimp only at hSw); go_simp; try with_reducible rfl)
            case' re8r2511 => skip
            try simp only [Act.put, List.setIfInBounds_toArray, List.set_cons_zero, List.set_cons_succ]
            refine wpAnyG_pure (i := 12) (v := ?ve8r2512) at12 (by kernel_rfl) (fun _ _ _ h => h) (Or.inl ⟨by rfl, ?he8r2512⟩) (Or.inr (by assumption)) ?re8r2512
            case he8r2512 => (intro w hSw; (try dsimp only at hSw); go_simp; try with_reducible rfl)
            case' re8r2512 => skip
            try simp only [Act.put, List.setIfInBounds_toArray, List.set_cons_zero, List.set_cons_succ]
            refine wpAnyG_one 14 at14 (by kernel_rfl) (fun Kn hK => ?_)
            refine step_store_all rfl _ _ _ rfl rfl rfl _ _ hz24 info_mt rfl (by simp [Value.oneCell']) ?_
            intro y9 h9 k9 s9
            refine hK.out _ _ (Or.inl (by kernel_rfl)) ?_
            have HLEAF : Hid (MtIn wb y9 z20 BM3) := Lib.hid ⟨_, _, _, _, _, h9, HMB.out.store hz24 k9, below_at ((Below.refl wb.heap.size wb).trans (hb24.mono (Below.refl wb.heap.size wb).size)) k9 HZL.out⟩
            clear hK Kn h9 k9 s9 hS
            try simp only [Act.put, List.setIfInBounds_toArray, List.set_cons_zero, List.set_cons_succ]
            refine wpAnyG_one 15 at15 (by kernel_rfl) (fun Kn hK => ?_)
            go_simp
            refine hK.out _ _ (Or.inl (by kernel_rfl)) ?_
            clear hK Kn
            refine wpAnyG_done (by kernel_rfl) ?_
            try simp only [Act.put, List.setIfInBounds_toArray, List.set_cons_zero, List.set_cons_succ]
            go_wp2_with fail
            go_meet
            exact ⟨_, rfl, rfl, HLEAF⟩
        · skip
          go_simp
          obtain ⟨z26, hzz26⟩ : ∃ z, wd.heap.size = z := ⟨_, rfl⟩
          obtain ⟨x26, hx26⟩ : ∃ x, wd.alloc (.cells #[.string ⟨#[]⟩, .string ⟨#[]⟩, .int .i64 0, .slice none 0 0, .slice none 0 0, .int .u64 0, .slice none 0 0, .slice none 0 0, .string ⟨#[]⟩] 42) = x := ⟨_, rfl⟩
          have hz26 : x26.heap[z26]? = some (.cells #[.string ⟨#[]⟩, .string ⟨#[]⟩, .int .i64 0, .slice none 0 0, .slice none 0 0, .int .u64 0, .slice none 0 0, .slice none 0 0, .string ⟨#[]⟩] 42 (0, 0)) := by rw [← hx26, ← hzz26, get_alloc, if_pos rfl]
          have hq26 : Below wd.heap.size wd x26 := by rw [← hx26]; exact (Below.refl _ wd).alloc (Nat.le_refl _) _
          have HZL : Hid (wb.heap.size ≤ z26) := Lib.hid (by have h1 := (Below.refl wb.heap.size wb).size; have h2 := hb0.size; omega)
          rw [hx26, hzz26]
          have hb26 := hb0.trans (hq26.mono hb0.size)
          clear hS
          have hS := HSS.out _ hb26
          refine hK.out _ _ (Or.inr hS) ?_
          clear hK Kn
          try simp only [Act.put, List.setIfInBounds_toArray, List.set_cons_zero, List.set_cons_succ]
          refine wpAnyG_one 0 at0 (by kernel_rfl) (fun Kn hK => ?_)
          go_simp
          refine (HCa.out x26 hb26).mono ?_
          rintro e x27 ⟨rfl, hq27⟩
          have hb27 := hb26.trans (hq27.mono hb26.size)
          have hz27 := (Keep.of_below hq27 : Keep (fun _ => False) x26 x27).at hz26 fun e => e
          clear hS
          have hS := HSS.out _ hb27
          refine hK.out _ _ (Or.inr hS) ?_
          clear hK Kn
          try simp only [Act.put, List.setIfInBounds_toArray, List.set_cons_zero, List.set_cons_succ]
          refine wpAnyG_one 3 at3 (by kernel_rfl) (fun Kn hK => ?_)
          go_simp
          refine (HCb.out x27 hb27).mono ?_
          rintro e x28 ⟨rfl, hq28⟩
          have hb28 := hb27.trans (hq28.mono hb27.size)
          have hz28 := (Keep.of_below hq28 : Keep (fun _ => False) x27 x28).at hz27 fun e => e
          clear hS
          have hS := HSS.out _ hb28
          refine hK.out _ _ (Or.inr hS) ?_
          clear hK Kn
          try simp only [Act.put, List.setIfInBounds_toArray, List.set_cons_zero, List.set_cons_succ]
          refine wpAnyG_one 7 at7 (by kernel_rfl) (fun Kn hK => ?_)
          go_simp
          refine (HCc.out x28 hb28).mono ?_
          rintro e x29 ⟨vs, rfl, hos, hq29⟩
          have hb29 := hb28.trans (hq29.mono hb28.size)
          have hz29 := (Keep.of_below hq29 : Keep (fun _ => False) x28 x29).at hz28 fun e => e
          obtain ⟨As, cs, rfl, _, _⟩ := own_slice hos
          have HOS := Lib.hid (strs_own hos)
          clear hos
          clear hS
          have hS := HSS.out _ hb29
          refine hK.out _ _ (Or.inr hS) ?_
          clear hK Kn
          try simp only [Act.put, List.setIfInBounds_toArray, List.set_cons_zero, List.set_cons_succ]
          refine wpAnyG_one 8 at8 (by kernel_rfl) (fun Kn hK => ?_)
          go_simp
          refine (HCd.out x29 hb29).mono ?_
          rintro e x30 ⟨vk, rfl, hok, hq30⟩
          have hb30 := hb29.trans (hq30.mono hb29.size)
          have HOS := Lib.hid (HOS.out.below hq30)
          have hz30 := (Keep.of_below hq30 : Keep (fun _ => False) x29 x30).at hz29 fun e => e
          obtain ⟨Ak, ck, rfl, _, _⟩ := own_slice hok
          have HKN := Lib.hid (rows_own hok)
          clear hok
          clear hS
          have hS := HSS.out _ hb30
          refine hK.out _ _ (Or.inr hS) ?_
          clear hK Kn
          try simp only [Act.put, List.setIfInBounds_toArray, List.set_cons_zero, List.set_cons_succ]
          refine wpAnyG_one 9 at9 (by kernel_rfl) (fun Kn hK => ?_)
          go_simp
          refine (HCe.out x30 hb30 HOS.out HKN.out).mono ?_
          rintro e x31 ⟨⟨vr, vw, vv, vbb, rfl, hmo⟩, hq31⟩
          have hb31 := hb30.trans (hq31.mono hb30.size)
          have HOS := Lib.hid (HOS.out.below hq31)
          have HKN := Lib.hid (HKN.out.below hq31)
          have hz31 := (Keep.of_below hq31 : Keep (fun _ => False) x30 x31).at hz30 fun e => e
          obtain ⟨Am, cm1, rfl, _, _⟩ := own_slice hmo.rd
          obtain ⟨Bm, cm2, rfl, _, _⟩ := own_slice hmo.wr
          obtain ⟨Cm, cm3, rfl, _, _⟩ := own_slice hmo.vf
          obtain ⟨Dm, cm4, rfl, _, _⟩ := own_slice hmo.bl
          have HMB := Lib.hid hmo
          clear hmo
          clear hS
          have hS := HSS.out _ hb31
          refine hK.out _ _ (Or.inr hS) ?_
          clear hK Kn
          try simp only [Act.put, List.setIfInBounds_toArray, List.set_cons_zero, List.set_cons_succ]
          refine wpAnyG_pure (i := 10) (v := ?ve8r3210) at10 (by kernel_rfl) (fun _ _ _ h => h) (Or.inl ⟨by rfl, ?he8r3210⟩) (Or.inr (by assumption)) ?re8r3210
          case he8r3210 => (intro w hSw; (try dsimp only at hSw); go_simp; try with_reducible rfl)
          case' re8r3210 => skip
          try simp only [Act.put, List.setIfInBounds_toArray, List.set_cons_zero, List.set_cons_succ]
          refine wpAnyG_pure (i := 11) (v := ?ve8r3211) at11 (by kernel_rfl) (fun _ _ _ h => h) (Or.inl ⟨by rfl, ?he8r3211⟩) (Or.inr (by assumption)) ?re8r3211
          case he8r3211 => (intro w hSw; (try dsimp only at hSw); go_simp; try with_reducible rfl)
          case' re8r3211 => skip
          try simp only [Act.put, List.setIfInBounds_toArray, List.set_cons_zero, List.set_cons_succ]
          refine wpAnyG_pure (i := 12) (v := ?ve8r3212) at12 (by kernel_rfl) (fun _ _ _ h => h) (Or.inl ⟨by rfl, ?he8r3212⟩) (Or.inr (by assumption)) ?re8r3212
          case he8r3212 => (intro w hSw; (try dsimp only at hSw); go_simp; try with_reducible rfl)
          case' re8r3212 => skip
          try simp only [Act.put, List.setIfInBounds_toArray, List.set_cons_zero, List.set_cons_succ]
          refine wpAnyG_one 14 at14 (by kernel_rfl) (fun Kn hK => ?_)
          refine step_store_all rfl _ _ _ rfl rfl rfl _ _ hz31 info_mt rfl (by simp [Value.oneCell']) ?_
          intro y9 h9 k9 s9
          refine hK.out _ _ (Or.inl (by kernel_rfl)) ?_
          have HLEAF : Hid (MtIn wb y9 z26 BM3) := Lib.hid ⟨_, _, _, _, _, h9, HMB.out.store hz31 k9, below_at ((Below.refl wb.heap.size wb).trans (hb31.mono (Below.refl wb.heap.size wb).size)) k9 HZL.out⟩
          clear hK Kn h9 k9 s9 hS
          try simp only [Act.put, List.setIfInBounds_toArray, List.set_cons_zero, List.set_cons_succ]
          refine wpAnyG_one 15 at15 (by kernel_rfl) (fun Kn hK => ?_)
          go_simp
          refine hK.out _ _ (Or.inl (by kernel_rfl)) ?_
          clear hK Kn
          refine wpAnyG_done (by kernel_rfl) ?_
          try simp only [Act.put, List.setIfInBounds_toArray, List.set_cons_zero, List.set_cons_succ]
          go_wp2_with fail
          go_meet
          exact ⟨_, rfl, rfl, HLEAF⟩
      case rest =>
        obtain ⟨Zm3, rfl, rfl, HIh⟩ := hcut
        obtain ⟨wc, hq0, HI3⟩ : ∃ W, W = _ ∧ Hid (MtIn wb W Zm3 BM3) := ⟨_, rfl, HIh⟩
        subst hq0
        clear HIh HCa HCb HCc HCd HCe
        have hbel3 : Below wb.heap.size wb wc := by obtain ⟨_, _, _, _, _, _, _, h⟩ := HI3.out; exact h
        have Bwc := Lib.hid (Bwb.out.trans (hbel3.mono Bwb.out.size))
        have f1 : BM1.vf.length = m1 := by rw [← HE1.out]; exact vf_len
        have f2 : BM2.vf.length = m2 := by rw [← HE2.out]; exact vf_len
        have f3 : BM3.bl = BM1.bl := by rw [← HE1.out, ← HE3.out]; rfl
        obtain ⟨vr1, vw1, vv1, vb1, row1, ml1, ⟨a1, d1, rfl⟩, ⟨a2, d2, rfl⟩, ⟨a3, d3, rfl⟩, ⟨a4, d4, rfl⟩⟩ := HI1.out.next (hbel2.trans (hbel3.mono hbel2.size))
        obtain ⟨vr2, vw2, vv2, vb2, row2, ml2, ⟨e1, i1, rfl⟩, ⟨e2, i2, rfl⟩, ⟨e3, i3, rfl⟩, ⟨e4, i4, rfl⟩⟩ := HI2.out.next hbel3
        obtain ⟨vr3, vw3, vv3, vb3, row3, ml3, ⟨p1, s1, rfl⟩, ⟨p2, s2, rfl⟩, ⟨p3, s3, rfl⟩, ⟨p4, s4, rfl⟩⟩ := HI3.out.next (Below.refl _ wc)
        have HR1 := Lib.hid row1
        have HR2 := Lib.hid row2
        have HR3 := Lib.hid row3
        have HF1 := Lib.hid ml1.vf
        have HF2 := Lib.hid ml2.vf
        have HG1 := Lib.hid ml1.bl
        have HG3 := Lib.hid ml3.bl
        have hsig : (BM1.sig = BM3.sig) ↔ va = vb := by rw [← HE1.out, ← HE3.out]; exact HBD1.out.sig_eq ha HBV.out
        have HSIG := Lib.hid hsig
        have hv1 : ∀ i, i < m1 → BM1.vf[i]? = some (mkB (117 :: toL (signN i))) := fun i hi => by rw [← HE1.out]; exact vf_get hi
        have hv2 : ∀ i, i < m2 → BM2.vf[i]? = some (mkB (117 :: toL (signN i))) := fun i hi => by rw [← HE2.out]; exact vf_get hi
        have HV1' := Lib.hid hv1
        have HV2' := Lib.hid hv2
        have HF3 := Lib.hid f3
        obtain ⟨nb, hnb⟩ : ∃ n, BM1.bl.length = n := ⟨_, rfl⟩
        have HNB := Lib.hid hnb
        have hnb3 : BM3.bl.length = nb := by rw [f3]; exact hnb
        have hz1 := (Keep.of_below hbel3 : Keep (fun _ => False) wb wc).at HZwb.out fun e => e
        have hz2 := (Keep.of_below hbel3 : Keep (fun _ => False) wb wc).at HYwb.out fun e => e
        have k1 := (row9 row1).2.2.2.2.2.2.1
        have k2 := (row9 row1).2.2.2.2.2.2.2.1
        have k3 := (row9 row2).2.2.2.2.2.2.1
        have k4 := (row9 row3).2.2.2.2.2.2.2.1
        have k5 := (row5 hz1).2.2.1
        have k6 := (row5 hz2).2.2.1
        have k7 := (row9 row1).2.2.2.2.2.2.2.2
        have k8 := (row9 row3).2.2.2.2.2.2.2.2
        rw [f1] at k1
        rw [hnb] at k2
        rw [f2] at k3
        rw [hnb3] at k4
        have HK1 := Lib.hid k1
        have HK2 := Lib.hid k2
        have HK3 := Lib.hid k3
        have HK4 := Lib.hid k4
        have HK7 := Lib.hid k7
        have HK8 := Lib.hid k8
        have HMM := Lib.hid HM12.out.2.2.1
        have hmm8 : m1 ≤ 8 ∧ m2 ≤ 8 := by have := HM12.out; omega
        have hnb5 : nb ≤ 1000 := by
          have := (HBD1.out.ok va ha).2.1.nb
          rw [HE1.out, hnb] at this
          omega
        clear row1 row2 row3 ml1 ml2 ml3 hsig hv1 hv2 f1 f2 f3 hnb hnb3 hz1 hz2 hbel1 hbel2 k7 k8
        go_wp2_with fail
        clear k1 k2 k3 k4 k5 k6
        go_loopw [18] (fun i wx => ∃ k : Nat, k ≤ m1 ∧ i = .int .i64 k ∧ Hid (Below wc.heap.size wc wx)) (fun i _ => m1 - (intOf i).toNat)
        case atStart => exact ⟨0, Nat.zero_le _, rfl, Lib.hid (Below.refl _ _)⟩
        case round =>
          obtain ⟨k, hk, rfl, HB⟩ := hrel
          have k1 := (Keep.of_below HB.out : Keep (fun _ => False) wc wr).cell HK1.out fun e => e
          have k3 := (Keep.of_below HB.out : Keep (fun _ => False) wc wr).cell HK3.out fun e => e
          by_cases hlt : k < m1
          · have hlt2 : k < m2 := by have := HMM.out; omega
            obtain ⟨X, hX⟩ : ∃ X, mkB (117 :: toL (signN k)) = X := ⟨_, rfl⟩
            have hx1 := HV1'.out k hlt
            have hx2 := HV2'.out k hlt2
            rw [hX] at hx1 hx2
            obtain ⟨g1, o1, y1, hy1, _, _, hc1⟩ := (HF1.out.below HB.out).cell hx1
            obtain ⟨rfl, rfl⟩ : a3 = some ⟨g1, o1, none⟩ ∧ d3 = y1 := by cases hy1; exact ⟨rfl, rfl⟩
            obtain ⟨g2, o2, y2, hy2, _, _, hc2⟩ := (HF2.out.below HB.out).cell hx2
            obtain ⟨rfl, rfl⟩ : e3 = some ⟨g2, o2, none⟩ ∧ i3 = y2 := by cases hy2; exact ⟨rfl, rfl⟩
            clear hX hx1 hx2 hy1 hy2
            go_wp2_with fail
            refine wp_region_G (fun W2 => (W2.cell? ⟨Zm1, 6, none⟩ = some (.slice (some ⟨g1, o1, none⟩) m1 d3) ∧ W2.cell? ⟨Zm2, 6, none⟩ = some (.slice (some ⟨g2, o2, none⟩) m2 i3)) ∧ W2.cell? ⟨g1, o1 + k, none⟩ = some (.string X) ∧ W2.cell? ⟨g2, o2 + k, none⟩ = some (.string X)) [10] (by kernel_rfl) ?_
            have hS : (fun W2 : World => (W2.cell? ⟨Zm1, 6, none⟩ = some (.slice (some ⟨g1, o1, none⟩) m1 d3) ∧ W2.cell? ⟨Zm2, 6, none⟩ = some (.slice (some ⟨g2, o2, none⟩) m2 i3)) ∧ W2.cell? ⟨g1, o1 + k, none⟩ = some (.string X) ∧ W2.cell? ⟨g2, o2 + k, none⟩ = some (.string X)) wr.drew := ⟨⟨k1, k3⟩, hc1, hc2⟩
            have HB2 := Lib.hid (HB.out.trans (below_self HB.out |>.mono HB.out.size))
            refine wpAnyG_pure (i := 0) (v := ?vfa0) at0 (by kernel_rfl) (fun _ _ _ h => h) (Or.inl ⟨by rfl, ?hfa0⟩) (Or.inr (by assumption)) ?rfa0
            case hfa0 => (intro w hSw; (try dsimp only at hSw); go_simp; try with_reducible rfl)
            case' rfa0 => skip
            try simp only [Act.put, List.setIfInBounds_toArray, List.set_cons_zero, List.set_cons_succ]
            refine wpAnyG_take (ws := [0,1,2,3,4,5,6,7,8,9]) (i := 1) (v := ?vfa1) at1 (by kernel_rfl) (fun _ _ _ h => h) (Or.inl ⟨by rfl, ?hfa1⟩) (by assumption) ?rfa1
            case hfa1 => (intro w hSw; (try dsimp only at hSw); go_simp; try with_reducible rfl)
            case' rfa1 => skip
            try simp only [Act.put, List.setIfInBounds_toArray, List.set_cons_zero, List.set_cons_succ]
            refine wpAnyG_pure (i := 2) (v := ?vfa2) at2 (by kernel_rfl) (fun _ _ _ h => h) (Or.inl ⟨by rfl, ?hfa2⟩) (Or.inr (by assumption)) ?rfa2
            case hfa2 => (intro w hSw; (try dsimp only at hSw); go_simp; try with_reducible rfl)
            case' rfa2 => skip
            try simp only [Act.put, List.setIfInBounds_toArray, List.set_cons_zero, List.set_cons_succ]
            refine wpAnyG_pure (i := 3) (v := ?vfa3) at3 (by kernel_rfl) (fun _ _ _ h => h) (Or.inl ⟨by rfl, ?hfa3⟩) (Or.inr (by assumption)) ?rfa3
            case hfa3 => (intro w hSw; (try dsimp only at hSw); go_simp; try with_reducible rfl)
            case' rfa3 => skip
            try simp only [Act.put, List.setIfInBounds_toArray, List.set_cons_zero, List.set_cons_succ]
            refine wpAnyG_take (ws := [0,1,2,3,4,5,6,7,8,9]) (i := 4) (v := ?vfa4) at4 (by kernel_rfl) (fun _ _ _ h => h) (Or.inl ⟨by rfl, ?hfa4⟩) (by assumption) ?rfa4
            case hfa4 => (intro w hSw; (try dsimp only at hSw); go_simp; try with_reducible rfl)
            case' rfa4 => skip
            try simp only [Act.put, List.setIfInBounds_toArray, List.set_cons_zero, List.set_cons_succ]
            refine wpAnyG_pure (i := 5) (v := ?vfa5) at5 (by kernel_rfl) (fun _ _ _ h => h) (Or.inl ⟨by rfl, ?hfa5⟩) (Or.inr (by assumption)) ?rfa5
            case hfa5 => (intro w hSw; (try dsimp only at hSw); go_simp; try with_reducible rfl)
            case' rfa5 => skip
            try simp only [Act.put, List.setIfInBounds_toArray, List.set_cons_zero, List.set_cons_succ]
            refine wpAnyG_take (ws := [0,1,2,3,4,5,6,7,8,9]) (i := 6) (v := ?vfa6) at6 (by kernel_rfl) (fun _ _ _ h => h) (Or.inl ⟨by rfl, ?hfa6⟩) (by assumption) ?rfa6
            case hfa6 => (intro w hSw; (try dsimp only at hSw); go_simp; try with_reducible rfl)
            case' rfa6 => skip
            try simp only [Act.put, List.setIfInBounds_toArray, List.set_cons_zero, List.set_cons_succ]
            refine wpAnyG_pure (i := 7) (v := ?vfa7) at7 (by kernel_rfl) (fun _ _ _ h => h) (Or.inl ⟨by rfl, ?hfa7⟩) (Or.inr (by assumption)) ?rfa7
            case hfa7 => (intro w hSw; (try dsimp only at hSw); go_simp; try with_reducible rfl)
            case' rfa7 => skip
            try simp only [Act.put, List.setIfInBounds_toArray, List.set_cons_zero, List.set_cons_succ]
            refine wpAnyG_pure (i := 8) (v := ?vfa8) at8 (by kernel_rfl) (fun _ _ _ h => h) (Or.inl ⟨by rfl, ?hfa8⟩) (Or.inr (by assumption)) ?rfa8
            case hfa8 => (intro w hSw; (try dsimp only at hSw); go_simp; try with_reducible rfl)
            case' rfa8 => skip
            try simp only [Act.put, List.setIfInBounds_toArray, List.set_cons_zero, List.set_cons_succ]
            refine wpAnyG_take (ws := [0,1,2,3,4,5,6,7,8,9]) (i := 9) (v := ?vfa9) at9 (by kernel_rfl) (fun _ _ _ h => h) (Or.inl ⟨by rfl, ?hfa9⟩) (by assumption) ?rfa9
            case hfa9 => (intro w hSw; (try dsimp only at hSw); go_simp; try with_reducible rfl)
            case' rfa9 => skip
            try simp only [Act.put, List.setIfInBounds_toArray, List.set_cons_zero, List.set_cons_succ]
            refine wpAnyG_one 10 at10 (by kernel_rfl) (fun Kn hK => ?_)
            go_simp
            refine hK.out _ _ (Or.inl (by kernel_rfl)) ?_
            clear hK Kn hS hc1 hc2 k1 k3
            refine wpAnyG_done (by kernel_rfl) ?_
            try simp only [Act.put, List.setIfInBounds_toArray, List.set_cons_zero, List.set_cons_succ]
            go_wp2_with fail
            go_roundw
            case rel => exact ⟨k + 1, by omega, by go_num, HB2⟩
            case measure => simp [intOf]; omega
          · obtain rfl : k = m1 := by omega
            have HB1 := HB
            go_wp2_with fail
            clear k1 k3
            go_loopw [19] (fun i wx => ∃ j : Nat, j ≤ nb ∧ i = .int .i64 j ∧ Hid (Below wc.heap.size wc wx)) (fun i _ => nb - (intOf i).toNat)
            case atStart => exact ⟨0, Nat.zero_le _, rfl, HB1⟩
            case round =>
              obtain ⟨j, hj, rfl, HB⟩ := hrel
              have k2 := (Keep.of_below HB.out : Keep (fun _ => False) wc wr).cell HK2.out fun e => e
              have k4 := (Keep.of_below HB.out : Keep (fun _ => False) wc wr).cell HK4.out fun e => e
              by_cases hltj : j < nb
              · obtain ⟨⟨X, Y⟩, hx1⟩ : ∃ x, BM1.bl[j]? = some x := ⟨_, List.getElem?_eq_getElem (by rw [HNB.out]; exact hltj)⟩
                have hx2 : BM3.bl[j]? = some (X, Y) := by rw [HF3.out]; exact hx1
                obtain ⟨g1, o1, y1, hy1, _, _, hc1, hc1'⟩ := (HG1.out.below HB.out).cell2 hx1
                obtain ⟨rfl, rfl⟩ : a4 = some ⟨g1, o1, none⟩ ∧ d4 = y1 := by cases hy1; exact ⟨rfl, rfl⟩
                obtain ⟨g2, o2, y2, hy2, _, _, hc2, hc2'⟩ := (HG3.out.below HB.out).cell2 hx2
                obtain ⟨rfl, rfl⟩ : p4 = some ⟨g2, o2, none⟩ ∧ s4 = y2 := by cases hy2; exact ⟨rfl, rfl⟩
                clear hx1 hx2 hy1 hy2
                go_wp2_with fail
                refine wp_region_G (fun W2 => (W2.cell? ⟨Zm1, 7, none⟩ = some (.slice (some ⟨g1, o1, none⟩) nb d4) ∧ W2.cell? ⟨Zm3, 7, none⟩ = some (.slice (some ⟨g2, o2, none⟩) nb s4)) ∧ (W2.cell? ⟨g1, o1 + j * 2, none⟩ = some (.string X) ∧ W2.cell? ⟨g1, o1 + j * 2 + 1, none⟩ = some (.string Y)) ∧ W2.cell? ⟨g2, o2 + j * 2, none⟩ = some (.string X) ∧ W2.cell? ⟨g2, o2 + j * 2 + 1, none⟩ = some (.string Y)) [10] (by kernel_rfl) ?_
                have hS : (fun W2 : World => (W2.cell? ⟨Zm1, 7, none⟩ = some (.slice (some ⟨g1, o1, none⟩) nb d4) ∧ W2.cell? ⟨Zm3, 7, none⟩ = some (.slice (some ⟨g2, o2, none⟩) nb s4)) ∧ (W2.cell? ⟨g1, o1 + j * 2, none⟩ = some (.string X) ∧ W2.cell? ⟨g1, o1 + j * 2 + 1, none⟩ = some (.string Y)) ∧ W2.cell? ⟨g2, o2 + j * 2, none⟩ = some (.string X) ∧ W2.cell? ⟨g2, o2 + j * 2 + 1, none⟩ = some (.string Y)) wr.drew := ⟨⟨k2, k4⟩, ⟨hc1, hc1'⟩, hc2, hc2'⟩
                have HB2 := Lib.hid (HB.out.trans (below_self HB.out |>.mono HB.out.size))
                refine wpAnyG_pure (i := 0) (v := ?vfb0) at0 (by kernel_rfl) (fun _ _ _ h => h) (Or.inl ⟨by rfl, ?hfb0⟩) (Or.inr (by assumption)) ?rfb0
                case hfb0 => (intro w hSw; (try dsimp only at hSw); go_simp; try with_reducible rfl)
                case' rfb0 => skip
                try simp only [Act.put, List.setIfInBounds_toArray, List.set_cons_zero, List.set_cons_succ]
                refine wpAnyG_take (ws := [0,1,2,3,4,5,6,7,8,9]) (i := 1) (v := ?vfb1) at1 (by kernel_rfl) (fun _ _ _ h => h) (Or.inl ⟨by rfl, ?hfb1⟩) (by assumption) ?rfb1
                case hfb1 => (intro w hSw; (try dsimp only at hSw); go_simp; try with_reducible rfl)
                case' rfb1 => skip
                try simp only [Act.put, List.setIfInBounds_toArray, List.set_cons_zero, List.set_cons_succ]
                refine wpAnyG_pure (i := 2) (v := ?vfb2) at2 (by kernel_rfl) (fun _ _ _ h => h) (Or.inl ⟨by rfl, ?hfb2⟩) (Or.inr (by assumption)) ?rfb2
                case hfb2 => (intro w hSw; (try dsimp only at hSw); go_simp; try with_reducible rfl)
                case' rfb2 => skip
                try simp only [Act.put, List.setIfInBounds_toArray, List.set_cons_zero, List.set_cons_succ]
                refine wpAnyG_pure (i := 3) (v := ?vfb3) at3 (by kernel_rfl) (fun _ _ _ h => h) (Or.inl ⟨by rfl, ?hfb3⟩) (Or.inr (by assumption)) ?rfb3
                case hfb3 => (intro w hSw; (try dsimp only at hSw); go_simp; try with_reducible rfl)
                case' rfb3 => skip
                try simp only [Act.put, List.setIfInBounds_toArray, List.set_cons_zero, List.set_cons_succ]
                refine wpAnyG_take (ws := [0,1,2,3,4,5,6,7,8,9]) (i := 4) (v := ?vfb4) at4 (by kernel_rfl) (fun _ _ _ h => h) (Or.inl ⟨by rfl, ?hfb4⟩) (by assumption) ?rfb4
                case hfb4 => (intro w hSw; (try dsimp only at hSw); go_simp; try with_reducible rfl)
                case' rfb4 => skip
                try simp only [Act.put, List.setIfInBounds_toArray, List.set_cons_zero, List.set_cons_succ]
                refine wpAnyG_pure (i := 5) (v := ?vfb5) at5 (by kernel_rfl) (fun _ _ _ h => h) (Or.inl ⟨by rfl, ?hfb5⟩) (Or.inr (by assumption)) ?rfb5
                case hfb5 => (intro w hSw; (try dsimp only at hSw); go_simp; try with_reducible rfl)
                case' rfb5 => skip
                try simp only [Act.put, List.setIfInBounds_toArray, List.set_cons_zero, List.set_cons_succ]
                refine wpAnyG_take (ws := [0,1,2,3,4,5,6,7,8,9]) (i := 6) (v := ?vfb6) at6 (by kernel_rfl) (fun _ _ _ h => h) (Or.inl ⟨by rfl, ?hfb6⟩) (by assumption) ?rfb6
                case hfb6 => (intro w hSw; (try dsimp only at hSw); go_simp; try with_reducible rfl)
                case' rfb6 => skip
                try simp only [Act.put, List.setIfInBounds_toArray, List.set_cons_zero, List.set_cons_succ]
                refine wpAnyG_pure (i := 7) (v := ?vfb7) at7 (by kernel_rfl) (fun _ _ _ h => h) (Or.inl ⟨by rfl, ?hfb7⟩) (Or.inr (by assumption)) ?rfb7
                case hfb7 => (intro w hSw; (try dsimp only at hSw); go_simp; try with_reducible rfl)
                case' rfb7 => skip
                try simp only [Act.put, List.setIfInBounds_toArray, List.set_cons_zero, List.set_cons_succ]
                refine wpAnyG_pure (i := 8) (v := ?vfb8) at8 (by kernel_rfl) (fun _ _ _ h => h) (Or.inl ⟨by rfl, ?hfb8⟩) (Or.inr (by assumption)) ?rfb8
                case hfb8 => (intro w hSw; (try dsimp only at hSw); go_simp; try with_reducible rfl)
                case' rfb8 => skip
                try simp only [Act.put, List.setIfInBounds_toArray, List.set_cons_zero, List.set_cons_succ]
                refine wpAnyG_take (ws := [0,1,2,3,4,5,6,7,8,9]) (i := 9) (v := ?vfb9) at9 (by kernel_rfl) (fun _ _ _ h => h) (Or.inl ⟨by rfl, ?hfb9⟩) (by assumption) ?rfb9
                case hfb9 => (intro w hSw; (try dsimp only at hSw); go_simp; try with_reducible rfl)
                case' rfb9 => skip
                try simp only [Act.put, List.setIfInBounds_toArray, List.set_cons_zero, List.set_cons_succ]
                refine wpAnyG_one 10 at10 (by kernel_rfl) (fun Kn hK => ?_)
                go_simp
                refine hK.out _ _ (Or.inl (by kernel_rfl)) ?_
                clear hK Kn hS hc1 hc2 hc1' hc2' k2 k4
                refine wpAnyG_done (by kernel_rfl) ?_
                try simp only [Act.put, List.setIfInBounds_toArray, List.set_cons_zero, List.set_cons_succ]
                go_wp2_with fail
                go_roundw
                case rel => exact ⟨j + 1, by omega, by go_num, HB2⟩
                case measure => simp [intOf]; omega
              · obtain rfl : j = nb := by omega
                have k7 := (Keep.of_below HB.out : Keep (fun _ => False) wc wr).cell HK7.out fun e => e
                have k8 := (Keep.of_below HB.out : Keep (fun _ => False) wc wr).cell HK8.out fun e => e
                have HBF := Lib.hid (Bwc.out.trans (HB.out.mono Bwc.out.size))
                obtain ⟨Q1, hQ1⟩ : ∃ q, BM1.sig = q := ⟨_, rfl⟩
                obtain ⟨Q3, hQ3⟩ : ∃ q, BM3.sig = q := ⟨_, rfl⟩
                have hs := HSIG.out
                rw [hQ1, hQ3] at hs
                rw [hQ1] at k7
                rw [hQ3] at k8
                by_cases hab : va = vb
                · have f1 : (Q1.toList == Q3.toList) = true := by rw [hs.2 hab]; simp
                  have f2 : ((va : Int) == (vb : Int)) = true := by rw [hab]; simp
                  clear hs hQ1 hQ3 hab
                  go_wp2_with fail
                  go_ret
                  exact ⟨rfl, HBF.out⟩
                · have f1 : (Q1.toList == Q3.toList) = false := by rw [beq_eq_false_iff_ne]; exact fun e => hab (hs.1 (blist_inj e))
                  have f2 : ((va : Int) == (vb : Int)) = false := by rw [beq_eq_false_iff_ne]; omega
                  clear hs hQ1 hQ3 hab
                  go_wp2_with fail
                  go_ret
                  exact ⟨rfl, HBF.out⟩
end Go.Proofs.YtckblcfkajpofaaGreatDoor
