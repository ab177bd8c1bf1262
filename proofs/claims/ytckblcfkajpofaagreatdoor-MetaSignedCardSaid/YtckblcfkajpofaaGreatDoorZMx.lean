/- law 8: MetaSigned. (Printed by tools/gmx.py.) -/
import Derived.Test.YtckblcfkajpofaaGreatDoorZMw
namespace Go.Proofs.YtckblcfkajpofaaGreatDoor
open Go.RowKit Go.Sort
set_option linter.unusedVariables false
set_option linter.unusedSimpArgs false

set_option maxRecDepth 100000 in
set_option maxHeartbeats 8000000 in
theorem metaSigned_calls (w : World) (v1 : Value) (l1 : List (Int × Int)) (what at_ : Int) (hv1 : rowsOf 2 turnRow w v1 l1) (hw1 : ∀ t ∈ l1, turnWf t) (hq1 : -9223372036854775808 ≤ what) (hq2 : what ≤ 9223372036854775807) (hq3 : -9223372036854775808 ≤ at_) (hq4 : at_ ≤ 9223372036854775807) (hT : Tabs w) :
    Calls Tryz.prog 8 #[v1, .int .i64 what, .int .i64 at_] w fun e w' => e = .returned (.bool true) ∧ Below w.heap.size w w' := by
  have HS1 := Lib.hid (shown8_calls w hT)
  have HT := Lib.hid hT
  obtain ⟨A1, c1, rfl, q1, q2⟩ := rowsOf.form hv1
  have HV1 := Lib.hid hv1
  have HW1 := Lib.hid hw1
  obtain ⟨n1, hn1⟩ : ∃ n, l1.length = n := ⟨_, rfl⟩
  rw [hn1] at q1 q2 HV1 ⊢
  have HPK := Lib.hid (fun W => pick8_calls what 5 W hq1 hq2 (by decide) (by decide))
  have HAT := Lib.hid (And.intro hq3 hq4)
  clear hv1 hw1 hT hn1
  go_enter Tryz.func8, Tryz.ntmps8
  go_wp2_with fail
  refine HS1.out.mono ?_
  rintro e w1 ⟨rfl, hb1⟩
  have B1 := Lib.hid hb1
  clear hb1
  have HTU1 := Lib.hid (turned8_calls w1 _ l1 (HV1.out.below B1.out) HW1.out)
  go_wp2_with fail
  refine HTU1.out.mono ?_
  rintro e w2 ⟨⟨vr2, vw2, rfl, hl2⟩, hb2⟩
  have HOK1 := Lib.hid (turnedP_ok l1)
  obtain ⟨r1, hr1⟩ : ∃ r, turnedP l1 = r := ⟨_, rfl⟩
  rw [hr1] at hl2 HOK1 ⊢
  obtain ⟨D3, cD3, rfl, _, _⟩ := hl2.rd.form
  obtain ⟨E3, cE3, rfl, _, _⟩ := hl2.wr.form
  have B2 := Lib.hid (B1.out.trans (hb2.mono B1.out.size))
  have HL2 := Lib.hid hl2
  clear hl2 hb2 hr1
  dsimp only [agR]
  go_wp2_with (with_reducible refine wp_stop_store (o := ⟨none, .store _ (.tmp 8) _, _, _, _, _⟩) _ _ _ rfl ?_)
  unfold Stop
  refine wp_store_all rfl _ _ _ rfl rfl rfl _ _ ((get_alloc _ _ _).trans (if_pos rfl)) info_rt rfl (by simp [Value.oneCell']) ?_
  intro w4 h4 k4 s4
  obtain ⟨Z1, hZ1⟩ : ∃ Z, w2.heap.size = Z := ⟨_, rfl⟩
  have hb24 : Below w2.heap.size w2 w4 := below_at ((Below.refl w2.heap.size w2).alloc (Nat.le_refl _) _) k4 (Nat.le_refl _)
  have B4 := Lib.hid (B2.out.trans (hb24.mono B2.out.size))
  have HLw4 := Lib.hid (HL2.out.below hb24)
  rw [hZ1] at h4 ⊢
  have HZw4 := Lib.hid h4
  clear hb24 h4 k4 s4 hZ1
  obtain ⟨m1, hm1⟩ : ∃ m, (r1.epoch + 1).toNat = m := ⟨_, rfl⟩
  have g1 := Rt.right_good HOK1.out.right
  have u1 := g1.lo
  have u2 := g1.hi
  have hwr1 : IntKind.i64.wrap (r1.epoch + 1) = (m1 : Int) := by
    rw [show (m1 : Int) = r1.epoch + 1 by omega]
    simp only [IntKind.wrap, IntKind.bits, IntKind.signed]
    first | omega | (simp; omega) | (split <;> omega)
  have hbd1 := HOK1.out.bld (root := 1) (by omega) kn8_pub
  rw [hm1] at hbd1
  have HBD1 := Lib.hid hbd1
  have hks : ∀ x ∈ kn8, x.2.size ≤ 9223372036854775807 := fun x hx => by
    unfold kn8 at hx
    obtain ⟨u, hu, rfl⟩ := List.mem_map.1 hx
    have := whoList_size u hu
    obtain ⟨⟨_, _, _, h3⟩, _⟩ := pkOf_is (u := u) (by omega)
    rw [toL_len] at h3
    show (pkOf u).size ≤ _
    omega
  have HKS := Lib.hid hks
  have HM1 : Hid ((r1.epoch + 1 : Int) = m1 ∧ 1 ≤ m1 ∧ m1 ≤ 8) := Lib.hid (by omega)
  obtain ⟨BM1, hBM1⟩ : ∃ B, builtM (secOf annaB) r1 5 (rootN 1) (signL m1) pkOf = B := ⟨_, rfl⟩
  have HE1 := Lib.hid hBM1
  clear g1 u1 u2 hbd1 hks hm1 hBM1
  have HCa := Lib.hid (fun (W : World) (_ : Below w4.heap.size w4 W) => secretOf8_calls annaB W (by decide))
  have HCb := Lib.hid (fun (W : World) (_ : Below w4.heap.size w4 W) => rootOf8_calls 1 W (by decide) (by decide))
  have HCc := Lib.hid (fun (W : World) (_ : Below w4.heap.size w4 W) => signersOf8_calls m1 W (by have := HM1.out; omega))
  have HCd := Lib.hid (fun (W : World) (_ : Below w4.heap.size w4 W) => known8_calls W)
  have hCe := fun (W : World) (hb : Below w4.heap.size w4 W) {vs vk : Value} (hs : strs W vs (signL m1)) (hk : rowsOf 2 twoV W vk kn8) => build_calls W (secOf annaB) (rootN 1) r1 _ _ vs vk 5 (signL m1) kn8 pkOf (HLw4.out.below hb) hs hk HBD1.out (by decide) (HT.out.below (B4.out.trans (hb.mono B4.out.size))) HKS.out
  simp only [HE1.out] at hCe
  have HCe := Lib.hid hCe
  clear hCe
  go_simp
  go_upto_region 5 with fail
  go_cut [9, 10] from 27 to 37 (fun q er wx => ∃ Zm, q = .pointer (some ⟨Zm, 0, none⟩) ∧ er = .int .i64 0 ∧ Hid (MtOwn w.heap.size w4 wx Zm BM1))
  case first =>
    refine wp_region_G (fun W2 => W2.cell? ⟨Z1, 0, none⟩ = some (.string r1.owner) ∧ W2.cell? ⟨Z1, 1, none⟩ = some (.string r1.file) ∧ W2.cell? ⟨Z1, 2, none⟩ = some (.int .i64 r1.epoch) ∧ W2.cell? ⟨Z1, 3, none⟩ = some (.slice D3 r1.rd.length cD3) ∧ W2.cell? ⟨Z1, 4, none⟩ = some (.slice E3 r1.wr.length cE3)) [13] (by kernel_rfl) ?_
    have HSS : Hid (∀ W2, Below w4.heap.size w4 W2 → (W2.cell? ⟨Z1, 0, none⟩ = some (.string r1.owner) ∧ W2.cell? ⟨Z1, 1, none⟩ = some (.string r1.file) ∧ W2.cell? ⟨Z1, 2, none⟩ = some (.int .i64 r1.epoch) ∧ W2.cell? ⟨Z1, 3, none⟩ = some (.slice D3 r1.rd.length cD3) ∧ W2.cell? ⟨Z1, 4, none⟩ = some (.slice E3 r1.wr.length cE3))) := Lib.hid (fun W2 hb => row5 ((Keep.of_below hb : Keep (fun _ => False) w4 W2).at HZw4.out fun e => e))
    have hb0 : Below w4.heap.size w4 w4.drew := (Below.refl w4.heap.size w4).drew
    obtain ⟨wd, hwd⟩ : ∃ x, w4.drew = x := ⟨_, rfl⟩
    rw [hwd] at hb0 ⊢
    have hS := HSS.out _ hb0
    refine wpAnyG_take (ws := [1,4]) (i := 1) (v := ?ve5a1) at1 (by kernel_rfl) (fun _ _ _ h => h) (Or.inl ⟨by rfl, ?he5a1⟩) (by assumption) ?re5a1
    case he5a1 => (intro w hSw; (try dsimp only at hSw); go_simp; try with_reducible rfl)
    case' re5a1 => skip
    try simp only [Act.put, List.setIfInBounds_toArray, List.set_cons_zero, List.set_cons_succ]
    refine wpAnyG_pure (i := 3) (v := ?ve5a3) at3 (by kernel_rfl) (fun _ _ _ h => h) (Or.inl ⟨by rfl, ?he5a3⟩) (Or.inr (by assumption)) ?re5a3
    case he5a3 => (intro w hSw; (try dsimp only at hSw); go_simp; try with_reducible rfl)
    case' re5a3 => skip
    try simp only [Act.put, List.setIfInBounds_toArray, List.set_cons_zero, List.set_cons_succ]
    refine wpAnyG_take (ws := [1,4]) (i := 4) (v := ?ve5a4) at4 (by kernel_rfl) (fun _ _ _ h => h) (Or.inl ⟨by rfl, ?he5a4⟩) (by assumption) ?re5a4
    case he5a4 => (intro w hSw; (try dsimp only at hSw); go_simp; try with_reducible rfl)
    case' re5a4 => skip
    try simp only [Act.put, List.setIfInBounds_toArray, List.set_cons_zero, List.set_cons_succ]
    refine wpAnyG_pure (i := 5) (v := ?ve5a5) at5 (by kernel_rfl) (fun _ _ _ h => h) (Or.inl ⟨by rfl, ?he5a5⟩) (Or.inr (by assumption)) ?re5a5
    case he5a5 => (intro w hSw; (try dsimp only at hSw); go_simp; try with_reducible rfl)
    case' re5a5 => skip
    try simp only [Act.put, List.setIfInBounds_toArray, List.set_cons_zero, List.set_cons_succ]
    refine wpAnyG_two 0 12 at0 at12 (by kernel_rfl) (fun Kn hK => ?_) (fun Kn hK => ?_)
    · skip
      go_simp
      refine (HCa.out wd hb0).mono ?_
      rintro e x1 ⟨rfl, hq1⟩
      have hb1 := hb0.trans (hq1.mono hb0.size)
      clear hS
      have hS := HSS.out _ hb1
      refine hK.out _ _ (Or.inr hS) ?_
      clear hK Kn
      try simp only [Act.put, List.setIfInBounds_toArray, List.set_cons_zero, List.set_cons_succ]
      refine wpAnyG_two 2 12 at2 at12 (by kernel_rfl) (fun Kn hK => ?_) (fun Kn hK => ?_)
      · skip
        go_simp
        refine (HCb.out x1 hb1).mono ?_
        rintro e x2 ⟨rfl, hq2⟩
        have hb2 := hb1.trans (hq2.mono hb1.size)
        clear hS
        have hS := HSS.out _ hb2
        refine hK.out _ _ (Or.inr hS) ?_
        clear hK Kn
        try simp only [Act.put, List.setIfInBounds_toArray, List.set_cons_zero, List.set_cons_succ]
        refine wpAnyG_two 6 12 at6 at12 (by kernel_rfl) (fun Kn hK => ?_) (fun Kn hK => ?_)
        · skip
          go_simp
          refine (HCc.out x2 hb2).mono ?_
          rintro e x3 ⟨vs, rfl, hos, hq3⟩
          have hb3 := hb2.trans (hq3.mono hb2.size)
          obtain ⟨As, cs, rfl, _, _⟩ := own_slice hos
          have HOS := Lib.hid (strs_own hos)
          clear hos
          clear hS
          have hS := HSS.out _ hb3
          refine hK.out _ _ (Or.inr hS) ?_
          clear hK Kn
          try simp only [Act.put, List.setIfInBounds_toArray, List.set_cons_zero, List.set_cons_succ]
          refine wpAnyG_two 7 12 at7 at12 (by kernel_rfl) (fun Kn hK => ?_) (fun Kn hK => ?_)
          · skip
            go_simp
            refine (HCd.out x3 hb3).mono ?_
            rintro e x4 ⟨vk, rfl, hok, hq4⟩
            have hb4 := hb3.trans (hq4.mono hb3.size)
            have HOS := Lib.hid (HOS.out.below hq4)
            obtain ⟨Ak, ck, rfl, _, _⟩ := own_slice hok
            have HKN := Lib.hid (rows_own hok)
            clear hok
            clear hS
            have hS := HSS.out _ hb4
            refine hK.out _ _ (Or.inr hS) ?_
            clear hK Kn
            try simp only [Act.put, List.setIfInBounds_toArray, List.set_cons_zero, List.set_cons_succ]
            refine wpAnyG_two 8 12 at8 at12 (by kernel_rfl) (fun Kn hK => ?_) (fun Kn hK => ?_)
            · skip
              go_simp
              refine (HCe.out x4 hb4 HOS.out HKN.out).mono ?_
              rintro e x5 ⟨⟨vr, vw, vv, vbb, rfl, hmo⟩, hq5⟩
              have hb5 := hb4.trans (hq5.mono hb4.size)
              have HOS := Lib.hid (HOS.out.below hq5)
              have HKN := Lib.hid (HKN.out.below hq5)
              have HBB : Hid (w4.heap.size ≤ _) := Lib.hid hb4.size
              obtain ⟨Am, cm1, rfl, _, _⟩ := own_slice hmo.rd
              obtain ⟨Bm, cm2, rfl, _, _⟩ := own_slice hmo.wr
              obtain ⟨Cm, cm3, rfl, _, _⟩ := own_slice hmo.vf
              obtain ⟨Dm, cm4, rfl, _, _⟩ := own_slice hmo.bl
              have HMB := Lib.hid hmo
              clear hmo
              clear hS
              have hS := HSS.out _ hb5
              refine hK.out _ _ (Or.inr hS) ?_
              clear hK Kn
              try simp only [Act.put, List.setIfInBounds_toArray, List.set_cons_zero, List.set_cons_succ]
              refine wpAnyG_pure (i := 9) (v := ?ve5r69) at9 (by kernel_rfl) (fun _ _ _ h => h) (Or.inl ⟨by rfl, ?he5r69⟩) (Or.inr (by assumption)) ?re5r69
              case he5r69 => (intro w hSw; (try dsimp only at hSw); go_simp; try with_reducible rfl)
              case' re5r69 => skip
              try simp only [Act.put, List.setIfInBounds_toArray, List.set_cons_zero, List.set_cons_succ]
              refine wpAnyG_pure (i := 10) (v := ?ve5r610) at10 (by kernel_rfl) (fun _ _ _ h => h) (Or.inl ⟨by rfl, ?he5r610⟩) (Or.inr (by assumption)) ?re5r610
              case he5r610 => (intro w hSw; (try dsimp only at hSw); go_simp; try with_reducible rfl)
              case' re5r610 => skip
              try simp only [Act.put, List.setIfInBounds_toArray, List.set_cons_zero, List.set_cons_succ]
              refine wpAnyG_pure (i := 11) (v := ?ve5r611) at11 (by kernel_rfl) (fun _ _ _ h => h) (Or.inl ⟨by rfl, ?he5r611⟩) (Or.inr (by assumption)) ?re5r611
              case he5r611 => (intro w hSw; (try dsimp only at hSw); go_simp; try with_reducible rfl)
              case' re5r611 => skip
              try simp only [Act.put, List.setIfInBounds_toArray, List.set_cons_zero, List.set_cons_succ]
              refine wpAnyG_one 12 at12 (by kernel_rfl) (fun Kn hK => ?_)
              go_simp
              obtain ⟨z7, hzz7⟩ : ∃ z, x5.heap.size = z := ⟨_, rfl⟩
              obtain ⟨x7, hx7⟩ : ∃ x, x5.alloc (.cells #[.string ⟨#[]⟩, .string ⟨#[]⟩, .int .i64 0, .slice none 0 0, .slice none 0 0, .int .u64 0, .slice none 0 0, .slice none 0 0, .string ⟨#[]⟩] 42) = x := ⟨_, rfl⟩
              have hz7 : x7.heap[z7]? = some (.cells #[.string ⟨#[]⟩, .string ⟨#[]⟩, .int .i64 0, .slice none 0 0, .slice none 0 0, .int .u64 0, .slice none 0 0, .slice none 0 0, .string ⟨#[]⟩] 42 (0, 0)) := by rw [← hx7, ← hzz7, get_alloc, if_pos rfl]
              have hq7 : Below x5.heap.size x5 x7 := by rw [← hx7]; exact (Below.refl _ x5).alloc (Nat.le_refl _) _
              have HZL : Hid (w4.heap.size ≤ z7) := Lib.hid (by have h1 := (Below.refl w4.heap.size w4).size; have h2 := hb5.size; omega)
              rw [hx7, hzz7]
              have hb7 := hb5.trans (hq7.mono hb5.size)
              have HOS := Lib.hid (HOS.out.below hq7)
              have HKN := Lib.hid (HKN.out.below hq7)
              have HMB := Lib.hid (HMB.out.below hq7)
              clear hS
              have hS := HSS.out _ hb7
              refine hK.out _ _ (Or.inr hS) ?_
              clear hK Kn
              try simp only [Act.put, List.setIfInBounds_toArray, List.set_cons_zero, List.set_cons_succ]
              refine wpAnyG_one 13 at13 (by kernel_rfl) (fun Kn hK => ?_)
              refine step_store_all rfl _ _ _ rfl rfl rfl _ _ hz7 info_mt rfl (by simp [Value.oneCell']) ?_
              intro y9 h9 k9 s9
              refine hK.out _ _ (Or.inl (by kernel_rfl)) ?_
              have HLEAF : Hid (MtOwn w.heap.size w4 y9 z7 BM1) := Lib.hid ⟨_, _, _, _, h9, (HMB.out.store hz7 k9).lower (Nat.le_trans B4.out.size HBB.out), Nat.le_trans B4.out.size HZL.out, below_at ((Below.refl w4.heap.size w4).trans (hb7.mono (Below.refl w4.heap.size w4).size)) k9 HZL.out⟩
              clear hK Kn h9 k9 s9 hS
              try simp only [Act.put, List.setIfInBounds_toArray, List.set_cons_zero, List.set_cons_succ]
              refine wpAnyG_one 14 at14 (by kernel_rfl) (fun Kn hK => ?_)
              go_simp
              refine hK.out _ _ (Or.inl (by kernel_rfl)) ?_
              clear hK Kn
              refine wpAnyG_done (by kernel_rfl) ?_
              try simp only [Act.put, List.setIfInBounds_toArray, List.set_cons_zero, List.set_cons_succ]
              go_wp2_with fail
              go_meet
              exact ⟨_, rfl, rfl, HLEAF⟩
            · skip
              go_simp
              obtain ⟨z8, hzz8⟩ : ∃ z, x4.heap.size = z := ⟨_, rfl⟩
              obtain ⟨x8, hx8⟩ : ∃ x, x4.alloc (.cells #[.string ⟨#[]⟩, .string ⟨#[]⟩, .int .i64 0, .slice none 0 0, .slice none 0 0, .int .u64 0, .slice none 0 0, .slice none 0 0, .string ⟨#[]⟩] 42) = x := ⟨_, rfl⟩
              have hz8 : x8.heap[z8]? = some (.cells #[.string ⟨#[]⟩, .string ⟨#[]⟩, .int .i64 0, .slice none 0 0, .slice none 0 0, .int .u64 0, .slice none 0 0, .slice none 0 0, .string ⟨#[]⟩] 42 (0, 0)) := by rw [← hx8, ← hzz8, get_alloc, if_pos rfl]
              have hq8 : Below x4.heap.size x4 x8 := by rw [← hx8]; exact (Below.refl _ x4).alloc (Nat.le_refl _) _
              have HZL : Hid (w4.heap.size ≤ z8) := Lib.hid (by have h1 := (Below.refl w4.heap.size w4).size; have h2 := hb4.size; omega)
              rw [hx8, hzz8]
              have hb8 := hb4.trans (hq8.mono hb4.size)
              have HOS := Lib.hid (HOS.out.below hq8)
              have HKN := Lib.hid (HKN.out.below hq8)
              clear hS
              have hS := HSS.out _ hb8
              refine hK.out _ _ (Or.inr hS) ?_
              clear hK Kn
              try simp only [Act.put, List.setIfInBounds_toArray, List.set_cons_zero, List.set_cons_succ]
              refine wpAnyG_one 8 at8 (by kernel_rfl) (fun Kn hK => ?_)
              go_simp
              refine (HCe.out x8 hb8 HOS.out HKN.out).mono ?_
              rintro e x9 ⟨⟨vr, vw, vv, vbb, rfl, hmo⟩, hq9⟩
              have hb9 := hb8.trans (hq9.mono hb8.size)
              have HOS := Lib.hid (HOS.out.below hq9)
              have HKN := Lib.hid (HKN.out.below hq9)
              have hz9 := (Keep.of_below hq9 : Keep (fun _ => False) x8 x9).at hz8 fun e => e
              have HBB : Hid (w4.heap.size ≤ _) := Lib.hid hb8.size
              obtain ⟨Am, cm1, rfl, _, _⟩ := own_slice hmo.rd
              obtain ⟨Bm, cm2, rfl, _, _⟩ := own_slice hmo.wr
              obtain ⟨Cm, cm3, rfl, _, _⟩ := own_slice hmo.vf
              obtain ⟨Dm, cm4, rfl, _, _⟩ := own_slice hmo.bl
              have HMB := Lib.hid hmo
              clear hmo
              clear hS
              have hS := HSS.out _ hb9
              refine hK.out _ _ (Or.inr hS) ?_
              clear hK Kn
              try simp only [Act.put, List.setIfInBounds_toArray, List.set_cons_zero, List.set_cons_succ]
              refine wpAnyG_pure (i := 9) (v := ?ve5r109) at9 (by kernel_rfl) (fun _ _ _ h => h) (Or.inl ⟨by rfl, ?he5r109⟩) (Or.inr (by assumption)) ?re5r109
              case he5r109 => (intro w hSw; (try dsimp only at hSw); go_simp; try with_reducible rfl)
              case' re5r109 => skip
              try simp only [Act.put, List.setIfInBounds_toArray, List.set_cons_zero, List.set_cons_succ]
              refine wpAnyG_pure (i := 10) (v := ?ve5r1010) at10 (by kernel_rfl) (fun _ _ _ h => h) (Or.inl ⟨by rfl, ?he5r1010⟩) (Or.inr (by assumption)) ?re5r1010
              case he5r1010 => (intro w hSw; (try dsimp only at hSw); go_simp; try with_reducible rfl)
              case' re5r1010 => skip
              try simp only [Act.put, List.setIfInBounds_toArray, List.set_cons_zero, List.set_cons_succ]
              refine wpAnyG_pure (i := 11) (v := ?ve5r1011) at11 (by kernel_rfl) (fun _ _ _ h => h) (Or.inl ⟨by rfl, ?he5r1011⟩) (Or.inr (by assumption)) ?re5r1011
              case he5r1011 => (intro w hSw; (try dsimp only at hSw); go_simp; try with_reducible rfl)
              case' re5r1011 => skip
              try simp only [Act.put, List.setIfInBounds_toArray, List.set_cons_zero, List.set_cons_succ]
              refine wpAnyG_one 13 at13 (by kernel_rfl) (fun Kn hK => ?_)
              refine step_store_all rfl _ _ _ rfl rfl rfl _ _ hz9 info_mt rfl (by simp [Value.oneCell']) ?_
              intro y9 h9 k9 s9
              refine hK.out _ _ (Or.inl (by kernel_rfl)) ?_
              have HLEAF : Hid (MtOwn w.heap.size w4 y9 z8 BM1) := Lib.hid ⟨_, _, _, _, h9, (HMB.out.store hz9 k9).lower (Nat.le_trans B4.out.size HBB.out), Nat.le_trans B4.out.size HZL.out, below_at ((Below.refl w4.heap.size w4).trans (hb9.mono (Below.refl w4.heap.size w4).size)) k9 HZL.out⟩
              clear hK Kn h9 k9 s9 hS
              try simp only [Act.put, List.setIfInBounds_toArray, List.set_cons_zero, List.set_cons_succ]
              refine wpAnyG_one 14 at14 (by kernel_rfl) (fun Kn hK => ?_)
              go_simp
              refine hK.out _ _ (Or.inl (by kernel_rfl)) ?_
              clear hK Kn
              refine wpAnyG_done (by kernel_rfl) ?_
              try simp only [Act.put, List.setIfInBounds_toArray, List.set_cons_zero, List.set_cons_succ]
              go_wp2_with fail
              go_meet
              exact ⟨_, rfl, rfl, HLEAF⟩
          · skip
            go_simp
            obtain ⟨z11, hzz11⟩ : ∃ z, x3.heap.size = z := ⟨_, rfl⟩
            obtain ⟨x11, hx11⟩ : ∃ x, x3.alloc (.cells #[.string ⟨#[]⟩, .string ⟨#[]⟩, .int .i64 0, .slice none 0 0, .slice none 0 0, .int .u64 0, .slice none 0 0, .slice none 0 0, .string ⟨#[]⟩] 42) = x := ⟨_, rfl⟩
            have hz11 : x11.heap[z11]? = some (.cells #[.string ⟨#[]⟩, .string ⟨#[]⟩, .int .i64 0, .slice none 0 0, .slice none 0 0, .int .u64 0, .slice none 0 0, .slice none 0 0, .string ⟨#[]⟩] 42 (0, 0)) := by rw [← hx11, ← hzz11, get_alloc, if_pos rfl]
            have hq11 : Below x3.heap.size x3 x11 := by rw [← hx11]; exact (Below.refl _ x3).alloc (Nat.le_refl _) _
            have HZL : Hid (w4.heap.size ≤ z11) := Lib.hid (by have h1 := (Below.refl w4.heap.size w4).size; have h2 := hb3.size; omega)
            rw [hx11, hzz11]
            have hb11 := hb3.trans (hq11.mono hb3.size)
            have HOS := Lib.hid (HOS.out.below hq11)
            clear hS
            have hS := HSS.out _ hb11
            refine hK.out _ _ (Or.inr hS) ?_
            clear hK Kn
            try simp only [Act.put, List.setIfInBounds_toArray, List.set_cons_zero, List.set_cons_succ]
            refine wpAnyG_one 7 at7 (by kernel_rfl) (fun Kn hK => ?_)
            go_simp
            refine (HCd.out x11 hb11).mono ?_
            rintro e x12 ⟨vk, rfl, hok, hq12⟩
            have hb12 := hb11.trans (hq12.mono hb11.size)
            have HOS := Lib.hid (HOS.out.below hq12)
            have hz12 := (Keep.of_below hq12 : Keep (fun _ => False) x11 x12).at hz11 fun e => e
            obtain ⟨Ak, ck, rfl, _, _⟩ := own_slice hok
            have HKN := Lib.hid (rows_own hok)
            clear hok
            clear hS
            have hS := HSS.out _ hb12
            refine hK.out _ _ (Or.inr hS) ?_
            clear hK Kn
            try simp only [Act.put, List.setIfInBounds_toArray, List.set_cons_zero, List.set_cons_succ]
            refine wpAnyG_one 8 at8 (by kernel_rfl) (fun Kn hK => ?_)
            go_simp
            refine (HCe.out x12 hb12 HOS.out HKN.out).mono ?_
            rintro e x13 ⟨⟨vr, vw, vv, vbb, rfl, hmo⟩, hq13⟩
            have hb13 := hb12.trans (hq13.mono hb12.size)
            have HOS := Lib.hid (HOS.out.below hq13)
            have HKN := Lib.hid (HKN.out.below hq13)
            have hz13 := (Keep.of_below hq13 : Keep (fun _ => False) x12 x13).at hz12 fun e => e
            have HBB : Hid (w4.heap.size ≤ _) := Lib.hid hb12.size
            obtain ⟨Am, cm1, rfl, _, _⟩ := own_slice hmo.rd
            obtain ⟨Bm, cm2, rfl, _, _⟩ := own_slice hmo.wr
            obtain ⟨Cm, cm3, rfl, _, _⟩ := own_slice hmo.vf
            obtain ⟨Dm, cm4, rfl, _, _⟩ := own_slice hmo.bl
            have HMB := Lib.hid hmo
            clear hmo
            clear hS
            have hS := HSS.out _ hb13
            refine hK.out _ _ (Or.inr hS) ?_
            clear hK Kn
            try simp only [Act.put, List.setIfInBounds_toArray, List.set_cons_zero, List.set_cons_succ]
            refine wpAnyG_pure (i := 9) (v := ?ve5r149) at9 (by kernel_rfl) (fun _ _ _ h => h) (Or.inl ⟨by rfl, ?he5r149⟩) (Or.inr (by assumption)) ?re5r149
            case he5r149 => (intro w hSw; (try dsimp only at hSw); go_simp; try with_reducible rfl)
            case' re5r149 => skip
            try simp only [Act.put, List.setIfInBounds_toArray, List.set_cons_zero, List.set_cons_succ]
            refine wpAnyG_pure (i := 10) (v := ?ve5r1410) at10 (by kernel_rfl) (fun _ _ _ h => h) (Or.inl ⟨by rfl, ?he5r1410⟩) (Or.inr (by assumption)) ?re5r1410
            case he5r1410 => (intro w hSw; (try dsimp only at hSw); go_simp; try with_reducible rfl)
            case' re5r1410 => skip
            try simp only [Act.put, List.setIfInBounds_toArray, List.set_cons_zero, List.set_cons_succ]
            refine wpAnyG_pure (i := 11) (v := ?ve5r1411) at11 (by kernel_rfl) (fun _ _ _ h => h) (Or.inl ⟨by rfl, ?he5r1411⟩) (Or.inr (by assumption)) ?re5r1411
            case he5r1411 => (intro w hSw; (try dsimp only at hSw); go_simp; try with_reducible rfl)
            case' re5r1411 => skip
            try simp only [Act.put, List.setIfInBounds_toArray, List.set_cons_zero, List.set_cons_succ]
            refine wpAnyG_one 13 at13 (by kernel_rfl) (fun Kn hK => ?_)
            refine step_store_all rfl _ _ _ rfl rfl rfl _ _ hz13 info_mt rfl (by simp [Value.oneCell']) ?_
            intro y9 h9 k9 s9
            refine hK.out _ _ (Or.inl (by kernel_rfl)) ?_
            have HLEAF : Hid (MtOwn w.heap.size w4 y9 z11 BM1) := Lib.hid ⟨_, _, _, _, h9, (HMB.out.store hz13 k9).lower (Nat.le_trans B4.out.size HBB.out), Nat.le_trans B4.out.size HZL.out, below_at ((Below.refl w4.heap.size w4).trans (hb13.mono (Below.refl w4.heap.size w4).size)) k9 HZL.out⟩
            clear hK Kn h9 k9 s9 hS
            try simp only [Act.put, List.setIfInBounds_toArray, List.set_cons_zero, List.set_cons_succ]
            refine wpAnyG_one 14 at14 (by kernel_rfl) (fun Kn hK => ?_)
            go_simp
            refine hK.out _ _ (Or.inl (by kernel_rfl)) ?_
            clear hK Kn
            refine wpAnyG_done (by kernel_rfl) ?_
            try simp only [Act.put, List.setIfInBounds_toArray, List.set_cons_zero, List.set_cons_succ]
            go_wp2_with fail
            go_meet
            exact ⟨_, rfl, rfl, HLEAF⟩
        · skip
          go_simp
          obtain ⟨z15, hzz15⟩ : ∃ z, x2.heap.size = z := ⟨_, rfl⟩
          obtain ⟨x15, hx15⟩ : ∃ x, x2.alloc (.cells #[.string ⟨#[]⟩, .string ⟨#[]⟩, .int .i64 0, .slice none 0 0, .slice none 0 0, .int .u64 0, .slice none 0 0, .slice none 0 0, .string ⟨#[]⟩] 42) = x := ⟨_, rfl⟩
          have hz15 : x15.heap[z15]? = some (.cells #[.string ⟨#[]⟩, .string ⟨#[]⟩, .int .i64 0, .slice none 0 0, .slice none 0 0, .int .u64 0, .slice none 0 0, .slice none 0 0, .string ⟨#[]⟩] 42 (0, 0)) := by rw [← hx15, ← hzz15, get_alloc, if_pos rfl]
          have hq15 : Below x2.heap.size x2 x15 := by rw [← hx15]; exact (Below.refl _ x2).alloc (Nat.le_refl _) _
          have HZL : Hid (w4.heap.size ≤ z15) := Lib.hid (by have h1 := (Below.refl w4.heap.size w4).size; have h2 := hb2.size; omega)
          rw [hx15, hzz15]
          have hb15 := hb2.trans (hq15.mono hb2.size)
          clear hS
          have hS := HSS.out _ hb15
          refine hK.out _ _ (Or.inr hS) ?_
          clear hK Kn
          try simp only [Act.put, List.setIfInBounds_toArray, List.set_cons_zero, List.set_cons_succ]
          refine wpAnyG_one 6 at6 (by kernel_rfl) (fun Kn hK => ?_)
          go_simp
          refine (HCc.out x15 hb15).mono ?_
          rintro e x16 ⟨vs, rfl, hos, hq16⟩
          have hb16 := hb15.trans (hq16.mono hb15.size)
          have hz16 := (Keep.of_below hq16 : Keep (fun _ => False) x15 x16).at hz15 fun e => e
          obtain ⟨As, cs, rfl, _, _⟩ := own_slice hos
          have HOS := Lib.hid (strs_own hos)
          clear hos
          clear hS
          have hS := HSS.out _ hb16
          refine hK.out _ _ (Or.inr hS) ?_
          clear hK Kn
          try simp only [Act.put, List.setIfInBounds_toArray, List.set_cons_zero, List.set_cons_succ]
          refine wpAnyG_one 7 at7 (by kernel_rfl) (fun Kn hK => ?_)
          go_simp
          refine (HCd.out x16 hb16).mono ?_
          rintro e x17 ⟨vk, rfl, hok, hq17⟩
          have hb17 := hb16.trans (hq17.mono hb16.size)
          have HOS := Lib.hid (HOS.out.below hq17)
          have hz17 := (Keep.of_below hq17 : Keep (fun _ => False) x16 x17).at hz16 fun e => e
          obtain ⟨Ak, ck, rfl, _, _⟩ := own_slice hok
          have HKN := Lib.hid (rows_own hok)
          clear hok
          clear hS
          have hS := HSS.out _ hb17
          refine hK.out _ _ (Or.inr hS) ?_
          clear hK Kn
          try simp only [Act.put, List.setIfInBounds_toArray, List.set_cons_zero, List.set_cons_succ]
          refine wpAnyG_one 8 at8 (by kernel_rfl) (fun Kn hK => ?_)
          go_simp
          refine (HCe.out x17 hb17 HOS.out HKN.out).mono ?_
          rintro e x18 ⟨⟨vr, vw, vv, vbb, rfl, hmo⟩, hq18⟩
          have hb18 := hb17.trans (hq18.mono hb17.size)
          have HOS := Lib.hid (HOS.out.below hq18)
          have HKN := Lib.hid (HKN.out.below hq18)
          have hz18 := (Keep.of_below hq18 : Keep (fun _ => False) x17 x18).at hz17 fun e => e
          have HBB : Hid (w4.heap.size ≤ _) := Lib.hid hb17.size
          obtain ⟨Am, cm1, rfl, _, _⟩ := own_slice hmo.rd
          obtain ⟨Bm, cm2, rfl, _, _⟩ := own_slice hmo.wr
          obtain ⟨Cm, cm3, rfl, _, _⟩ := own_slice hmo.vf
          obtain ⟨Dm, cm4, rfl, _, _⟩ := own_slice hmo.bl
          have HMB := Lib.hid hmo
          clear hmo
          clear hS
          have hS := HSS.out _ hb18
          refine hK.out _ _ (Or.inr hS) ?_
          clear hK Kn
          try simp only [Act.put, List.setIfInBounds_toArray, List.set_cons_zero, List.set_cons_succ]
          refine wpAnyG_pure (i := 9) (v := ?ve5r199) at9 (by kernel_rfl) (fun _ _ _ h => h) (Or.inl ⟨by rfl, ?he5r199⟩) (Or.inr (by assumption)) ?re5r199
          case he5r199 => (intro w hSw; (try dsimp only at hSw); go_simp; try with_reducible rfl)
          case' re5r199 => skip
          try simp only [Act.put, List.setIfInBounds_toArray, List.set_cons_zero, List.set_cons_succ]
          refine wpAnyG_pure (i := 10) (v := ?ve5r1910) at10 (by kernel_rfl) (fun _ _ _ h => h) (Or.inl ⟨by rfl, ?he5r1910⟩) (Or.inr (by assumption)) ?re5r1910
          case he5r1910 => (intro w hSw; (try dsimp only at hSw); go_simp; try with_reducible rfl)
          case' re5r1910 => skip
          try simp only [Act.put, List.setIfInBounds_toArray, List.set_cons_zero, List.set_cons_succ]
          refine wpAnyG_pure (i := 11) (v := ?ve5r1911) at11 (by kernel_rfl) (fun _ _ _ h => h) (Or.inl ⟨by rfl, ?he5r1911⟩) (Or.inr (by assumption)) ?re5r1911
          case he5r1911 => (intro w hSw; (try dsimp only at hSw); go_simp; try with_reducible rfl)
          case' re5r1911 => skip
          try simp only [Act.put, List.setIfInBounds_toArray, List.set_cons_zero, List.set_cons_succ]
          refine wpAnyG_one 13 at13 (by kernel_rfl) (fun Kn hK => ?_)
          refine step_store_all rfl _ _ _ rfl rfl rfl _ _ hz18 info_mt rfl (by simp [Value.oneCell']) ?_
          intro y9 h9 k9 s9
          refine hK.out _ _ (Or.inl (by kernel_rfl)) ?_
          have HLEAF : Hid (MtOwn w.heap.size w4 y9 z15 BM1) := Lib.hid ⟨_, _, _, _, h9, (HMB.out.store hz18 k9).lower (Nat.le_trans B4.out.size HBB.out), Nat.le_trans B4.out.size HZL.out, below_at ((Below.refl w4.heap.size w4).trans (hb18.mono (Below.refl w4.heap.size w4).size)) k9 HZL.out⟩
          clear hK Kn h9 k9 s9 hS
          try simp only [Act.put, List.setIfInBounds_toArray, List.set_cons_zero, List.set_cons_succ]
          refine wpAnyG_one 14 at14 (by kernel_rfl) (fun Kn hK => ?_)
          go_simp
          refine hK.out _ _ (Or.inl (by kernel_rfl)) ?_
          clear hK Kn
          refine wpAnyG_done (by kernel_rfl) ?_
          try simp only [Act.put, List.setIfInBounds_toArray, List.set_cons_zero, List.set_cons_succ]
          go_wp2_with fail
          go_meet
          exact ⟨_, rfl, rfl, HLEAF⟩
      · skip
        go_simp
        obtain ⟨z20, hzz20⟩ : ∃ z, x1.heap.size = z := ⟨_, rfl⟩
        obtain ⟨x20, hx20⟩ : ∃ x, x1.alloc (.cells #[.string ⟨#[]⟩, .string ⟨#[]⟩, .int .i64 0, .slice none 0 0, .slice none 0 0, .int .u64 0, .slice none 0 0, .slice none 0 0, .string ⟨#[]⟩] 42) = x := ⟨_, rfl⟩
        have hz20 : x20.heap[z20]? = some (.cells #[.string ⟨#[]⟩, .string ⟨#[]⟩, .int .i64 0, .slice none 0 0, .slice none 0 0, .int .u64 0, .slice none 0 0, .slice none 0 0, .string ⟨#[]⟩] 42 (0, 0)) := by rw [← hx20, ← hzz20, get_alloc, if_pos rfl]
        have hq20 : Below x1.heap.size x1 x20 := by rw [← hx20]; exact (Below.refl _ x1).alloc (Nat.le_refl _) _
        have HZL : Hid (w4.heap.size ≤ z20) := Lib.hid (by have h1 := (Below.refl w4.heap.size w4).size; have h2 := hb1.size; omega)
        rw [hx20, hzz20]
        have hb20 := hb1.trans (hq20.mono hb1.size)
        clear hS
        have hS := HSS.out _ hb20
        refine hK.out _ _ (Or.inr hS) ?_
        clear hK Kn
        try simp only [Act.put, List.setIfInBounds_toArray, List.set_cons_zero, List.set_cons_succ]
        refine wpAnyG_one 2 at2 (by kernel_rfl) (fun Kn hK => ?_)
        go_simp
        refine (HCb.out x20 hb20).mono ?_
        rintro e x21 ⟨rfl, hq21⟩
        have hb21 := hb20.trans (hq21.mono hb20.size)
        have hz21 := (Keep.of_below hq21 : Keep (fun _ => False) x20 x21).at hz20 fun e => e
        clear hS
        have hS := HSS.out _ hb21
        refine hK.out _ _ (Or.inr hS) ?_
        clear hK Kn
        try simp only [Act.put, List.setIfInBounds_toArray, List.set_cons_zero, List.set_cons_succ]
        refine wpAnyG_one 6 at6 (by kernel_rfl) (fun Kn hK => ?_)
        go_simp
        refine (HCc.out x21 hb21).mono ?_
        rintro e x22 ⟨vs, rfl, hos, hq22⟩
        have hb22 := hb21.trans (hq22.mono hb21.size)
        have hz22 := (Keep.of_below hq22 : Keep (fun _ => False) x21 x22).at hz21 fun e => e
        obtain ⟨As, cs, rfl, _, _⟩ := own_slice hos
        have HOS := Lib.hid (strs_own hos)
        clear hos
        clear hS
        have hS := HSS.out _ hb22
        refine hK.out _ _ (Or.inr hS) ?_
        clear hK Kn
        try simp only [Act.put, List.setIfInBounds_toArray, List.set_cons_zero, List.set_cons_succ]
        refine wpAnyG_one 7 at7 (by kernel_rfl) (fun Kn hK => ?_)
        go_simp
        refine (HCd.out x22 hb22).mono ?_
        rintro e x23 ⟨vk, rfl, hok, hq23⟩
        have hb23 := hb22.trans (hq23.mono hb22.size)
        have HOS := Lib.hid (HOS.out.below hq23)
        have hz23 := (Keep.of_below hq23 : Keep (fun _ => False) x22 x23).at hz22 fun e => e
        obtain ⟨Ak, ck, rfl, _, _⟩ := own_slice hok
        have HKN := Lib.hid (rows_own hok)
        clear hok
        clear hS
        have hS := HSS.out _ hb23
        refine hK.out _ _ (Or.inr hS) ?_
        clear hK Kn
        try simp only [Act.put, List.setIfInBounds_toArray, List.set_cons_zero, List.set_cons_succ]
        refine wpAnyG_one 8 at8 (by kernel_rfl) (fun Kn hK => ?_)
        go_simp
        refine (HCe.out x23 hb23 HOS.out HKN.out).mono ?_
        rintro e x24 ⟨⟨vr, vw, vv, vbb, rfl, hmo⟩, hq24⟩
        have hb24 := hb23.trans (hq24.mono hb23.size)
        have HOS := Lib.hid (HOS.out.below hq24)
        have HKN := Lib.hid (HKN.out.below hq24)
        have hz24 := (Keep.of_below hq24 : Keep (fun _ => False) x23 x24).at hz23 fun e => e
        have HBB : Hid (w4.heap.size ≤ _) := Lib.hid hb23.size
        obtain ⟨Am, cm1, rfl, _, _⟩ := own_slice hmo.rd
        obtain ⟨Bm, cm2, rfl, _, _⟩ := own_slice hmo.wr
        obtain ⟨Cm, cm3, rfl, _, _⟩ := own_slice hmo.vf
        obtain ⟨Dm, cm4, rfl, _, _⟩ := own_slice hmo.bl
        have HMB := Lib.hid hmo
        clear hmo
        clear hS
        have hS := HSS.out _ hb24
        refine hK.out _ _ (Or.inr hS) ?_
        clear hK Kn
        try simp only [Act.put, List.setIfInBounds_toArray, List.set_cons_zero, List.set_cons_succ]
        refine wpAnyG_pure (i := 9) (v := ?ve5r259) at9 (by kernel_rfl) (fun _ _ _ h => h) (Or.inl ⟨by rfl, ?he5r259⟩) (Or.inr (by assumption)) ?re5r259
        case he5r259 => (intro w hSw; (try dsimp only at hSw); go_simp; try with_reducible rfl)
        case' re5r259 => skip
        try simp only [Act.put, List.setIfInBounds_toArray, List.set_cons_zero, List.set_cons_succ]
        refine wpAnyG_pure (i := 10) (v := ?ve5r2510) at10 (by kernel_rfl) (fun _ _ _ h => h) (Or.inl ⟨by rfl, ?he5r2510⟩) (Or.inr (by assumption)) ?re5r2510
        case he5r2510 => (intro w hSw; (try dsimp only at hSw); go_simp; try with_reducible rfl)
        case' re5r2510 => skip
        try simp only [Act.put, List.setIfInBounds_toArray, List.set_cons_zero, List.set_cons_succ]
        refine wpAnyG_pure (i := 11) (v := ?ve5r2511) at11 (by kernel_rfl) (fun _ _ _ h => h) (Or.inl ⟨by rfl, ?he5r2511⟩) (Or.inr (by assumption)) ?re5r2511
        case he5r2511 => (intro w hSw; (try dsimp only at hSw); go_simp; try with_reducible rfl)
        case' re5r2511 => skip
        try simp only [Act.put, List.setIfInBounds_toArray, List.set_cons_zero, List.set_cons_succ]
        refine wpAnyG_one 13 at13 (by kernel_rfl) (fun Kn hK => ?_)
        refine step_store_all rfl _ _ _ rfl rfl rfl _ _ hz24 info_mt rfl (by simp [Value.oneCell']) ?_
        intro y9 h9 k9 s9
        refine hK.out _ _ (Or.inl (by kernel_rfl)) ?_
        have HLEAF : Hid (MtOwn w.heap.size w4 y9 z20 BM1) := Lib.hid ⟨_, _, _, _, h9, (HMB.out.store hz24 k9).lower (Nat.le_trans B4.out.size HBB.out), Nat.le_trans B4.out.size HZL.out, below_at ((Below.refl w4.heap.size w4).trans (hb24.mono (Below.refl w4.heap.size w4).size)) k9 HZL.out⟩
        clear hK Kn h9 k9 s9 hS
        try simp only [Act.put, List.setIfInBounds_toArray, List.set_cons_zero, List.set_cons_succ]
        refine wpAnyG_one 14 at14 (by kernel_rfl) (fun Kn hK => ?_)
        go_simp
        refine hK.out _ _ (Or.inl (by kernel_rfl)) ?_
        clear hK Kn
        refine wpAnyG_done (by kernel_rfl) ?_
        try simp only [Act.put, List.setIfInBounds_toArray, List.set_cons_zero, List.set_cons_succ]
        go_wp2_with fail
        go_meet
        exact ⟨_, rfl, rfl, HLEAF⟩
    · skip
      go_simp
      obtain ⟨z26, hzz26⟩ : ∃ z, wd.heap.size = z := ⟨_, rfl⟩
      obtain ⟨x26, hx26⟩ : ∃ x, wd.alloc (.cells #[.string ⟨#[]⟩, .string ⟨#[]⟩, .int .i64 0, .slice none 0 0, .slice none 0 0, .int .u64 0, .slice none 0 0, .slice none 0 0, .string ⟨#[]⟩] 42) = x := ⟨_, rfl⟩
      have hz26 : x26.heap[z26]? = some (.cells #[.string ⟨#[]⟩, .string ⟨#[]⟩, .int .i64 0, .slice none 0 0, .slice none 0 0, .int .u64 0, .slice none 0 0, .slice none 0 0, .string ⟨#[]⟩] 42 (0, 0)) := by rw [← hx26, ← hzz26, get_alloc, if_pos rfl]
      have hq26 : Below wd.heap.size wd x26 := by rw [← hx26]; exact (Below.refl _ wd).alloc (Nat.le_refl _) _
      have HZL : Hid (w4.heap.size ≤ z26) := Lib.hid (by have h1 := (Below.refl w4.heap.size w4).size; have h2 := hb0.size; omega)
      rw [hx26, hzz26]
      have hb26 := hb0.trans (hq26.mono hb0.size)
      clear hS
      have hS := HSS.out _ hb26
      refine hK.out _ _ (Or.inr hS) ?_
      clear hK Kn
      try simp only [Act.put, List.setIfInBounds_toArray, List.set_cons_zero, List.set_cons_succ]
      refine wpAnyG_one 0 at0 (by kernel_rfl) (fun Kn hK => ?_)
      go_simp
      refine (HCa.out x26 hb26).mono ?_
      rintro e x27 ⟨rfl, hq27⟩
      have hb27 := hb26.trans (hq27.mono hb26.size)
      have hz27 := (Keep.of_below hq27 : Keep (fun _ => False) x26 x27).at hz26 fun e => e
      clear hS
      have hS := HSS.out _ hb27
      refine hK.out _ _ (Or.inr hS) ?_
      clear hK Kn
      try simp only [Act.put, List.setIfInBounds_toArray, List.set_cons_zero, List.set_cons_succ]
      refine wpAnyG_one 2 at2 (by kernel_rfl) (fun Kn hK => ?_)
      go_simp
      refine (HCb.out x27 hb27).mono ?_
      rintro e x28 ⟨rfl, hq28⟩
      have hb28 := hb27.trans (hq28.mono hb27.size)
      have hz28 := (Keep.of_below hq28 : Keep (fun _ => False) x27 x28).at hz27 fun e => e
      clear hS
      have hS := HSS.out _ hb28
      refine hK.out _ _ (Or.inr hS) ?_
      clear hK Kn
      try simp only [Act.put, List.setIfInBounds_toArray, List.set_cons_zero, List.set_cons_succ]
      refine wpAnyG_one 6 at6 (by kernel_rfl) (fun Kn hK => ?_)
      go_simp
      refine (HCc.out x28 hb28).mono ?_
      rintro e x29 ⟨vs, rfl, hos, hq29⟩
      have hb29 := hb28.trans (hq29.mono hb28.size)
      have hz29 := (Keep.of_below hq29 : Keep (fun _ => False) x28 x29).at hz28 fun e => e
      obtain ⟨As, cs, rfl, _, _⟩ := own_slice hos
      have HOS := Lib.hid (strs_own hos)
      clear hos
      clear hS
      have hS := HSS.out _ hb29
      refine hK.out _ _ (Or.inr hS) ?_
      clear hK Kn
      try simp only [Act.put, List.setIfInBounds_toArray, List.set_cons_zero, List.set_cons_succ]
      refine wpAnyG_one 7 at7 (by kernel_rfl) (fun Kn hK => ?_)
      go_simp
      refine (HCd.out x29 hb29).mono ?_
      rintro e x30 ⟨vk, rfl, hok, hq30⟩
      have hb30 := hb29.trans (hq30.mono hb29.size)
      have HOS := Lib.hid (HOS.out.below hq30)
      have hz30 := (Keep.of_below hq30 : Keep (fun _ => False) x29 x30).at hz29 fun e => e
      obtain ⟨Ak, ck, rfl, _, _⟩ := own_slice hok
      have HKN := Lib.hid (rows_own hok)
      clear hok
      clear hS
      have hS := HSS.out _ hb30
      refine hK.out _ _ (Or.inr hS) ?_
      clear hK Kn
      try simp only [Act.put, List.setIfInBounds_toArray, List.set_cons_zero, List.set_cons_succ]
      refine wpAnyG_one 8 at8 (by kernel_rfl) (fun Kn hK => ?_)
      go_simp
      refine (HCe.out x30 hb30 HOS.out HKN.out).mono ?_
      rintro e x31 ⟨⟨vr, vw, vv, vbb, rfl, hmo⟩, hq31⟩
      have hb31 := hb30.trans (hq31.mono hb30.size)
      have HOS := Lib.hid (HOS.out.below hq31)
      have HKN := Lib.hid (HKN.out.below hq31)
      have hz31 := (Keep.of_below hq31 : Keep (fun _ => False) x30 x31).at hz30 fun e => e
      have HBB : Hid (w4.heap.size ≤ _) := Lib.hid hb30.size
      obtain ⟨Am, cm1, rfl, _, _⟩ := own_slice hmo.rd
      obtain ⟨Bm, cm2, rfl, _, _⟩ := own_slice hmo.wr
      obtain ⟨Cm, cm3, rfl, _, _⟩ := own_slice hmo.vf
      obtain ⟨Dm, cm4, rfl, _, _⟩ := own_slice hmo.bl
      have HMB := Lib.hid hmo
      clear hmo
      clear hS
      have hS := HSS.out _ hb31
      refine hK.out _ _ (Or.inr hS) ?_
      clear hK Kn
      try simp only [Act.put, List.setIfInBounds_toArray, List.set_cons_zero, List.set_cons_succ]
      refine wpAnyG_pure (i := 9) (v := ?ve5r329) at9 (by kernel_rfl) (fun _ _ _ h => h) (Or.inl ⟨by rfl, ?he5r329⟩) (Or.inr (by assumption)) ?re5r329
      case he5r329 => (intro w hSw; (try dsimp only at hSw); go_simp; try with_reducible rfl)
      case' re5r329 => skip
      try simp only [Act.put, List.setIfInBounds_toArray, List.set_cons_zero, List.set_cons_succ]
      refine wpAnyG_pure (i := 10) (v := ?ve5r3210) at10 (by kernel_rfl) (fun _ _ _ h => h) (Or.inl ⟨by rfl, ?he5r3210⟩) (Or.inr (by assumption)) ?re5r3210
      case he5r3210 => (intro w hSw; (try dsimp only at hSw); go_simp; try with_reducible rfl)
      case' re5r3210 => skip
      try simp only [Act.put, List.setIfInBounds_toArray, List.set_cons_zero, List.set_cons_succ]
      refine wpAnyG_pure (i := 11) (v := ?ve5r3211) at11 (by kernel_rfl) (fun _ _ _ h => h) (Or.inl ⟨by rfl, ?he5r3211⟩) (Or.inr (by assumption)) ?re5r3211
      case he5r3211 => (intro w hSw; (try dsimp only at hSw); go_simp; try with_reducible rfl)
      case' re5r3211 => skip
      try simp only [Act.put, List.setIfInBounds_toArray, List.set_cons_zero, List.set_cons_succ]
      refine wpAnyG_one 13 at13 (by kernel_rfl) (fun Kn hK => ?_)
      refine step_store_all rfl _ _ _ rfl rfl rfl _ _ hz31 info_mt rfl (by simp [Value.oneCell']) ?_
      intro y9 h9 k9 s9
      refine hK.out _ _ (Or.inl (by kernel_rfl)) ?_
      have HLEAF : Hid (MtOwn w.heap.size w4 y9 z26 BM1) := Lib.hid ⟨_, _, _, _, h9, (HMB.out.store hz31 k9).lower (Nat.le_trans B4.out.size HBB.out), Nat.le_trans B4.out.size HZL.out, below_at ((Below.refl w4.heap.size w4).trans (hb31.mono (Below.refl w4.heap.size w4).size)) k9 HZL.out⟩
      clear hK Kn h9 k9 s9 hS
      try simp only [Act.put, List.setIfInBounds_toArray, List.set_cons_zero, List.set_cons_succ]
      refine wpAnyG_one 14 at14 (by kernel_rfl) (fun Kn hK => ?_)
      go_simp
      refine hK.out _ _ (Or.inl (by kernel_rfl)) ?_
      clear hK Kn
      refine wpAnyG_done (by kernel_rfl) ?_
      try simp only [Act.put, List.setIfInBounds_toArray, List.set_cons_zero, List.set_cons_succ]
      go_wp2_with fail
      go_meet
      exact ⟨_, rfl, rfl, HLEAF⟩
  case rest =>
    obtain ⟨Zm, rfl, rfl, HIh⟩ := hcut
    obtain ⟨wa, hq0, HI1⟩ : ∃ W, W = _ ∧ Hid (MtOwn w.heap.size w4 W Zm BM1) := ⟨_, rfl, HIh⟩
    subst hq0
    clear HIh HCa HCb HCc HCd HCe HZw4 HLw4 HL2 HTU1 HS1 HV1 HW1 HKS
    obtain ⟨vr, vw, vv, vb, row1, own1, hz1, hbel1⟩ := HI1.out
    have Ba := Lib.hid (B4.out.trans (hbel1.mono B4.out.size))
    obtain ⟨A5, c5, rfl, _, _⟩ := own_slice own1.rd
    obtain ⟨A6, c6, rfl, _, _⟩ := own_slice own1.wr
    obtain ⟨A7, c7, rfl, _, _⟩ := own_slice own1.vf
    obtain ⟨A8, c8, rfl, _, _⟩ := own_slice own1.bl
    obtain ⟨_, hgood, hbody⟩ := HBD1.out.ok 5 (by decide)
    have hsig := HBD1.out.sig 5
    rw [HE1.out] at hgood hbody hsig
    have hver : BM1.ver = 5 := by rw [← HE1.out]; rfl
    have hvf : BM1.vf.length = m1 := by rw [← HE1.out]; exact vf_len
    have hvg : ∀ i, i < m1 → BM1.vf[i]? = some (mkB (117 :: toL (signN i))) := fun i hi => by rw [← HE1.out]; exact vf_get hi
    have hown : BM1.r = r1 := by rw [← HE1.out]; rfl
    have hfile : BM1.r.file = notesB := by rw [hown]; exact HOK1.out.file
    have hblb : ∀ (i : Nat) (u b : ByteArray), BM1.bl[i]? = some (u, b) → u.size ≤ 5 ∧ b = mkB (boxL r1 u (rootN 1) (lastB r1 (signL m1)) (pkOf u)) := fun i u b hi => by
      rw [← HE1.out] at hi
      have hi2 : ((others r1).map fun u => (u, mkB (boxL r1 u (rootN 1) (lastB r1 (signL m1)) (pkOf u))))[i]? = some (u, b) := hi
      rw [List.getElem?_map] at hi2
      obtain ⟨x, hx, e⟩ := Option.map_eq_some_iff.1 hi2
      cases e
      exact ⟨whoList_size _ (HOK1.out.names _ (others_mem.1 (List.mem_of_getElem? hx))), rfl⟩
    have hnm : ∀ x ∈ BM1.r.rd ++ BM1.r.wr, ∀ y ∈ BM1.vf, x ≠ y := fun x hx y hy e => by
      rw [hown] at hx
      obtain ⟨i, hi⟩ := List.getElem?_of_mem hy
      have hlt := (List.getElem?_eq_some_iff.1 hi).1
      rw [hvg i (by omega)] at hi
      exact who_ne_u (HOK1.out.names x hx) (toL (signN i)) (e.trans (Option.some.inj hi).symm)
    obtain ⟨n5, hn5⟩ : ∃ n, BM1.r.rd.length = n := ⟨_, rfl⟩
    obtain ⟨n6, hn6⟩ : ∃ n, BM1.r.wr.length = n := ⟨_, rfl⟩
    obtain ⟨nb, hnb⟩ : ∃ n, BM1.bl.length = n := ⟨_, rfl⟩
    have HNB : Hid (nb ≤ 1000) := Lib.hid (by have := hgood.nb; omega)
    rw [hn5, hn6, hvf, hnb] at row1 own1
    have HR1 := Lib.hid row1
    have HO1 := Lib.hid own1
    have HZZ := Lib.hid hz1
    have HG := Lib.hid hgood
    have HBL := Lib.hid hbody
    have HSG := Lib.hid hsig
    have HVER := Lib.hid hver
    have HVF := Lib.hid hvf
    have HVG := Lib.hid hvg
    have HFI := Lib.hid hfile
    have HBX := Lib.hid hblb
    have HNM := Lib.hid hnm
    have HLEN := Lib.hid (And.intro hn5 (And.intro hn6 hnb))
    have hBody := fun W hb => Body_calls W BM1 _ _ _ _ (own1.lists.below hb) (HT.out.below (Ba.out.trans (hb.mono Ba.out.size))) (hgood.wf (by rw [hver]; decide))
    have hbv : bodyV BM1 = .tuple #[.string (mkB (bodyM BM1)), .int .i64 0] := by unfold bodyV; rw [good_rightM hgood]; rfl
    obtain ⟨BB, hBB⟩ : ∃ b, mkB (bodyM BM1) = b := ⟨_, rfl⟩
    rw [hBB] at hbv
    simp only [hbv] at hBody
    dsimp only [agM] at hBody
    have HBY := Lib.hid hBody
    have HBB := Lib.hid hBB
    obtain ⟨k0, k1, k2, k3, k4, k5, k6, k7, k8⟩ := row9 row1
    clear hnm row1 own1 hz1 hbel1 hgood hbody hsig hver hvf hvg hown hfile hblb hn5 hn6 hnb hBody hbv hBB
    go_wp2_with fail
    refine (HBY.out _ (Below.refl _ _)).mono ?_
    rintro e wb ⟨rfl, hbb⟩
    have Bb := Lib.hid (Ba.out.trans (hbb.mono Ba.out.size))
    have HRb := Lib.hid ((Keep.of_below hbb : Keep (fun _ => False) wa wb).at HR1.out fun e => e)
    have HOb := Lib.hid (HO1.out.below hbb)
    clear hbb k0 k1 k2 k3 k4 k5 k6 k7 k8
    obtain ⟨k0, k1, k2, k3, k4, k5, k6, k7, k8⟩ := row9 HRb.out
    have hz0 : ((m1 : Int) == 0) = false := by rw [beq_eq_false_iff_ne]; have := HM1.out; omega
    have hP := pickZ_lt what (n := 5) (by decide)
    obtain ⟨P, hPP⟩ : ∃ P, pickZ what 5 = P := ⟨_, rfl⟩
    rw [hPP] at hP HPK
    clear hPP
    have hPc : P = 0 ∨ P = 1 ∨ P = 2 ∨ P = 3 ∨ P = 4 := by omega
    clear hP
    rcases hPc with rfl | rfl | rfl | rfl | rfl
    · skip
      obtain ⟨q, hq, hq9⟩ : ∃ q : Nat, pickZ at_ 9 = (q : Int) ∧ q < 9 := by
        have := pickZ_lt at_ (n := 9) (by decide)
        exact ⟨(pickZ at_ 9).toNat, by omega, by omega⟩
      have HP9 := Lib.hid (fun W => pick8_calls at_ 9 W HAT.out.1 HAT.out.2 (by decide) (by decide))
      rw [hq] at HP9
      have hk5 : wb.cell? ⟨Zm, 5, none⟩ = some (.int .u64 5) := by rw [k5, HVER.out]; rfl
      have hw1 : IntKind.u64.wrap (5 + 1) = 6 := by decide
      have hw0 : IntKind.u64.wrap 6 = 6 := by decide
      have hw2 : IntKind.u64.wrap (q : Int) = q := by rw [IntKind.wrap_u64]; omega
      have hw3 : IntKind.u64.wrap (6 + (q : Int)) = 6 + (q : Int) := by rw [IntKind.wrap_u64]; omega
      have HQ9 := Lib.hid hq9
      have hfz : wb.frozen? ⟨Zm, 5, none⟩ = false := frozen_of_row HRb.out 5
      clear hq hq9
      go_wp2_with fail
      refine (HPK.out _).mono ?_
      rintro e w_ ⟨rfl, rfl⟩
      go_wp2_with fail
      refine wp_region_G (fun W2 => W2.cell? ⟨Zm, 5, none⟩ = some (.int .u64 5)) [8] (by kernel_rfl) ?_
      have hS : (fun W2 : World => W2.cell? ⟨Zm, 5, none⟩ = some (.int .u64 5)) wb.drew := hk5
      refine wpAnyG_pure (i := 0) (v := ?vc0a0) at0 (by kernel_rfl) (fun _ _ _ h => h) (Or.inl ⟨by rfl, ?hc0a0⟩) (Or.inr (by assumption)) ?rc0a0
      case hc0a0 => (intro w hSw; (try dsimp only at hSw); go_simp; try with_reducible rfl)
      case' rc0a0 => skip
      try simp only [Act.put, List.setIfInBounds_toArray, List.set_cons_zero, List.set_cons_succ]
      refine wpAnyG_take (ws := [0,1,2,3,4,5,6,7]) (i := 1) (v := ?vc0a1) at1 (by kernel_rfl) (fun _ _ _ h => h) (Or.inl ⟨by rfl, ?hc0a1⟩) (by assumption) ?rc0a1
      case hc0a1 => (intro w hSw; (try dsimp only at hSw); go_simp; try with_reducible rfl)
      case' rc0a1 => skip
      try simp only [Act.put, List.setIfInBounds_toArray, List.set_cons_zero, List.set_cons_succ]
      refine wpAnyG_pure (i := 2) (v := ?vc0a2) at2 (by kernel_rfl) (fun _ _ _ h => h) (Or.inl ⟨by rfl, ?hc0a2⟩) (Or.inr (by assumption)) ?rc0a2
      case hc0a2 => (intro w hSw; (try dsimp only at hSw); go_simp; try with_reducible rfl)
      case' rc0a2 => skip
      try simp only [Act.put, List.setIfInBounds_toArray, List.set_cons_zero, List.set_cons_succ]
      refine wpAnyG_pure (i := 3) (v := ?vc0a3) at3 (by kernel_rfl) (fun _ _ _ h => h) (Or.inl ⟨by rfl, ?hc0a3⟩) (Or.inr (by assumption)) ?rc0a3
      case hc0a3 => (intro w hSw; (try dsimp only at hSw); go_simp; try with_reducible rfl)
      case' rc0a3 => skip
      try simp only [Act.put, List.setIfInBounds_toArray, List.set_cons_zero, List.set_cons_succ]
      refine wpAnyG_one 4 at4 (by kernel_rfl) (fun Kn hK => ?_)
      go_simp
      refine (HP9.out _).mono ?_
      rintro e w_ ⟨rfl, rfl⟩
      refine hK.out _ _ (Or.inr hS) ?_
      clear hK Kn
      try simp only [Act.put, List.setIfInBounds_toArray, List.set_cons_zero, List.set_cons_succ]
      refine wpAnyG_pure (i := 5) (v := ?vc0b5) at5 (by kernel_rfl) (fun _ _ _ h => h) (Or.inl ⟨by rfl, ?hc0b5⟩) (Or.inr (by assumption)) ?rc0b5
      case hc0b5 => (intro w hSw; (try dsimp only at hSw); go_simp; try with_reducible rfl)
      case' rc0b5 => skip
      try simp only [Act.put, List.setIfInBounds_toArray, List.set_cons_zero, List.set_cons_succ]
      refine wpAnyG_pure (i := 6) (v := ?vc0b6) at6 (by kernel_rfl) (fun _ _ _ h => h) (Or.inl ⟨by rfl, ?hc0b6⟩) (Or.inr (by assumption)) ?rc0b6
      case hc0b6 => (intro w hSw; (try dsimp only at hSw); go_simp; try with_reducible rfl)
      case' rc0b6 => skip
      try simp only [Act.put, List.setIfInBounds_toArray, List.set_cons_zero, List.set_cons_succ]
      refine wpAnyG_pure (i := 7) (v := ?vc0b7) at7 (by kernel_rfl) (fun _ _ _ h => h) (Or.inl ⟨by rfl, ?hc0b7⟩) (Or.inr (by assumption)) ?rc0b7
      case hc0b7 => (intro w hSw; (try dsimp only at hSw); go_simp; try with_reducible rfl)
      case' rc0b7 => skip
      try simp only [Act.put, List.setIfInBounds_toArray, List.set_cons_zero, List.set_cons_succ]
      refine wpAnyG_one 8 at8 (by kernel_rfl) (fun Kn hK => ?_)
      go_simp
      refine hK.out _ _ (Or.inl (by kernel_rfl)) ?_
      clear hK Kn hS
      refine wpAnyG_done (by kernel_rfl) ?_
      try simp only [Act.put, List.setIfInBounds_toArray, List.set_cons_zero, List.set_cons_succ]
      go_wp2_with fail
      clear hk5 hw0 hw1 hw2 hw3 hfz
      have hRn : ((wb.setCell ⟨Zm, 5, none⟩ (.int .u64 (6 + (q : Int)))).drew).heap[Zm]? = some (.cells (mtCells ({ BM1 with ver := 6 + q } : Mt) (.slice A5 n5 c5) (.slice A6 n6 c6) (.slice A7 m1 c7) (.slice A8 nb c8)) 42 (0, 0)) := set_at HRb.out 5 (.int .u64 (6 + (q : Int)))
      have hLn : MLists ((wb.setCell ⟨Zm, 5, none⟩ (.int .u64 (6 + (q : Int)))).drew) ({ BM1 with ver := 6 + q } : Mt) (.slice A5 n5 c5) (.slice A6 n6 c6) (.slice A7 m1 c7) (.slice A8 nb c8) := ((HOb.out.store HRb.out ((Keep.setCell (fun i => i = Zm) wb (p := ⟨Zm, 5, none⟩) rfl (.int .u64 (6 + (q : Int)))).same (Keep.drew _ _))).lists : MLists _ BM1 _ _ _ _) |> fun h => ⟨h.rt, h.vf, h.bl⟩
      have hBn : Below w.heap.size w ((wb.setCell ⟨Zm, 5, none⟩ (.int .u64 (6 + (q : Int)))).drew) := below_at Bb.out ((Keep.setCell (fun i => i = Zm) wb (p := ⟨Zm, 5, none⟩) rfl (.int .u64 (6 + (q : Int)))).same (Keep.drew _ _)) HZZ.out
      have hNg : ({ BM1 with ver := 6 + q } : Mt).good := good_ver HG.out _
      have hCn : ∀ o f, checkM ({ BM1 with ver := 6 + q } : Mt) (pkOf annaB) o f = 7 := fun o f => checkM_body (m := BM1) hNg (by show 6 + q < _; have := HQ9.out; omega) (by have := HBL.out; omega) (secOf_is (u := annaB) (by decide)) (by unfold pkOf; exact toL_mkB _) HSG.out rfl (fun e => by have e2 := (bodyM_inj e (by have := hNg.size (by show 6 + q < _; have := HQ9.out; omega); omega) (Rt.right_good hNg.r) (Rt.right_good HG.out.r) (by show 6 + q < _; have := HQ9.out; omega) (by rw [HVER.out]; decide)).2.1; rw [HVER.out] at e2; have e3 : 6 + q = 5 := e2; omega)
      have hNw : ({ BM1 with ver := 6 + q } : Mt).wf := hNg.wf (by show 6 + q < _; have := HQ9.out; omega)
      obtain ⟨wn, hwn⟩ : ∃ x, (wb.setCell ⟨Zm, 5, none⟩ (.int .u64 (6 + (q : Int)))).drew = x := ⟨_, rfl⟩
      rw [hwn] at hRn hLn hBn ⊢
      have HRn := Lib.hid hRn
      have HLn := Lib.hid hLn
      have Bn := Lib.hid hBn
      have HNg := Lib.hid hNg
      have HNw := Lib.hid hNw
      have HCn := Lib.hid hCn
      clear hRn hLn hBn hNg hNw hCn hwn
      obtain ⟨NM, hNM⟩ : ∃ x : Mt, ({ BM1 with ver := 6 + q } : Mt) = x := ⟨_, rfl⟩
      rw [hNM] at HRn HLn HNg HNw HCn
      clear hNM k0 k1 k2 k3 k4 k5 k6 k7 k8
      have hrt := fun W hb => mright_calls W NM _ _ _ _ (HLn.out.below hb) (HT.out.below (Bn.out.trans (hb.mono Bn.out.size))) HNw.out
      have hck := fun W hb => check_calls W NM _ _ _ _ (pkOf annaB) annaB NM.r.file (HLn.out.below hb) (HT.out.below (Bn.out.trans (hb.mono Bn.out.size))) HNw.out (by obtain ⟨⟨_, _, _, h3⟩, _⟩ := pkOf_is (u := annaB) (by decide); rw [toL_len] at h3; omega)
      simp only [good_rightM HNg.out] at hrt
      simp only [HCn.out] at hck
      dsimp only [agM] at hrt hck
      have HPU := Lib.hid (fun W => publicOf8_calls annaB W (by decide))
      obtain ⟨PA, hPA⟩ : ∃ P, pkOf annaB = P := ⟨_, rfl⟩
      simp only [hPA] at HPU hck
      have HRT := Lib.hid hrt
      have HCK := Lib.hid hck
      have HS9 := Lib.hid (fun W2 hb => row9 ((Keep.of_below hb : Keep (fun _ => False) wn W2).at HRn.out fun e => e))
      clear hrt hck hPA
      refine wp_region_G (fun W2 => W2.cell? ⟨Zm, 0, none⟩ = some (.string NM.r.owner) ∧ W2.cell? ⟨Zm, 1, none⟩ = some (.string NM.r.file) ∧ W2.cell? ⟨Zm, 2, none⟩ = some (.int .i64 NM.r.epoch) ∧ W2.cell? ⟨Zm, 3, none⟩ = some (.slice A5 n5 c5) ∧ W2.cell? ⟨Zm, 4, none⟩ = some (.slice A6 n6 c6) ∧ W2.cell? ⟨Zm, 5, none⟩ = some (.int .u64 NM.ver) ∧ W2.cell? ⟨Zm, 6, none⟩ = some (.slice A7 m1 c7) ∧ W2.cell? ⟨Zm, 7, none⟩ = some (.slice A8 nb c8) ∧ W2.cell? ⟨Zm, 8, none⟩ = some (.string NM.sig)) [11] (by kernel_rfl) ?_
      have hb0 := below_self Bn.out
      have hS := HS9.out _ hb0
      refine wpAnyG_take (ws := [0,1,2,10]) (i := 0) (v := ?vz0a0) at0 (by kernel_rfl) (fun _ _ _ h => h) (Or.inl ⟨by rfl, ?hz0a0⟩) (by assumption) ?rz0a0
      case hz0a0 => (intro w hSw; (try dsimp only at hSw); go_simp; try with_reducible rfl)
      case' rz0a0 => skip
      try simp only [Act.put, List.setIfInBounds_toArray, List.set_cons_zero, List.set_cons_succ]
      refine wpAnyG_one 1 at1 (by kernel_rfl) (fun Kn hK => ?_)
      go_simp
      refine (HRT.out _ hb0).mono ?_
      rintro e w11 ⟨rfl, hq1⟩
      have hb1 := hb0.trans (hq1.mono hb0.size)
      clear hS
      have hS := HS9.out _ hb1
      refine hK.out _ _ (Or.inr hS) ?_
      clear hK Kn hq1
      try simp only [Act.put, List.setIfInBounds_toArray, List.set_cons_zero, List.set_cons_succ]
      refine wpAnyG_pure (i := 2) (v := ?vz0b2) at2 (by kernel_rfl) (fun _ _ _ h => h) (Or.inl ⟨by rfl, ?hz0b2⟩) (Or.inr (by assumption)) ?rz0b2
      case hz0b2 => (intro w hSw; (try dsimp only at hSw); go_simp; try with_reducible rfl)
      case' rz0b2 => skip
      try simp only [Act.put, List.setIfInBounds_toArray, List.set_cons_zero, List.set_cons_succ]
      refine wpAnyG_take (ws := [3,7,8,9,10]) (i := 3) (v := ?vz0b3) at3 (by kernel_rfl) (fun _ _ _ h => h) (Or.inl ⟨by rfl, ?hz0b3⟩) (by assumption) ?rz0b3
      case hz0b3 => (intro w hSw; (try dsimp only at hSw); go_simp; try with_reducible rfl)
      case' rz0b3 => skip
      try simp only [Act.put, List.setIfInBounds_toArray, List.set_cons_zero, List.set_cons_succ]
      refine wpAnyG_pure (i := 5) (v := ?vz0b5) at5 (by kernel_rfl) (fun _ _ _ h => h) (Or.inl ⟨by rfl, ?hz0b5⟩) (Or.inr (by assumption)) ?rz0b5
      case hz0b5 => (intro w hSw; (try dsimp only at hSw); go_simp; try with_reducible rfl)
      case' rz0b5 => skip
      try simp only [Act.put, List.setIfInBounds_toArray, List.set_cons_zero, List.set_cons_succ]
      refine wpAnyG_pure (i := 6) (v := ?vz0b6) at6 (by kernel_rfl) (fun _ _ _ h => h) (Or.inl ⟨by rfl, ?hz0b6⟩) (Or.inr (by assumption)) ?rz0b6
      case hz0b6 => (intro w hSw; (try dsimp only at hSw); go_simp; try with_reducible rfl)
      case' rz0b6 => skip
      try simp only [Act.put, List.setIfInBounds_toArray, List.set_cons_zero, List.set_cons_succ]
      refine wpAnyG_take (ws := [3,7,8,9,10]) (i := 7) (v := ?vz0b7) at7 (by kernel_rfl) (fun _ _ _ h => h) (Or.inl ⟨by rfl, ?hz0b7⟩) (by assumption) ?rz0b7
      case hz0b7 => (intro w hSw; (try dsimp only at hSw); go_simp; try with_reducible rfl)
      case' rz0b7 => skip
      try simp only [Act.put, List.setIfInBounds_toArray, List.set_cons_zero, List.set_cons_succ]
      refine wpAnyG_one 4 at4 (by kernel_rfl) (fun Kn hK => ?_)
      go_simp
      refine (HPU.out _).mono ?_
      rintro e w12 ⟨rfl, hq2⟩
      have hb2 := hb1.trans (hq2.mono hb1.size)
      clear hS
      have hS := HS9.out _ hb2
      refine hK.out _ _ (Or.inr hS) ?_
      clear hK Kn hq2
      try simp only [Act.put, List.setIfInBounds_toArray, List.set_cons_zero, List.set_cons_succ]
      refine wpAnyG_one 8 at8 (by kernel_rfl) (fun Kn hK => ?_)
      go_simp
      refine (HCK.out _ hb2).mono ?_
      rintro e w13 ⟨rfl, hq3⟩
      have hb3 := hb2.trans (hq3.mono hb2.size)
      clear hS
      have hS := HS9.out _ hb3
      refine hK.out _ _ (Or.inr hS) ?_
      clear hK Kn hq3
      try simp only [Act.put, List.setIfInBounds_toArray, List.set_cons_zero, List.set_cons_succ]
      refine wpAnyG_pure (i := 9) (v := ?vz0c9) at9 (by kernel_rfl) (fun _ _ _ h => h) (Or.inl ⟨by rfl, ?hz0c9⟩) (Or.inr (by assumption)) ?rz0c9
      case hz0c9 => (intro w hSw; (try dsimp only at hSw); go_simp; try with_reducible rfl)
      case' rz0c9 => skip
      try simp only [Act.put, List.setIfInBounds_toArray, List.set_cons_zero, List.set_cons_succ]
      refine wpAnyG_pure (i := 10) (v := ?vz0c10) at10 (by kernel_rfl) (fun _ _ _ h => h) (Or.inl ⟨by rfl, ?hz0c10⟩) (Or.inr (by assumption)) ?rz0c10
      case hz0c10 => (intro w hSw; (try dsimp only at hSw); go_simp; try with_reducible rfl)
      case' rz0c10 => skip
      try simp only [Act.put, List.setIfInBounds_toArray, List.set_cons_zero, List.set_cons_succ]
      refine wpAnyG_one 11 at11 (by kernel_rfl) (fun Kn hK => ?_)
      go_simp
      refine hK.out _ _ (Or.inl (by kernel_rfl)) ?_
      have HF := Lib.hid (Bn.out.trans (hb3.mono Bn.out.size))
      clear hK Kn hS hb0 hb1 hb2 hb3
      refine wpAnyG_done (by kernel_rfl) ?_
      try simp only [Act.put, List.setIfInBounds_toArray, List.set_cons_zero, List.set_cons_succ]
      go_wp2_with fail
      go_ret
      exact ⟨rfl, HF.out⟩
    · skip
      have HWH := Lib.hid (fun W => who8_calls at_ W HAT.out.1 HAT.out.2)
      have hFm := whoB_mem at_
      obtain ⟨F, hF⟩ : ∃ F, whoB at_ = F := ⟨_, rfl⟩
      rw [hF] at HWH hFm
      have HFM := Lib.hid hFm
      clear hF hFm
      go_wp2_with fail
      refine (HPK.out _).mono ?_
      rintro e w_ ⟨rfl, rfl⟩
      go_wp2_with fail
      refine (HWH.out _).mono ?_
      rintro e wc ⟨rfl, hbc⟩
      have Bc := Lib.hid (Bb.out.trans (hbc.mono Bb.out.size))
      have HRc := Lib.hid ((Keep.of_below hbc : Keep (fun _ => False) wb wc).at HRb.out fun e => e)
      have HOc := Lib.hid (HOb.out.below hbc)
      clear hbc k0 k1 k2 k3 k4 k5 k6 k7 k8
      obtain ⟨k0, k1, k2, k3, k4, k5, k6, k7, k8⟩ := row9 HRc.out
      have hfz := frozen_of_row HRc.out 1
      go_wp2_with fail
      clear hfz
      have hNv : BM1.ver < 18446744073709551616 := (by rw [show BM1.ver = 5 from HVER.out]; decide)
      have hRn : (wc.setCell ⟨Zm, 1, none⟩ (.string F)).heap[Zm]? = some (.cells (mtCells ({ BM1 with r := { BM1.r with file := F } } : Mt) (.slice A5 n5 c5) (.slice A6 n6 c6) (.slice A7 m1 c7) (.slice A8 nb c8)) 42 (0, 0)) := by rw [set_at HRc.out]; rfl
      have hLn : MLists (wc.setCell ⟨Zm, 1, none⟩ (.string F)) ({ BM1 with r := { BM1.r with file := F } } : Mt) (.slice A5 n5 c5) (.slice A6 n6 c6) (.slice A7 m1 c7) (.slice A8 nb c8) := ((HOc.out.store HRc.out (Keep.setCell (fun i => i = Zm) wc (p := ⟨Zm, 1, none⟩) rfl (.string F))).lists : MLists _ BM1 _ _ _ _) |> fun h => ⟨⟨h.rt.rd, h.rt.wr⟩, h.vf, h.bl⟩
      have hBn : Below w.heap.size w (wc.setCell ⟨Zm, 1, none⟩ (.string F)) := below_at Bc.out (Keep.setCell (fun i => i = Zm) wc (p := ⟨Zm, 1, none⟩) rfl (.string F)) HZZ.out
      have hNg : ({ BM1 with r := { BM1.r with file := F } } : Mt).good := good_file HG.out (who_name F HFM.out)
      have hCn : ∀ o f, checkM ({ BM1 with r := { BM1.r with file := F } } : Mt) (pkOf annaB) o f = 7 := fun o f => checkM_body (m := BM1) hNg hNv (by have := HBL.out; omega) (secOf_is (u := annaB) (by decide)) (by unfold pkOf; exact toL_mkB _) HSG.out rfl (fun e => by have e2 := congrArg Rt.file (bodyM_inj e (by have := hNg.size hNv; omega) (Rt.right_good hNg.r) (Rt.right_good HG.out.r) hNv (by rw [HVER.out]; decide)).1; rw [HFI.out] at e2; exact notes_not (by rw [← show F = notesB from e2]; exact HFM.out))
      have hNw : ({ BM1 with r := { BM1.r with file := F } } : Mt).wf := hNg.wf (by exact hNv)
      obtain ⟨wn, hwn⟩ : ∃ x, wc.setCell ⟨Zm, 1, none⟩ (.string F) = x := ⟨_, rfl⟩
      rw [hwn] at hRn hLn hBn ⊢
      have HRn := Lib.hid hRn
      have HLn := Lib.hid hLn
      have Bn := Lib.hid hBn
      have HNg := Lib.hid hNg
      have HNw := Lib.hid hNw
      have HCn := Lib.hid hCn
      clear hRn hLn hBn hNg hNw hCn hwn
      obtain ⟨NM, hNM⟩ : ∃ x : Mt, ({ BM1 with r := { BM1.r with file := F } } : Mt) = x := ⟨_, rfl⟩
      rw [hNM] at HRn HLn HNg HNw HCn
      clear hNM k0 k1 k2 k3 k4 k5 k6 k7 k8
      have hrt := fun W hb => mright_calls W NM _ _ _ _ (HLn.out.below hb) (HT.out.below (Bn.out.trans (hb.mono Bn.out.size))) HNw.out
      have hck := fun W hb => check_calls W NM _ _ _ _ (pkOf annaB) annaB NM.r.file (HLn.out.below hb) (HT.out.below (Bn.out.trans (hb.mono Bn.out.size))) HNw.out (by obtain ⟨⟨_, _, _, h3⟩, _⟩ := pkOf_is (u := annaB) (by decide); rw [toL_len] at h3; omega)
      simp only [good_rightM HNg.out] at hrt
      simp only [HCn.out] at hck
      dsimp only [agM] at hrt hck
      have HPU := Lib.hid (fun W => publicOf8_calls annaB W (by decide))
      obtain ⟨PA, hPA⟩ : ∃ P, pkOf annaB = P := ⟨_, rfl⟩
      simp only [hPA] at HPU hck
      have HRT := Lib.hid hrt
      have HCK := Lib.hid hck
      have HS9 := Lib.hid (fun W2 hb => row9 ((Keep.of_below hb : Keep (fun _ => False) wn W2).at HRn.out fun e => e))
      clear hrt hck hPA
      refine wp_region_G (fun W2 => W2.cell? ⟨Zm, 0, none⟩ = some (.string NM.r.owner) ∧ W2.cell? ⟨Zm, 1, none⟩ = some (.string NM.r.file) ∧ W2.cell? ⟨Zm, 2, none⟩ = some (.int .i64 NM.r.epoch) ∧ W2.cell? ⟨Zm, 3, none⟩ = some (.slice A5 n5 c5) ∧ W2.cell? ⟨Zm, 4, none⟩ = some (.slice A6 n6 c6) ∧ W2.cell? ⟨Zm, 5, none⟩ = some (.int .u64 NM.ver) ∧ W2.cell? ⟨Zm, 6, none⟩ = some (.slice A7 m1 c7) ∧ W2.cell? ⟨Zm, 7, none⟩ = some (.slice A8 nb c8) ∧ W2.cell? ⟨Zm, 8, none⟩ = some (.string NM.sig)) [11] (by kernel_rfl) ?_
      have hb0 := below_self Bn.out
      have hS := HS9.out _ hb0
      refine wpAnyG_take (ws := [0,1,2,10]) (i := 0) (v := ?vz1a0) at0 (by kernel_rfl) (fun _ _ _ h => h) (Or.inl ⟨by rfl, ?hz1a0⟩) (by assumption) ?rz1a0
      case hz1a0 => (intro w hSw; (try dsimp only at hSw); go_simp; try with_reducible rfl)
      case' rz1a0 => skip
      try simp only [Act.put, List.setIfInBounds_toArray, List.set_cons_zero, List.set_cons_succ]
      refine wpAnyG_one 1 at1 (by kernel_rfl) (fun Kn hK => ?_)
      go_simp
      refine (HRT.out _ hb0).mono ?_
      rintro e w11 ⟨rfl, hq1⟩
      have hb1 := hb0.trans (hq1.mono hb0.size)
      clear hS
      have hS := HS9.out _ hb1
      refine hK.out _ _ (Or.inr hS) ?_
      clear hK Kn hq1
      try simp only [Act.put, List.setIfInBounds_toArray, List.set_cons_zero, List.set_cons_succ]
      refine wpAnyG_pure (i := 2) (v := ?vz1b2) at2 (by kernel_rfl) (fun _ _ _ h => h) (Or.inl ⟨by rfl, ?hz1b2⟩) (Or.inr (by assumption)) ?rz1b2
      case hz1b2 => (intro w hSw; (try dsimp only at hSw); go_simp; try with_reducible rfl)
      case' rz1b2 => skip
      try simp only [Act.put, List.setIfInBounds_toArray, List.set_cons_zero, List.set_cons_succ]
      refine wpAnyG_take (ws := [3,7,8,9,10]) (i := 3) (v := ?vz1b3) at3 (by kernel_rfl) (fun _ _ _ h => h) (Or.inl ⟨by rfl, ?hz1b3⟩) (by assumption) ?rz1b3
      case hz1b3 => (intro w hSw; (try dsimp only at hSw); go_simp; try with_reducible rfl)
      case' rz1b3 => skip
      try simp only [Act.put, List.setIfInBounds_toArray, List.set_cons_zero, List.set_cons_succ]
      refine wpAnyG_pure (i := 5) (v := ?vz1b5) at5 (by kernel_rfl) (fun _ _ _ h => h) (Or.inl ⟨by rfl, ?hz1b5⟩) (Or.inr (by assumption)) ?rz1b5
      case hz1b5 => (intro w hSw; (try dsimp only at hSw); go_simp; try with_reducible rfl)
      case' rz1b5 => skip
      try simp only [Act.put, List.setIfInBounds_toArray, List.set_cons_zero, List.set_cons_succ]
      refine wpAnyG_pure (i := 6) (v := ?vz1b6) at6 (by kernel_rfl) (fun _ _ _ h => h) (Or.inl ⟨by rfl, ?hz1b6⟩) (Or.inr (by assumption)) ?rz1b6
      case hz1b6 => (intro w hSw; (try dsimp only at hSw); go_simp; try with_reducible rfl)
      case' rz1b6 => skip
      try simp only [Act.put, List.setIfInBounds_toArray, List.set_cons_zero, List.set_cons_succ]
      refine wpAnyG_take (ws := [3,7,8,9,10]) (i := 7) (v := ?vz1b7) at7 (by kernel_rfl) (fun _ _ _ h => h) (Or.inl ⟨by rfl, ?hz1b7⟩) (by assumption) ?rz1b7
      case hz1b7 => (intro w hSw; (try dsimp only at hSw); go_simp; try with_reducible rfl)
      case' rz1b7 => skip
      try simp only [Act.put, List.setIfInBounds_toArray, List.set_cons_zero, List.set_cons_succ]
      refine wpAnyG_one 4 at4 (by kernel_rfl) (fun Kn hK => ?_)
      go_simp
      refine (HPU.out _).mono ?_
      rintro e w12 ⟨rfl, hq2⟩
      have hb2 := hb1.trans (hq2.mono hb1.size)
      clear hS
      have hS := HS9.out _ hb2
      refine hK.out _ _ (Or.inr hS) ?_
      clear hK Kn hq2
      try simp only [Act.put, List.setIfInBounds_toArray, List.set_cons_zero, List.set_cons_succ]
      refine wpAnyG_one 8 at8 (by kernel_rfl) (fun Kn hK => ?_)
      go_simp
      refine (HCK.out _ hb2).mono ?_
      rintro e w13 ⟨rfl, hq3⟩
      have hb3 := hb2.trans (hq3.mono hb2.size)
      clear hS
      have hS := HS9.out _ hb3
      refine hK.out _ _ (Or.inr hS) ?_
      clear hK Kn hq3
      try simp only [Act.put, List.setIfInBounds_toArray, List.set_cons_zero, List.set_cons_succ]
      refine wpAnyG_pure (i := 9) (v := ?vz1c9) at9 (by kernel_rfl) (fun _ _ _ h => h) (Or.inl ⟨by rfl, ?hz1c9⟩) (Or.inr (by assumption)) ?rz1c9
      case hz1c9 => (intro w hSw; (try dsimp only at hSw); go_simp; try with_reducible rfl)
      case' rz1c9 => skip
      try simp only [Act.put, List.setIfInBounds_toArray, List.set_cons_zero, List.set_cons_succ]
      refine wpAnyG_pure (i := 10) (v := ?vz1c10) at10 (by kernel_rfl) (fun _ _ _ h => h) (Or.inl ⟨by rfl, ?hz1c10⟩) (Or.inr (by assumption)) ?rz1c10
      case hz1c10 => (intro w hSw; (try dsimp only at hSw); go_simp; try with_reducible rfl)
      case' rz1c10 => skip
      try simp only [Act.put, List.setIfInBounds_toArray, List.set_cons_zero, List.set_cons_succ]
      refine wpAnyG_one 11 at11 (by kernel_rfl) (fun Kn hK => ?_)
      go_simp
      refine hK.out _ _ (Or.inl (by kernel_rfl)) ?_
      have HF := Lib.hid (Bn.out.trans (hb3.mono Bn.out.size))
      clear hK Kn hS hb0 hb1 hb2 hb3
      refine wpAnyG_done (by kernel_rfl) ?_
      try simp only [Act.put, List.setIfInBounds_toArray, List.set_cons_zero, List.set_cons_succ]
      go_wp2_with fail
      go_ret
      exact ⟨rfl, HF.out⟩
    · skip
      obtain ⟨q, hq, hqm⟩ : ∃ q : Nat, pickZ at_ m1 = (q : Int) ∧ q < m1 := by
        have h1 := HM1.out
        have := pickZ_lt at_ (n := m1) (by omega)
        exact ⟨(pickZ at_ m1).toNat, by omega, by omega⟩
      have HPM := Lib.hid (fun W => pick8_calls at_ m1 W HAT.out.1 HAT.out.2 (by have := HM1.out; omega) (by have := HM1.out; omega))
      rw [hq] at HPM
      have HPZ := Lib.hid (fun W => publicOf8_calls zoeB W (by decide))
      have hpz := pkOf_kind (u := zoeB) (by decide)
      have hpn : pkOf zoeB ≠ mkB (117 :: toL (signN q)) := pk_sign (by decide) (by have := HM1.out; omega)
      obtain ⟨PZ, hPZ⟩ : ∃ P, pkOf zoeB = P := ⟨_, rfl⟩
      rw [hPZ] at HPZ hpz hpn
      have HPK2 := Lib.hid hpz
      have HPN := Lib.hid hpn
      have HQ := Lib.hid hqm
      have hY := HVG.out q hqm
      obtain ⟨Y, hYY⟩ : ∃ Y, mkB (117 :: toL (signN q)) = Y := ⟨_, rfl⟩
      rw [hYY] at hY
      obtain ⟨g7, c7', e7, _, hcl⟩ := own_block HOb.out.vf (by rw [HVF.out]; have := HM1.out; omega)
      obtain ⟨rfl, rfl⟩ : A7 = some ⟨g7, 0, none⟩ ∧ c7 = c7' := by cases e7; exact ⟨rfl, rfl⟩
      have hcY := (hcl q (.string Y) (by unfold strV; rw [List.getElem?_map, hY]; rfl)).1
      have hfz := (hcl q (.string Y) (by unfold strV; rw [List.getElem?_map, hY]; rfl)).2
      have HGZ : Hid (¬ Zm = g7) := Lib.hid (fun e => own_ne_type HOb.out.vf HRb.out (by decide) (g := g7) rfl e.symm)
      have hss : ∀ W2, Below wb.heap.size wb W2 → (W2.cell? ⟨Zm, 6, none⟩ = some (.slice (some ⟨g7, 0, none⟩) m1 c7) ∧ W2.cell? ⟨g7, q, none⟩ = some (.string Y)) := fun W2 hb => ⟨(row9 ((Keep.of_below hb : Keep (fun _ => False) wb W2).at HRb.out fun e => e)).2.2.2.2.2.2.1, (Keep.of_below hb : Keep (fun _ => False) wb W2).cell hcY fun e => e⟩
      have HSS := Lib.hid hss
      clear hq hPZ hpz hpn hY hYY e7 hcl hss
      go_wp2_with fail
      refine (HPK.out _).mono ?_
      rintro e w_ ⟨rfl, rfl⟩
      go_wp2_with fail
      refine wp_region_G (fun W2 => W2.cell? ⟨Zm, 6, none⟩ = some (.slice (some ⟨g7, 0, none⟩) m1 c7) ∧ W2.cell? ⟨g7, q, none⟩ = some (.string Y)) [9] (by kernel_rfl) ?_
      have hS := HSS.out _ (Below.refl _ wb).drew
      refine wpAnyG_pure (i := 0) (v := ?vc2a0) at0 (by kernel_rfl) (fun _ _ _ h => h) (Or.inl ⟨by rfl, ?hc2a0⟩) (Or.inr (by assumption)) ?rc2a0
      case hc2a0 => (intro w hSw; (try dsimp only at hSw); go_simp; try with_reducible rfl)
      case' rc2a0 => skip
      try simp only [Act.put, List.setIfInBounds_toArray, List.set_cons_zero, List.set_cons_succ]
      refine wpAnyG_take (ws := [0,1,2,3,4,5,6,7,8]) (i := 1) (v := ?vc2a1) at1 (by kernel_rfl) (fun _ _ _ h => h) (Or.inl ⟨by rfl, ?hc2a1⟩) (by assumption) ?rc2a1
      case hc2a1 => (intro w hSw; (try dsimp only at hSw); go_simp; try with_reducible rfl)
      case' rc2a1 => skip
      try simp only [Act.put, List.setIfInBounds_toArray, List.set_cons_zero, List.set_cons_succ]
      refine wpAnyG_pure (i := 2) (v := ?vc2a2) at2 (by kernel_rfl) (fun _ _ _ h => h) (Or.inl ⟨by rfl, ?hc2a2⟩) (Or.inr (by assumption)) ?rc2a2
      case hc2a2 => (intro w hSw; (try dsimp only at hSw); go_simp; try with_reducible rfl)
      case' rc2a2 => skip
      try simp only [Act.put, List.setIfInBounds_toArray, List.set_cons_zero, List.set_cons_succ]
      refine wpAnyG_pure (i := 3) (v := ?vc2a3) at3 (by kernel_rfl) (fun _ _ _ h => h) (Or.inl ⟨by rfl, ?hc2a3⟩) (Or.inr (by assumption)) ?rc2a3
      case hc2a3 => (intro w hSw; (try dsimp only at hSw); go_simp; try with_reducible rfl)
      case' rc2a3 => skip
      try simp only [Act.put, List.setIfInBounds_toArray, List.set_cons_zero, List.set_cons_succ]
      refine wpAnyG_take (ws := [0,1,2,3,4,5,6,7,8]) (i := 4) (v := ?vc2a4) at4 (by kernel_rfl) (fun _ _ _ h => h) (Or.inl ⟨by rfl, ?hc2a4⟩) (by assumption) ?rc2a4
      case hc2a4 => (intro w hSw; (try dsimp only at hSw); go_simp; try with_reducible rfl)
      case' rc2a4 => skip
      try simp only [Act.put, List.setIfInBounds_toArray, List.set_cons_zero, List.set_cons_succ]
      refine wpAnyG_pure (i := 5) (v := ?vc2a5) at5 (by kernel_rfl) (fun _ _ _ h => h) (Or.inl ⟨by rfl, ?hc2a5⟩) (Or.inr (by assumption)) ?rc2a5
      case hc2a5 => (intro w hSw; (try dsimp only at hSw); go_simp; try with_reducible rfl)
      case' rc2a5 => skip
      try simp only [Act.put, List.setIfInBounds_toArray, List.set_cons_zero, List.set_cons_succ]
      refine wpAnyG_one 6 at6 (by kernel_rfl) (fun Kn hK => ?_)
      go_simp
      refine (HPM.out _).mono ?_
      rintro e w_ ⟨rfl, rfl⟩
      refine hK.out _ _ (Or.inr hS) ?_
      clear hK Kn
      try simp only [Act.put, List.setIfInBounds_toArray, List.set_cons_zero, List.set_cons_succ]
      refine wpAnyG_one 7 at7 (by kernel_rfl) (fun Kn hK => ?_)
      go_simp
      refine (HPZ.out _).mono ?_
      rintro e wc ⟨rfl, hbc⟩
      have hbd := (Below.refl wb.heap.size wb).drew.trans (hbc.mono (Below.refl wb.heap.size wb).drew.size)
      clear hS
      have hS := HSS.out _ hbd
      refine hK.out _ _ (Or.inr hS) ?_
      clear hK Kn hbc
      try simp only [Act.put, List.setIfInBounds_toArray, List.set_cons_zero, List.set_cons_succ]
      refine wpAnyG_pure (i := 8) (v := ?vc2x8) at8 (by kernel_rfl) (fun _ _ _ h => h) (Or.inl ⟨by rfl, ?hc2x8⟩) (Or.inr (by assumption)) ?rc2x8
      case hc2x8 => (intro w hSw; (try dsimp only at hSw); go_simp; try with_reducible rfl)
      case' rc2x8 => skip
      try simp only [Act.put, List.setIfInBounds_toArray, List.set_cons_zero, List.set_cons_succ]
      have HRc := Lib.hid ((Keep.of_below hbd : Keep (fun _ => False) wb wc).at HRb.out fun e => e)
      have HOc := Lib.hid (HOb.out.below hbd)
      have Bc := Lib.hid (Bb.out.trans (hbd.mono Bb.out.size))
      have hfz := own_frozen HOc.out.vf q
      refine wpAnyG_one 9 at9 (by kernel_rfl) (fun Kn hK => ?_)
      go_simp
      refine hK.out _ _ (Or.inl (by kernel_rfl)) ?_
      clear hK Kn hS hbd hfz
      refine wpAnyG_done (by kernel_rfl) ?_
      try simp only [Act.put, List.setIfInBounds_toArray, List.set_cons_zero, List.set_cons_succ]
      go_wp2_with fail
      have hNv : BM1.ver < 18446744073709551616 := (by rw [show BM1.ver = 5 from HVER.out]; decide)
      have hRn : (wc.setCell ⟨g7, q, none⟩ (.string PZ)).heap[Zm]? = some (.cells (mtCells ({ BM1 with vf := BM1.vf.set q PZ } : Mt) (.slice A5 n5 c5) (.slice A6 n6 c6) (.slice (some ⟨g7, 0, none⟩) m1 c7) (.slice A8 nb c8)) 42 (0, 0)) := ((Keep.setCell (fun i => i = g7) wc (p := ⟨g7, q, none⟩) rfl (Value.string PZ))).at HRc.out HGZ.out
      have hLn : MLists (wc.setCell ⟨g7, q, none⟩ (.string PZ)) ({ BM1 with vf := BM1.vf.set q PZ } : Mt) (.slice A5 n5 c5) (.slice A6 n6 c6) (.slice (some ⟨g7, 0, none⟩) m1 c7) (.slice A8 nb c8) := (HOc.out.setVf HVF.out HNM.out (by rw [HVF.out]; have := HM1.out; omega) q PZ)
      have hBn : Below w.heap.size w (wc.setCell ⟨g7, q, none⟩ (.string PZ)) := below_at Bc.out (Keep.setCell (fun i => i = g7) wc (p := ⟨g7, q, none⟩) rfl (Value.string PZ)) (own_new HOc.out.vf g7 rfl)
      have hNg : ({ BM1 with vf := BM1.vf.set q PZ } : Mt).good := good_vf HG.out HPK2.out
      have hCn : ∀ o f, checkM ({ BM1 with vf := BM1.vf.set q PZ } : Mt) (pkOf annaB) o f = 7 := fun o f => checkM_body (m := BM1) hNg hNv (by have := HBL.out; omega) (secOf_is (u := annaB) (by decide)) (by unfold pkOf; exact toL_mkB _) HSG.out rfl (fun e => set_ne (HVG.out q HQ.out) HPN.out (bodyM_inj e (by have := hNg.size hNv; omega) (Rt.right_good hNg.r) (Rt.right_good HG.out.r) hNv (by rw [HVER.out]; decide)).2.2.1)
      have hNw : ({ BM1 with vf := BM1.vf.set q PZ } : Mt).wf := hNg.wf (by exact hNv)
      obtain ⟨wn, hwn⟩ : ∃ x, wc.setCell ⟨g7, q, none⟩ (.string PZ) = x := ⟨_, rfl⟩
      rw [hwn] at hRn hLn hBn ⊢
      have HRn := Lib.hid hRn
      have HLn := Lib.hid hLn
      have Bn := Lib.hid hBn
      have HNg := Lib.hid hNg
      have HNw := Lib.hid hNw
      have HCn := Lib.hid hCn
      clear hRn hLn hBn hNg hNw hCn hwn
      obtain ⟨NM, hNM⟩ : ∃ x : Mt, ({ BM1 with vf := BM1.vf.set q PZ } : Mt) = x := ⟨_, rfl⟩
      rw [hNM] at HRn HLn HNg HNw HCn
      clear hNM k0 k1 k2 k3 k4 k5 k6 k7 k8
      have hrt := fun W hb => mright_calls W NM _ _ _ _ (HLn.out.below hb) (HT.out.below (Bn.out.trans (hb.mono Bn.out.size))) HNw.out
      have hck := fun W hb => check_calls W NM _ _ _ _ (pkOf annaB) annaB NM.r.file (HLn.out.below hb) (HT.out.below (Bn.out.trans (hb.mono Bn.out.size))) HNw.out (by obtain ⟨⟨_, _, _, h3⟩, _⟩ := pkOf_is (u := annaB) (by decide); rw [toL_len] at h3; omega)
      simp only [good_rightM HNg.out] at hrt
      simp only [HCn.out] at hck
      dsimp only [agM] at hrt hck
      have HPU := Lib.hid (fun W => publicOf8_calls annaB W (by decide))
      obtain ⟨PA, hPA⟩ : ∃ P, pkOf annaB = P := ⟨_, rfl⟩
      simp only [hPA] at HPU hck
      have HRT := Lib.hid hrt
      have HCK := Lib.hid hck
      have HS9 := Lib.hid (fun W2 hb => row9 ((Keep.of_below hb : Keep (fun _ => False) wn W2).at HRn.out fun e => e))
      clear hrt hck hPA
      refine wp_region_G (fun W2 => W2.cell? ⟨Zm, 0, none⟩ = some (.string NM.r.owner) ∧ W2.cell? ⟨Zm, 1, none⟩ = some (.string NM.r.file) ∧ W2.cell? ⟨Zm, 2, none⟩ = some (.int .i64 NM.r.epoch) ∧ W2.cell? ⟨Zm, 3, none⟩ = some (.slice A5 n5 c5) ∧ W2.cell? ⟨Zm, 4, none⟩ = some (.slice A6 n6 c6) ∧ W2.cell? ⟨Zm, 5, none⟩ = some (.int .u64 NM.ver) ∧ W2.cell? ⟨Zm, 6, none⟩ = some (.slice (some ⟨g7, 0, none⟩) m1 c7) ∧ W2.cell? ⟨Zm, 7, none⟩ = some (.slice A8 nb c8) ∧ W2.cell? ⟨Zm, 8, none⟩ = some (.string NM.sig)) [11] (by kernel_rfl) ?_
      have hb0 := below_self Bn.out
      have hS := HS9.out _ hb0
      refine wpAnyG_take (ws := [0,1,2,10]) (i := 0) (v := ?vz2xa0) at0 (by kernel_rfl) (fun _ _ _ h => h) (Or.inl ⟨by rfl, ?hz2xa0⟩) (by assumption) ?rz2xa0
      case hz2xa0 => (intro w hSw; (try dsimp only at hSw); go_simp; try with_reducible rfl)
      case' rz2xa0 => skip
      try simp only [Act.put, List.setIfInBounds_toArray, List.set_cons_zero, List.set_cons_succ]
      refine wpAnyG_one 1 at1 (by kernel_rfl) (fun Kn hK => ?_)
      go_simp
      refine (HRT.out _ hb0).mono ?_
      rintro e w11 ⟨rfl, hq1⟩
      have hb1 := hb0.trans (hq1.mono hb0.size)
      clear hS
      have hS := HS9.out _ hb1
      refine hK.out _ _ (Or.inr hS) ?_
      clear hK Kn hq1
      try simp only [Act.put, List.setIfInBounds_toArray, List.set_cons_zero, List.set_cons_succ]
      refine wpAnyG_pure (i := 2) (v := ?vz2xb2) at2 (by kernel_rfl) (fun _ _ _ h => h) (Or.inl ⟨by rfl, ?hz2xb2⟩) (Or.inr (by assumption)) ?rz2xb2
      case hz2xb2 => (intro w hSw; (try dsimp only at hSw); go_simp; try with_reducible rfl)
      case' rz2xb2 => skip
      try simp only [Act.put, List.setIfInBounds_toArray, List.set_cons_zero, List.set_cons_succ]
      refine wpAnyG_take (ws := [3,7,8,9,10]) (i := 3) (v := ?vz2xb3) at3 (by kernel_rfl) (fun _ _ _ h => h) (Or.inl ⟨by rfl, ?hz2xb3⟩) (by assumption) ?rz2xb3
      case hz2xb3 => (intro w hSw; (try dsimp only at hSw); go_simp; try with_reducible rfl)
      case' rz2xb3 => skip
      try simp only [Act.put, List.setIfInBounds_toArray, List.set_cons_zero, List.set_cons_succ]
      refine wpAnyG_pure (i := 5) (v := ?vz2xb5) at5 (by kernel_rfl) (fun _ _ _ h => h) (Or.inl ⟨by rfl, ?hz2xb5⟩) (Or.inr (by assumption)) ?rz2xb5
      case hz2xb5 => (intro w hSw; (try dsimp only at hSw); go_simp; try with_reducible rfl)
      case' rz2xb5 => skip
      try simp only [Act.put, List.setIfInBounds_toArray, List.set_cons_zero, List.set_cons_succ]
      refine wpAnyG_pure (i := 6) (v := ?vz2xb6) at6 (by kernel_rfl) (fun _ _ _ h => h) (Or.inl ⟨by rfl, ?hz2xb6⟩) (Or.inr (by assumption)) ?rz2xb6
      case hz2xb6 => (intro w hSw; (try dsimp only at hSw); go_simp; try with_reducible rfl)
      case' rz2xb6 => skip
      try simp only [Act.put, List.setIfInBounds_toArray, List.set_cons_zero, List.set_cons_succ]
      refine wpAnyG_take (ws := [3,7,8,9,10]) (i := 7) (v := ?vz2xb7) at7 (by kernel_rfl) (fun _ _ _ h => h) (Or.inl ⟨by rfl, ?hz2xb7⟩) (by assumption) ?rz2xb7
      case hz2xb7 => (intro w hSw; (try dsimp only at hSw); go_simp; try with_reducible rfl)
      case' rz2xb7 => skip
      try simp only [Act.put, List.setIfInBounds_toArray, List.set_cons_zero, List.set_cons_succ]
      refine wpAnyG_one 4 at4 (by kernel_rfl) (fun Kn hK => ?_)
      go_simp
      refine (HPU.out _).mono ?_
      rintro e w12 ⟨rfl, hq2⟩
      have hb2 := hb1.trans (hq2.mono hb1.size)
      clear hS
      have hS := HS9.out _ hb2
      refine hK.out _ _ (Or.inr hS) ?_
      clear hK Kn hq2
      try simp only [Act.put, List.setIfInBounds_toArray, List.set_cons_zero, List.set_cons_succ]
      refine wpAnyG_one 8 at8 (by kernel_rfl) (fun Kn hK => ?_)
      go_simp
      refine (HCK.out _ hb2).mono ?_
      rintro e w13 ⟨rfl, hq3⟩
      have hb3 := hb2.trans (hq3.mono hb2.size)
      clear hS
      have hS := HS9.out _ hb3
      refine hK.out _ _ (Or.inr hS) ?_
      clear hK Kn hq3
      try simp only [Act.put, List.setIfInBounds_toArray, List.set_cons_zero, List.set_cons_succ]
      refine wpAnyG_pure (i := 9) (v := ?vz2xc9) at9 (by kernel_rfl) (fun _ _ _ h => h) (Or.inl ⟨by rfl, ?hz2xc9⟩) (Or.inr (by assumption)) ?rz2xc9
      case hz2xc9 => (intro w hSw; (try dsimp only at hSw); go_simp; try with_reducible rfl)
      case' rz2xc9 => skip
      try simp only [Act.put, List.setIfInBounds_toArray, List.set_cons_zero, List.set_cons_succ]
      refine wpAnyG_pure (i := 10) (v := ?vz2xc10) at10 (by kernel_rfl) (fun _ _ _ h => h) (Or.inl ⟨by rfl, ?hz2xc10⟩) (Or.inr (by assumption)) ?rz2xc10
      case hz2xc10 => (intro w hSw; (try dsimp only at hSw); go_simp; try with_reducible rfl)
      case' rz2xc10 => skip
      try simp only [Act.put, List.setIfInBounds_toArray, List.set_cons_zero, List.set_cons_succ]
      refine wpAnyG_one 11 at11 (by kernel_rfl) (fun Kn hK => ?_)
      go_simp
      refine hK.out _ _ (Or.inl (by kernel_rfl)) ?_
      have HF := Lib.hid (Bn.out.trans (hb3.mono Bn.out.size))
      clear hK Kn hS hb0 hb1 hb2 hb3
      refine wpAnyG_done (by kernel_rfl) ?_
      try simp only [Act.put, List.setIfInBounds_toArray, List.set_cons_zero, List.set_cons_succ]
      go_wp2_with fail
      go_ret
      exact ⟨rfl, HF.out⟩
    · skip
      by_cases hn0 : nb = 0
      · have hn1 : ((nb : Int) == 0) = true := by rw [beq_iff_eq]; omega
        clear hn0
        go_wp2_with fail
        refine (HPK.out _).mono ?_
        rintro e w_ ⟨rfl, rfl⟩
        go_wp2_with fail
        go_ret
        exact ⟨rfl, Bb.out⟩
      have hn1 : ((nb : Int) == 0) = false := by rw [beq_eq_false_iff_ne]; omega
      have HN0 := Lib.hid hn0
      obtain ⟨q, hq, hqm⟩ : ∃ q : Nat, pickZ at_ nb = (q : Int) ∧ q < nb := by
        have := pickZ_lt at_ (n := nb) (by omega)
        exact ⟨(pickZ at_ nb).toNat, by omega, by omega⟩
      have HPM := Lib.hid (fun W => pick8_calls at_ nb W HAT.out.1 HAT.out.2 (by have := HN0.out; omega) (by have := HNB.out; omega))
      rw [hq] at HPM
      have HQ := Lib.hid hqm
      obtain ⟨⟨U, Y⟩, hY⟩ : ∃ x, BM1.bl[q]? = some x := ⟨_, List.getElem?_eq_getElem (by rw [HLEN.out.2.2]; exact hqm)⟩
      obtain ⟨hU5, hYe⟩ := HBX.out q U Y hY
      have HBU := Lib.hid hY
      have HU5 := Lib.hid hU5
      have HYE := Lib.hid hYe
      have HSO := Lib.hid (fun W => secretOf8_calls U W (by have := HU5.out; omega))
      have HPO := Lib.hid (fun W => public_small (secOf_is (u := U) (by have := HU5.out; omega)) W)
      have HAO := Lib.hid (fun W => tatom_calls 1 W (by decide))
      have hat1 : isT 1 10 (toL (mkB (ofAtom 1))) := by rw [toL_mkB]; exact ⟨.atom 1, rfl, (by show (1 : Nat) < 18446744073709551616; decide), (by have := wput_len_le (n := 1) (by decide); unfold ofAtom; rw [List.length_cons]; omega)⟩
      have hpu := pkOf_is (u := U) (by have := HU5.out; omega)
      have HBO := Lib.hid (fun W => tbox_ok hpu.1 hpu.2.choose_spec (hat1.mono (by omega) (Nat.le_refl _)) (by omega) W)
      have hpb : mkB (98 :: (toL (pkOf U) ++ toL (mkB (ofAtom 1)))) ≠ mkB (boxL r1 U (rootN 1) (lastB r1 (signL m1)) (pkOf U)) := by
        rw [toL_mkB]; exact zoe_box U _ _ _ (by have := HU5.out; omega)
      have hpk : kindL (toL (mkB (98 :: (toL (pkOf U) ++ toL (mkB (ofAtom 1)))))) = 98 := by
        rw [toL_mkB]
        obtain ⟨hp1, qq, hqq⟩ := hpu
        rw [hqq] at hp1 ⊢
        exact (hp1.box (hat1.mono (by omega) (Nat.le_refl _))).kind (by omega) (by omega)
      have hPOe : mkB (117 :: toL (secOf U)) = pkOf U := rfl
      simp only [hPOe] at HPO
      obtain ⟨PB, hPB⟩ : ∃ P, mkB (98 :: (toL (pkOf U) ++ toL (mkB (ofAtom 1)))) = P := ⟨_, rfl⟩
      obtain ⟨PU, hPU⟩ : ∃ P, pkOf U = P := ⟨_, rfl⟩
      obtain ⟨AT, hAT⟩ : ∃ P, mkB (ofAtom 1) = P := ⟨_, rfl⟩
      obtain ⟨SU, hSU⟩ : ∃ P, secOf U = P := ⟨_, rfl⟩
      rw [← hYe] at hpb
      simp only [hPB] at HBO hpb hpk
      simp only [hPU, hAT, hSU] at HBO HPO HAO HSO
      have HPB := Lib.hid hpb
      have HPB2 := Lib.hid hpk
      obtain ⟨g8, c8', e8, _, hcl⟩ := own_block HOb.out.bl (by rw [HLEN.out.2.2]; omega)
      obtain ⟨rfl, rfl⟩ : A8 = some ⟨g8, 0, none⟩ ∧ c8 = c8' := by cases e8; exact ⟨rfl, rfl⟩
      have hcc := (rows_own HOb.out.bl).cell2 hY
      obtain ⟨g8', o8, c8'', e8', _, _, hc1, hc2⟩ := hcc
      obtain ⟨rfl, rfl, rfl⟩ : g8 = g8' ∧ 0 = o8 ∧ c8 = c8'' := by cases e8'; exact ⟨rfl, rfl, rfl⟩
      rw [Nat.zero_add] at hc1 hc2
      have HGZ : Hid (¬ Zm = g8) := Lib.hid (fun e => own_ne_type HOb.out.bl HRb.out (by decide) (g := g8) rfl e.symm)
      have hss : ∀ W2, Below wb.heap.size wb W2 → (W2.cell? ⟨Zm, 7, none⟩ = some (.slice (some ⟨g8, 0, none⟩) nb c8) ∧ W2.cell? ⟨g8, q * 2, none⟩ = some (.string U) ∧ W2.cell? ⟨g8, q * 2 + 1, none⟩ = some (.string Y)) := fun W2 hb => ⟨(row9 ((Keep.of_below hb : Keep (fun _ => False) wb W2).at HRb.out fun e => e)).2.2.2.2.2.2.2.1, (Keep.of_below hb : Keep (fun _ => False) wb W2).cell hc1 fun e => e, (Keep.of_below hb : Keep (fun _ => False) wb W2).cell hc2 fun e => e⟩
      have HSS := Lib.hid hss
      clear hq hY hU5 hYe hat1 hpu hpb hpk hPOe hPB hPU hAT hSU e8 hcl hss hc1 hc2 e8' hn0
      go_wp2_with fail
      refine (HPK.out _).mono ?_
      rintro e w_ ⟨rfl, rfl⟩
      go_wp2_with fail
      refine wp_region_G (fun W2 => W2.cell? ⟨Zm, 7, none⟩ = some (.slice (some ⟨g8, 0, none⟩) nb c8) ∧ W2.cell? ⟨g8, q * 2, none⟩ = some (.string U) ∧ W2.cell? ⟨g8, q * 2 + 1, none⟩ = some (.string Y)) [15] (by kernel_rfl) ?_
      have hb0 : Below wb.heap.size wb wb.drew := (Below.refl _ wb).drew
      have hS := HSS.out _ hb0
      refine wpAnyG_pure (i := 0) (v := ?vc3a0) at0 (by kernel_rfl) (fun _ _ _ h => h) (Or.inl ⟨by rfl, ?hc3a0⟩) (Or.inr (by assumption)) ?rc3a0
      case hc3a0 => (intro w hSw; (try dsimp only at hSw); go_simp; try with_reducible rfl)
      case' rc3a0 => skip
      try simp only [Act.put, List.setIfInBounds_toArray, List.set_cons_zero, List.set_cons_succ]
      refine wpAnyG_take (ws := [0,1,2,3,4,5,6,7,8,9,10,11,12,13]) (i := 1) (v := ?vc3a1) at1 (by kernel_rfl) (fun _ _ _ h => h) (Or.inl ⟨by rfl, ?hc3a1⟩) (by assumption) ?rc3a1
      case hc3a1 => (intro w hSw; (try dsimp only at hSw); go_simp; try with_reducible rfl)
      case' rc3a1 => skip
      try simp only [Act.put, List.setIfInBounds_toArray, List.set_cons_zero, List.set_cons_succ]
      refine wpAnyG_pure (i := 2) (v := ?vc3a2) at2 (by kernel_rfl) (fun _ _ _ h => h) (Or.inl ⟨by rfl, ?hc3a2⟩) (Or.inr (by assumption)) ?rc3a2
      case hc3a2 => (intro w hSw; (try dsimp only at hSw); go_simp; try with_reducible rfl)
      case' rc3a2 => skip
      try simp only [Act.put, List.setIfInBounds_toArray, List.set_cons_zero, List.set_cons_succ]
      refine wpAnyG_pure (i := 3) (v := ?vc3a3) at3 (by kernel_rfl) (fun _ _ _ h => h) (Or.inl ⟨by rfl, ?hc3a3⟩) (Or.inr (by assumption)) ?rc3a3
      case hc3a3 => (intro w hSw; (try dsimp only at hSw); go_simp; try with_reducible rfl)
      case' rc3a3 => skip
      try simp only [Act.put, List.setIfInBounds_toArray, List.set_cons_zero, List.set_cons_succ]
      refine wpAnyG_take (ws := [0,1,2,3,4,5,6,7,8,9,10,11,12,13]) (i := 4) (v := ?vc3a4) at4 (by kernel_rfl) (fun _ _ _ h => h) (Or.inl ⟨by rfl, ?hc3a4⟩) (by assumption) ?rc3a4
      case hc3a4 => (intro w hSw; (try dsimp only at hSw); go_simp; try with_reducible rfl)
      case' rc3a4 => skip
      try simp only [Act.put, List.setIfInBounds_toArray, List.set_cons_zero, List.set_cons_succ]
      refine wpAnyG_pure (i := 5) (v := ?vc3a5) at5 (by kernel_rfl) (fun _ _ _ h => h) (Or.inl ⟨by rfl, ?hc3a5⟩) (Or.inr (by assumption)) ?rc3a5
      case hc3a5 => (intro w hSw; (try dsimp only at hSw); go_simp; try with_reducible rfl)
      case' rc3a5 => skip
      try simp only [Act.put, List.setIfInBounds_toArray, List.set_cons_zero, List.set_cons_succ]
      refine wpAnyG_one 6 at6 (by kernel_rfl) (fun Kn hK => ?_)
      go_simp
      refine (HPM.out _).mono ?_
      rintro e w_ ⟨rfl, rfl⟩
      refine hK.out _ _ (Or.inr hS) ?_
      clear hK Kn
      try simp only [Act.put, List.setIfInBounds_toArray, List.set_cons_zero, List.set_cons_succ]
      refine wpAnyG_pure (i := 7) (v := ?vc3b7) at7 (by kernel_rfl) (fun _ _ _ h => h) (Or.inl ⟨by rfl, ?hc3b7⟩) (Or.inr (by assumption)) ?rc3b7
      case hc3b7 => (intro w hSw; (try dsimp only at hSw); go_simp; try with_reducible rfl)
      case' rc3b7 => skip
      try simp only [Act.put, List.setIfInBounds_toArray, List.set_cons_zero, List.set_cons_succ]
      refine wpAnyG_pure (i := 8) (v := ?vc3b8) at8 (by kernel_rfl) (fun _ _ _ h => h) (Or.inl ⟨by rfl, ?hc3b8⟩) (Or.inr (by assumption)) ?rc3b8
      case hc3b8 => (intro w hSw; (try dsimp only at hSw); go_simp; try with_reducible rfl)
      case' rc3b8 => skip
      try simp only [Act.put, List.setIfInBounds_toArray, List.set_cons_zero, List.set_cons_succ]
      refine wpAnyG_take (ws := [0,1,2,3,4,5,6,7,8,9,10,11,12,13]) (i := 9) (v := ?vc3b9) at9 (by kernel_rfl) (fun _ _ _ h => h) (Or.inl ⟨by rfl, ?hc3b9⟩) (by assumption) ?rc3b9
      case hc3b9 => (intro w hSw; (try dsimp only at hSw); go_simp; try with_reducible rfl)
      case' rc3b9 => skip
      try simp only [Act.put, List.setIfInBounds_toArray, List.set_cons_zero, List.set_cons_succ]
      refine wpAnyG_one 10 at10 (by kernel_rfl) (fun Kn hK => ?_)
      go_simp
      refine (HSO.out _).mono ?_
      rintro e wc ⟨rfl, hbq⟩
      have hb1 := hb0.trans (hbq.mono hb0.size)
      clear hS
      have hS := HSS.out _ hb1
      refine hK.out _ _ (Or.inr hS) ?_
      clear hK Kn hbq
      try simp only [Act.put, List.setIfInBounds_toArray, List.set_cons_zero, List.set_cons_succ]
      refine wpAnyG_one 11 at11 (by kernel_rfl) (fun Kn hK => ?_)
      go_simp
      refine (HPO.out _).mono ?_
      rintro e wd ⟨rfl, hbq⟩
      have hb2 := hb1.trans (hbq.mono hb1.size)
      clear hS
      have hS := HSS.out _ hb2
      refine hK.out _ _ (Or.inr hS) ?_
      clear hK Kn hbq
      try simp only [Act.put, List.setIfInBounds_toArray, List.set_cons_zero, List.set_cons_succ]
      refine wpAnyG_pure (i := 12) (v := ?vc3c12) at12 (by kernel_rfl) (fun _ _ _ h => h) (Or.inl ⟨by rfl, ?hc3c12⟩) (Or.inr (by assumption)) ?rc3c12
      case hc3c12 => (intro w hSw; (try dsimp only at hSw); go_simp; try with_reducible rfl)
      case' rc3c12 => skip
      try simp only [Act.put, List.setIfInBounds_toArray, List.set_cons_zero, List.set_cons_succ]
      refine wpAnyG_pure (i := 13) (v := ?vc3c13) at13 (by kernel_rfl) (fun _ _ _ h => h) (Or.inl ⟨by rfl, ?hc3c13⟩) (Or.inr (by assumption)) ?rc3c13
      case hc3c13 => (intro w hSw; (try dsimp only at hSw); go_simp; try with_reducible rfl)
      case' rc3c13 => skip
      try simp only [Act.put, List.setIfInBounds_toArray, List.set_cons_zero, List.set_cons_succ]
      refine wpAnyG_pure (i := 14) (v := ?vc3c14) at14 (by kernel_rfl) (fun _ _ _ h => h) (Or.inl ⟨by rfl, ?hc3c14⟩) (Or.inr (by assumption)) ?rc3c14
      case hc3c14 => (intro w hSw; (try dsimp only at hSw); go_simp; try with_reducible rfl)
      case' rc3c14 => skip
      try simp only [Act.put, List.setIfInBounds_toArray, List.set_cons_zero, List.set_cons_succ]
      refine wpAnyG_one 15 at15 (by kernel_rfl) (fun Kn hK => ?_)
      go_simp
      refine hK.out _ _ (Or.inl (by kernel_rfl)) ?_
      clear hK Kn
      try simp only [Act.put, List.setIfInBounds_toArray, List.set_cons_zero, List.set_cons_succ]
      refine wpAnyG_one 16 at16 (by kernel_rfl) (fun Kn hK => ?_)
      go_simp
      refine hK.out _ _ (Or.inl (by kernel_rfl)) ?_
      clear hK Kn hS hb0 hb1
      refine wpAnyG_done (by kernel_rfl) ?_
      try simp only [Act.put, List.setIfInBounds_toArray, List.set_cons_zero, List.set_cons_succ]
      go_wp2_with fail
      refine (HAO.out _).mono ?_
      rintro e we ⟨rfl, hbq⟩
      have hb3 := hb2.trans (hbq.mono hb2.size)
      clear hbq hb2
      go_wp2_with fail
      refine (HBO.out _).mono ?_
      rintro e wf ⟨rfl, hbq⟩
      have hb4 := hb3.trans (hbq.mono hb3.size)
      clear hbq hb3
      go_wp2_with fail
      refine wp_region_G (fun W2 => W2.cell? ⟨Zm, 7, none⟩ = some (.slice (some ⟨g8, 0, none⟩) nb c8) ∧ W2.cell? ⟨g8, q * 2, none⟩ = some (.string U) ∧ W2.cell? ⟨g8, q * 2 + 1, none⟩ = some (.string Y)) [10] (by kernel_rfl) ?_
      have hb5 := hb4.drew
      have hS := HSS.out _ hb5
      refine wpAnyG_pure (i := 0) (v := ?vc3d0) at0 (by kernel_rfl) (fun _ _ _ h => h) (Or.inl ⟨by rfl, ?hc3d0⟩) (Or.inr (by assumption)) ?rc3d0
      case hc3d0 => (intro w hSw; (try dsimp only at hSw); go_simp; try with_reducible rfl)
      case' rc3d0 => skip
      try simp only [Act.put, List.setIfInBounds_toArray, List.set_cons_zero, List.set_cons_succ]
      refine wpAnyG_take (ws := [0,1,2,3,4,5,6,7,8,9]) (i := 1) (v := ?vc3d1) at1 (by kernel_rfl) (fun _ _ _ h => h) (Or.inl ⟨by rfl, ?hc3d1⟩) (by assumption) ?rc3d1
      case hc3d1 => (intro w hSw; (try dsimp only at hSw); go_simp; try with_reducible rfl)
      case' rc3d1 => skip
      try simp only [Act.put, List.setIfInBounds_toArray, List.set_cons_zero, List.set_cons_succ]
      refine wpAnyG_pure (i := 2) (v := ?vc3d2) at2 (by kernel_rfl) (fun _ _ _ h => h) (Or.inl ⟨by rfl, ?hc3d2⟩) (Or.inr (by assumption)) ?rc3d2
      case hc3d2 => (intro w hSw; (try dsimp only at hSw); go_simp; try with_reducible rfl)
      case' rc3d2 => skip
      try simp only [Act.put, List.setIfInBounds_toArray, List.set_cons_zero, List.set_cons_succ]
      refine wpAnyG_pure (i := 3) (v := ?vc3d3) at3 (by kernel_rfl) (fun _ _ _ h => h) (Or.inl ⟨by rfl, ?hc3d3⟩) (Or.inr (by assumption)) ?rc3d3
      case hc3d3 => (intro w hSw; (try dsimp only at hSw); go_simp; try with_reducible rfl)
      case' rc3d3 => skip
      try simp only [Act.put, List.setIfInBounds_toArray, List.set_cons_zero, List.set_cons_succ]
      refine wpAnyG_take (ws := [0,1,2,3,4,5,6,7,8,9]) (i := 4) (v := ?vc3d4) at4 (by kernel_rfl) (fun _ _ _ h => h) (Or.inl ⟨by rfl, ?hc3d4⟩) (by assumption) ?rc3d4
      case hc3d4 => (intro w hSw; (try dsimp only at hSw); go_simp; try with_reducible rfl)
      case' rc3d4 => skip
      try simp only [Act.put, List.setIfInBounds_toArray, List.set_cons_zero, List.set_cons_succ]
      refine wpAnyG_pure (i := 5) (v := ?vc3d5) at5 (by kernel_rfl) (fun _ _ _ h => h) (Or.inl ⟨by rfl, ?hc3d5⟩) (Or.inr (by assumption)) ?rc3d5
      case hc3d5 => (intro w hSw; (try dsimp only at hSw); go_simp; try with_reducible rfl)
      case' rc3d5 => skip
      try simp only [Act.put, List.setIfInBounds_toArray, List.set_cons_zero, List.set_cons_succ]
      refine wpAnyG_pure (i := 7) (v := ?vc3d7) at7 (by kernel_rfl) (fun _ _ _ h => h) (Or.inl ⟨by rfl, ?hc3d7⟩) (Or.inr (by assumption)) ?rc3d7
      case hc3d7 => (intro w hSw; (try dsimp only at hSw); go_simp; try with_reducible rfl)
      case' rc3d7 => skip
      try simp only [Act.put, List.setIfInBounds_toArray, List.set_cons_zero, List.set_cons_succ]
      refine wpAnyG_one 6 at6 (by kernel_rfl) (fun Kn hK => ?_)
      go_simp
      refine (HPM.out _).mono ?_
      rintro e w_ ⟨rfl, rfl⟩
      refine hK.out _ _ (Or.inr hS) ?_
      clear hK Kn
      try simp only [Act.put, List.setIfInBounds_toArray, List.set_cons_zero, List.set_cons_succ]
      refine wpAnyG_pure (i := 8) (v := ?vc3e8) at8 (by kernel_rfl) (fun _ _ _ h => h) (Or.inl ⟨by rfl, ?hc3e8⟩) (Or.inr (by assumption)) ?rc3e8
      case hc3e8 => (intro w hSw; (try dsimp only at hSw); go_simp; try with_reducible rfl)
      case' rc3e8 => skip
      try simp only [Act.put, List.setIfInBounds_toArray, List.set_cons_zero, List.set_cons_succ]
      refine wpAnyG_pure (i := 9) (v := ?vc3e9) at9 (by kernel_rfl) (fun _ _ _ h => h) (Or.inl ⟨by rfl, ?hc3e9⟩) (Or.inr (by assumption)) ?rc3e9
      case hc3e9 => (intro w hSw; (try dsimp only at hSw); go_simp; try with_reducible rfl)
      case' rc3e9 => skip
      try simp only [Act.put, List.setIfInBounds_toArray, List.set_cons_zero, List.set_cons_succ]
      have HRc := Lib.hid ((Keep.of_below hb4 : Keep (fun _ => False) wb wf).at HRb.out fun e => e)
      have HOc := Lib.hid (HOb.out.below hb4)
      have Bc := Lib.hid (Bb.out.trans (hb4.mono Bb.out.size))
      have hfz := own_frozen HOc.out.bl (q * 2 + 1)
      refine wpAnyG_one 10 at10 (by kernel_rfl) (fun Kn hK => ?_)
      go_simp
      refine hK.out _ _ (Or.inl (by kernel_rfl)) ?_
      clear hK Kn hS hb4 hb5 hfz
      refine wpAnyG_done (by kernel_rfl) ?_
      try simp only [Act.put, List.setIfInBounds_toArray, List.set_cons_zero, List.set_cons_succ]
      go_wp2_with fail
      have hNv : BM1.ver < 18446744073709551616 := (by rw [show BM1.ver = 5 from HVER.out]; decide)
      have hRn : ((wf.setCell ⟨g8, q * 2 + 1, none⟩ (.string PB)).drew).heap[Zm]? = some (.cells (mtCells ({ BM1 with bl := BM1.bl.set q (U, PB) } : Mt) (.slice A5 n5 c5) (.slice A6 n6 c6) (.slice A7 m1 c7) (.slice (some ⟨g8, 0, none⟩) nb c8)) 42 (0, 0)) := ((Keep.setCell (fun i => i = g8) wf (p := ⟨g8, (q * 2 + 1), none⟩) rfl (Value.string PB))).at HRc.out HGZ.out
      have hLn : MLists ((wf.setCell ⟨g8, q * 2 + 1, none⟩ (.string PB)).drew) ({ BM1 with bl := BM1.bl.set q (U, PB) } : Mt) (.slice A5 n5 c5) (.slice A6 n6 c6) (.slice A7 m1 c7) (.slice (some ⟨g8, 0, none⟩) nb c8) := (HOc.out.setBl HLEN.out.2.2 HBU.out PB).below (Below.refl _ _).drew
      have hBn : Below w.heap.size w ((wf.setCell ⟨g8, q * 2 + 1, none⟩ (.string PB)).drew) := below_at Bc.out ((Keep.setCell (fun i => i = g8) wf (p := ⟨g8, (q * 2 + 1), none⟩) rfl (Value.string PB)).same (Keep.drew _ _)) (own_new HOc.out.bl g8 rfl)
      have hNg : ({ BM1 with bl := BM1.bl.set q (U, PB) } : Mt).good := good_bl HG.out HBU.out HPB2.out
      have hCn : ∀ o f, checkM ({ BM1 with bl := BM1.bl.set q (U, PB) } : Mt) (pkOf annaB) o f = 7 := fun o f => checkM_body (m := BM1) hNg hNv (by have := HBL.out; omega) (secOf_is (u := annaB) (by decide)) (by unfold pkOf; exact toL_mkB _) HSG.out rfl (fun e => blk_set HBU.out HPB.out (by have := hNg.size hNv; omega) (bodyM_inj e (by have := hNg.size hNv; omega) (Rt.right_good hNg.r) (Rt.right_good HG.out.r) hNv (by rw [HVER.out]; decide)).2.2.2)
      have hNw : ({ BM1 with bl := BM1.bl.set q (U, PB) } : Mt).wf := hNg.wf (by exact hNv)
      obtain ⟨wn, hwn⟩ : ∃ x, (wf.setCell ⟨g8, q * 2 + 1, none⟩ (.string PB)).drew = x := ⟨_, rfl⟩
      rw [hwn] at hRn hLn hBn ⊢
      have HRn := Lib.hid hRn
      have HLn := Lib.hid hLn
      have Bn := Lib.hid hBn
      have HNg := Lib.hid hNg
      have HNw := Lib.hid hNw
      have HCn := Lib.hid hCn
      clear hRn hLn hBn hNg hNw hCn hwn
      obtain ⟨NM, hNM⟩ : ∃ x : Mt, ({ BM1 with bl := BM1.bl.set q (U, PB) } : Mt) = x := ⟨_, rfl⟩
      rw [hNM] at HRn HLn HNg HNw HCn
      clear hNM k0 k1 k2 k3 k4 k5 k6 k7 k8
      have hrt := fun W hb => mright_calls W NM _ _ _ _ (HLn.out.below hb) (HT.out.below (Bn.out.trans (hb.mono Bn.out.size))) HNw.out
      have hck := fun W hb => check_calls W NM _ _ _ _ (pkOf annaB) annaB NM.r.file (HLn.out.below hb) (HT.out.below (Bn.out.trans (hb.mono Bn.out.size))) HNw.out (by obtain ⟨⟨_, _, _, h3⟩, _⟩ := pkOf_is (u := annaB) (by decide); rw [toL_len] at h3; omega)
      simp only [good_rightM HNg.out] at hrt
      simp only [HCn.out] at hck
      dsimp only [agM] at hrt hck
      have HPU := Lib.hid (fun W => publicOf8_calls annaB W (by decide))
      obtain ⟨PA, hPA⟩ : ∃ P, pkOf annaB = P := ⟨_, rfl⟩
      simp only [hPA] at HPU hck
      have HRT := Lib.hid hrt
      have HCK := Lib.hid hck
      have HS9 := Lib.hid (fun W2 hb => row9 ((Keep.of_below hb : Keep (fun _ => False) wn W2).at HRn.out fun e => e))
      clear hrt hck hPA
      refine wp_region_G (fun W2 => W2.cell? ⟨Zm, 0, none⟩ = some (.string NM.r.owner) ∧ W2.cell? ⟨Zm, 1, none⟩ = some (.string NM.r.file) ∧ W2.cell? ⟨Zm, 2, none⟩ = some (.int .i64 NM.r.epoch) ∧ W2.cell? ⟨Zm, 3, none⟩ = some (.slice A5 n5 c5) ∧ W2.cell? ⟨Zm, 4, none⟩ = some (.slice A6 n6 c6) ∧ W2.cell? ⟨Zm, 5, none⟩ = some (.int .u64 NM.ver) ∧ W2.cell? ⟨Zm, 6, none⟩ = some (.slice A7 m1 c7) ∧ W2.cell? ⟨Zm, 7, none⟩ = some (.slice (some ⟨g8, 0, none⟩) nb c8) ∧ W2.cell? ⟨Zm, 8, none⟩ = some (.string NM.sig)) [11] (by kernel_rfl) ?_
      have hb0 := below_self Bn.out
      have hS := HS9.out _ hb0
      refine wpAnyG_take (ws := [0,1,2,10]) (i := 0) (v := ?vz3a0) at0 (by kernel_rfl) (fun _ _ _ h => h) (Or.inl ⟨by rfl, ?hz3a0⟩) (by assumption) ?rz3a0
      case hz3a0 => (intro w hSw; (try dsimp only at hSw); go_simp; try with_reducible rfl)
      case' rz3a0 => skip
      try simp only [Act.put, List.setIfInBounds_toArray, List.set_cons_zero, List.set_cons_succ]
      refine wpAnyG_one 1 at1 (by kernel_rfl) (fun Kn hK => ?_)
      go_simp
      refine (HRT.out _ hb0).mono ?_
      rintro e w11 ⟨rfl, hq1⟩
      have hb1 := hb0.trans (hq1.mono hb0.size)
      clear hS
      have hS := HS9.out _ hb1
      refine hK.out _ _ (Or.inr hS) ?_
      clear hK Kn hq1
      try simp only [Act.put, List.setIfInBounds_toArray, List.set_cons_zero, List.set_cons_succ]
      refine wpAnyG_pure (i := 2) (v := ?vz3b2) at2 (by kernel_rfl) (fun _ _ _ h => h) (Or.inl ⟨by rfl, ?hz3b2⟩) (Or.inr (by assumption)) ?rz3b2
      case hz3b2 => (intro w hSw; (try dsimp only at hSw); go_simp; try with_reducible rfl)
      case' rz3b2 => skip
      try simp only [Act.put, List.setIfInBounds_toArray, List.set_cons_zero, List.set_cons_succ]
      refine wpAnyG_take (ws := [3,7,8,9,10]) (i := 3) (v := ?vz3b3) at3 (by kernel_rfl) (fun _ _ _ h => h) (Or.inl ⟨by rfl, ?hz3b3⟩) (by assumption) ?rz3b3
      case hz3b3 => (intro w hSw; (try dsimp only at hSw); go_simp; try with_reducible rfl)
      case' rz3b3 => skip
      try simp only [Act.put, List.setIfInBounds_toArray, List.set_cons_zero, List.set_cons_succ]
      refine wpAnyG_pure (i := 5) (v := ?vz3b5) at5 (by kernel_rfl) (fun _ _ _ h => h) (Or.inl ⟨by rfl, ?hz3b5⟩) (Or.inr (by assumption)) ?rz3b5
      case hz3b5 => (intro w hSw; (try dsimp only at hSw); go_simp; try with_reducible rfl)
      case' rz3b5 => skip
      try simp only [Act.put, List.setIfInBounds_toArray, List.set_cons_zero, List.set_cons_succ]
      refine wpAnyG_pure (i := 6) (v := ?vz3b6) at6 (by kernel_rfl) (fun _ _ _ h => h) (Or.inl ⟨by rfl, ?hz3b6⟩) (Or.inr (by assumption)) ?rz3b6
      case hz3b6 => (intro w hSw; (try dsimp only at hSw); go_simp; try with_reducible rfl)
      case' rz3b6 => skip
      try simp only [Act.put, List.setIfInBounds_toArray, List.set_cons_zero, List.set_cons_succ]
      refine wpAnyG_take (ws := [3,7,8,9,10]) (i := 7) (v := ?vz3b7) at7 (by kernel_rfl) (fun _ _ _ h => h) (Or.inl ⟨by rfl, ?hz3b7⟩) (by assumption) ?rz3b7
      case hz3b7 => (intro w hSw; (try dsimp only at hSw); go_simp; try with_reducible rfl)
      case' rz3b7 => skip
      try simp only [Act.put, List.setIfInBounds_toArray, List.set_cons_zero, List.set_cons_succ]
      refine wpAnyG_one 4 at4 (by kernel_rfl) (fun Kn hK => ?_)
      go_simp
      refine (HPU.out _).mono ?_
      rintro e w12 ⟨rfl, hq2⟩
      have hb2 := hb1.trans (hq2.mono hb1.size)
      clear hS
      have hS := HS9.out _ hb2
      refine hK.out _ _ (Or.inr hS) ?_
      clear hK Kn hq2
      try simp only [Act.put, List.setIfInBounds_toArray, List.set_cons_zero, List.set_cons_succ]
      refine wpAnyG_one 8 at8 (by kernel_rfl) (fun Kn hK => ?_)
      go_simp
      refine (HCK.out _ hb2).mono ?_
      rintro e w13 ⟨rfl, hq3⟩
      have hb3 := hb2.trans (hq3.mono hb2.size)
      clear hS
      have hS := HS9.out _ hb3
      refine hK.out _ _ (Or.inr hS) ?_
      clear hK Kn hq3
      try simp only [Act.put, List.setIfInBounds_toArray, List.set_cons_zero, List.set_cons_succ]
      refine wpAnyG_pure (i := 9) (v := ?vz3c9) at9 (by kernel_rfl) (fun _ _ _ h => h) (Or.inl ⟨by rfl, ?hz3c9⟩) (Or.inr (by assumption)) ?rz3c9
      case hz3c9 => (intro w hSw; (try dsimp only at hSw); go_simp; try with_reducible rfl)
      case' rz3c9 => skip
      try simp only [Act.put, List.setIfInBounds_toArray, List.set_cons_zero, List.set_cons_succ]
      refine wpAnyG_pure (i := 10) (v := ?vz3c10) at10 (by kernel_rfl) (fun _ _ _ h => h) (Or.inl ⟨by rfl, ?hz3c10⟩) (Or.inr (by assumption)) ?rz3c10
      case hz3c10 => (intro w hSw; (try dsimp only at hSw); go_simp; try with_reducible rfl)
      case' rz3c10 => skip
      try simp only [Act.put, List.setIfInBounds_toArray, List.set_cons_zero, List.set_cons_succ]
      refine wpAnyG_one 11 at11 (by kernel_rfl) (fun Kn hK => ?_)
      go_simp
      refine hK.out _ _ (Or.inl (by kernel_rfl)) ?_
      have HF := Lib.hid (Bn.out.trans (hb3.mono Bn.out.size))
      clear hK Kn hS hb0 hb1 hb2 hb3
      refine wpAnyG_done (by kernel_rfl) ?_
      try simp only [Act.put, List.setIfInBounds_toArray, List.set_cons_zero, List.set_cons_succ]
      go_wp2_with fail
      go_ret
      exact ⟨rfl, HF.out⟩
    · skip
      have htl := HBL.out
      have htt : isT 1 3510 (116 :: wtext (bodyM BM1)) := by
        have := wtext_len_le (t := bodyM BM1) (by omega)
        exact isT_text (by rw [List.length_cons]; omega) (by omega)
      have hTX := fun W => ttext_calls BB W (by rw [← HBB.out, mkB_size]; omega)
      have hTL : toL BB = bodyM BM1 := by rw [← HBB.out]; exact toL_mkB _
      have hTE : ofText (toL BB) = .ok (116 :: wtext (bodyM BM1)) := by rw [hTL]; exact ofText_is (by obtain ⟨_, _, _, h3⟩ := htt; omega)
      simp only [hTE] at hTX
      have hSB := secOf_is (u := benB) (by decide)
      have hSI : isT 4 3510 (toL (mkB (116 :: wtext (bodyM BM1)))) := by rw [toL_mkB]; exact htt.mono (by omega) (Nat.le_refl _)
      have HSN := Lib.hid (fun W => tsign_ok hSB hSI (by omega) W)
      have HSC := Lib.hid (fun W => secretOf8_calls benB W (by decide))
      have hsn : toL (mkB (103 :: (toL (secOf benB) ++ toL (mkB (116 :: wtext (bodyM BM1)))))) ≠ 103 :: (toL (secOf annaB) ++ 116 :: wtext (bodyM BM1)) := by
        rw [toL_mkB, toL_mkB]
        exact fun e => ben_anna (toL_inj (List.append_cancel_right (List.cons.inj e).2))
      have hsk : kindL (toL (mkB (103 :: (toL (secOf benB) ++ toL (mkB (116 :: wtext (bodyM BM1))))))) = 103 := by
        rw [toL_mkB]; exact (hSB.two hSI rfl (by decide)).kind (by omega) (by omega)
      obtain ⟨TX, hTXn⟩ : ∃ x, mkB (116 :: wtext (bodyM BM1)) = x := ⟨_, rfl⟩
      have hTV : exV (.ok (116 :: wtext (bodyM BM1))) = .tuple #[.string TX, .int .i64 0] := by rw [← hTXn]; rfl
      simp only [hTV] at hTX
      simp only [hTXn] at HSN hsn hsk
      obtain ⟨SB, hSBn⟩ : ∃ x, secOf benB = x := ⟨_, rfl⟩
      simp only [hSBn] at HSN HSC hsn hsk
      obtain ⟨SG, hSG⟩ : ∃ x, mkB (103 :: (toL SB ++ toL TX)) = x := ⟨_, rfl⟩
      simp only [hSG] at HSN hsn hsk
      have HTX := Lib.hid hTX
      have HSNE := Lib.hid hsn
      have HSK := Lib.hid hsk
      clear htl htt hTX hTL hTE hSB hSI hsn hsk hTXn hTV hSBn hSG
      go_wp2_with fail
      refine (HPK.out _).mono ?_
      rintro e w_ ⟨rfl, rfl⟩
      go_wp2_with fail
      refine (HTX.out _).mono ?_
      rintro e wc ⟨rfl, hbc⟩
      clear k0 k1 k2 k3 k4 k5 k6 k7 k8
      go_wp2_with fail
      refine (HSC.out _).mono ?_
      rintro e we ⟨rfl, hbe⟩
      go_wp2_with fail
      refine (HSN.out _).mono ?_
      rintro e wd ⟨rfl, hbd⟩
      have hbx := hbc.trans ((hbe.trans (hbd.mono hbe.size)).mono hbc.size)
      have Bc := Lib.hid (Bb.out.trans (hbx.mono Bb.out.size))
      have HRc := Lib.hid ((Keep.of_below hbx : Keep (fun _ => False) wb wd).at HRb.out fun e => e)
      have HOc := Lib.hid (HOb.out.below hbx)
      clear hbc hbe hbd hbx
      obtain ⟨k0, k1, k2, k3, k4, k5, k6, k7, k8⟩ := row9 HRc.out
      have hfz := frozen_of_row HRc.out 8
      go_wp2_with fail
      clear hfz
      have hNv : BM1.ver < 18446744073709551616 := (by rw [show BM1.ver = 5 from HVER.out]; decide)
      have hRn : (wd.setCell ⟨Zm, 8, none⟩ (.string SG)).heap[Zm]? = some (.cells (mtCells ({ BM1 with sig := SG } : Mt) (.slice A5 n5 c5) (.slice A6 n6 c6) (.slice A7 m1 c7) (.slice A8 nb c8)) 42 (0, 0)) := by rw [set_at HRc.out]; rfl
      have hLn : MLists (wd.setCell ⟨Zm, 8, none⟩ (.string SG)) ({ BM1 with sig := SG } : Mt) (.slice A5 n5 c5) (.slice A6 n6 c6) (.slice A7 m1 c7) (.slice A8 nb c8) := ((HOc.out.store HRc.out (Keep.setCell (fun i => i = Zm) wd (p := ⟨Zm, 8, none⟩) rfl (.string SG))).lists : MLists _ BM1 _ _ _ _) |> fun h => ⟨h.rt, h.vf, h.bl⟩
      have hBn : Below w.heap.size w (wd.setCell ⟨Zm, 8, none⟩ (.string SG)) := below_at Bc.out (Keep.setCell (fun i => i = Zm) wd (p := ⟨Zm, 8, none⟩) rfl (.string SG)) HZZ.out
      have hNg : ({ BM1 with sig := SG } : Mt).good := good_sig HG.out HSK.out
      have hCn : ∀ o f, checkM ({ BM1 with sig := SG } : Mt) (pkOf annaB) o f = 7 := fun o f => checkM_seven hNg (q := toL (secOf annaB)) (by unfold pkOf; exact toL_mkB _) (pkOf_kind (by decide)) HSNE.out
      have hNw : ({ BM1 with sig := SG } : Mt).wf := hNg.wf (by exact hNv)
      obtain ⟨wn, hwn⟩ : ∃ x, wd.setCell ⟨Zm, 8, none⟩ (.string SG) = x := ⟨_, rfl⟩
      rw [hwn] at hRn hLn hBn ⊢
      have HRn := Lib.hid hRn
      have HLn := Lib.hid hLn
      have Bn := Lib.hid hBn
      have HNg := Lib.hid hNg
      have HNw := Lib.hid hNw
      have HCn := Lib.hid hCn
      clear hRn hLn hBn hNg hNw hCn hwn
      obtain ⟨NM, hNM⟩ : ∃ x : Mt, ({ BM1 with sig := SG } : Mt) = x := ⟨_, rfl⟩
      rw [hNM] at HRn HLn HNg HNw HCn
      clear hNM k0 k1 k2 k3 k4 k5 k6 k7 k8
      have hrt := fun W hb => mright_calls W NM _ _ _ _ (HLn.out.below hb) (HT.out.below (Bn.out.trans (hb.mono Bn.out.size))) HNw.out
      have hck := fun W hb => check_calls W NM _ _ _ _ (pkOf annaB) annaB NM.r.file (HLn.out.below hb) (HT.out.below (Bn.out.trans (hb.mono Bn.out.size))) HNw.out (by obtain ⟨⟨_, _, _, h3⟩, _⟩ := pkOf_is (u := annaB) (by decide); rw [toL_len] at h3; omega)
      simp only [good_rightM HNg.out] at hrt
      simp only [HCn.out] at hck
      dsimp only [agM] at hrt hck
      have HPU := Lib.hid (fun W => publicOf8_calls annaB W (by decide))
      obtain ⟨PA, hPA⟩ : ∃ P, pkOf annaB = P := ⟨_, rfl⟩
      simp only [hPA] at HPU hck
      have HRT := Lib.hid hrt
      have HCK := Lib.hid hck
      have HS9 := Lib.hid (fun W2 hb => row9 ((Keep.of_below hb : Keep (fun _ => False) wn W2).at HRn.out fun e => e))
      clear hrt hck hPA
      refine wp_region_G (fun W2 => W2.cell? ⟨Zm, 0, none⟩ = some (.string NM.r.owner) ∧ W2.cell? ⟨Zm, 1, none⟩ = some (.string NM.r.file) ∧ W2.cell? ⟨Zm, 2, none⟩ = some (.int .i64 NM.r.epoch) ∧ W2.cell? ⟨Zm, 3, none⟩ = some (.slice A5 n5 c5) ∧ W2.cell? ⟨Zm, 4, none⟩ = some (.slice A6 n6 c6) ∧ W2.cell? ⟨Zm, 5, none⟩ = some (.int .u64 NM.ver) ∧ W2.cell? ⟨Zm, 6, none⟩ = some (.slice A7 m1 c7) ∧ W2.cell? ⟨Zm, 7, none⟩ = some (.slice A8 nb c8) ∧ W2.cell? ⟨Zm, 8, none⟩ = some (.string NM.sig)) [11] (by kernel_rfl) ?_
      have hb0 := below_self Bn.out
      have hS := HS9.out _ hb0
      refine wpAnyG_take (ws := [0,1,2,10]) (i := 0) (v := ?vz4a0) at0 (by kernel_rfl) (fun _ _ _ h => h) (Or.inl ⟨by rfl, ?hz4a0⟩) (by assumption) ?rz4a0
      case hz4a0 => (intro w hSw; (try dsimp only at hSw); go_simp; try with_reducible rfl)
      case' rz4a0 => skip
      try simp only [Act.put, List.setIfInBounds_toArray, List.set_cons_zero, List.set_cons_succ]
      refine wpAnyG_one 1 at1 (by kernel_rfl) (fun Kn hK => ?_)
      go_simp
      refine (HRT.out _ hb0).mono ?_
      rintro e w11 ⟨rfl, hq1⟩
      have hb1 := hb0.trans (hq1.mono hb0.size)
      clear hS
      have hS := HS9.out _ hb1
      refine hK.out _ _ (Or.inr hS) ?_
      clear hK Kn hq1
      try simp only [Act.put, List.setIfInBounds_toArray, List.set_cons_zero, List.set_cons_succ]
      refine wpAnyG_pure (i := 2) (v := ?vz4b2) at2 (by kernel_rfl) (fun _ _ _ h => h) (Or.inl ⟨by rfl, ?hz4b2⟩) (Or.inr (by assumption)) ?rz4b2
      case hz4b2 => (intro w hSw; (try dsimp only at hSw); go_simp; try with_reducible rfl)
      case' rz4b2 => skip
      try simp only [Act.put, List.setIfInBounds_toArray, List.set_cons_zero, List.set_cons_succ]
      refine wpAnyG_take (ws := [3,7,8,9,10]) (i := 3) (v := ?vz4b3) at3 (by kernel_rfl) (fun _ _ _ h => h) (Or.inl ⟨by rfl, ?hz4b3⟩) (by assumption) ?rz4b3
      case hz4b3 => (intro w hSw; (try dsimp only at hSw); go_simp; try with_reducible rfl)
      case' rz4b3 => skip
      try simp only [Act.put, List.setIfInBounds_toArray, List.set_cons_zero, List.set_cons_succ]
      refine wpAnyG_pure (i := 5) (v := ?vz4b5) at5 (by kernel_rfl) (fun _ _ _ h => h) (Or.inl ⟨by rfl, ?hz4b5⟩) (Or.inr (by assumption)) ?rz4b5
      case hz4b5 => (intro w hSw; (try dsimp only at hSw); go_simp; try with_reducible rfl)
      case' rz4b5 => skip
      try simp only [Act.put, List.setIfInBounds_toArray, List.set_cons_zero, List.set_cons_succ]
      refine wpAnyG_pure (i := 6) (v := ?vz4b6) at6 (by kernel_rfl) (fun _ _ _ h => h) (Or.inl ⟨by rfl, ?hz4b6⟩) (Or.inr (by assumption)) ?rz4b6
      case hz4b6 => (intro w hSw; (try dsimp only at hSw); go_simp; try with_reducible rfl)
      case' rz4b6 => skip
      try simp only [Act.put, List.setIfInBounds_toArray, List.set_cons_zero, List.set_cons_succ]
      refine wpAnyG_take (ws := [3,7,8,9,10]) (i := 7) (v := ?vz4b7) at7 (by kernel_rfl) (fun _ _ _ h => h) (Or.inl ⟨by rfl, ?hz4b7⟩) (by assumption) ?rz4b7
      case hz4b7 => (intro w hSw; (try dsimp only at hSw); go_simp; try with_reducible rfl)
      case' rz4b7 => skip
      try simp only [Act.put, List.setIfInBounds_toArray, List.set_cons_zero, List.set_cons_succ]
      refine wpAnyG_one 4 at4 (by kernel_rfl) (fun Kn hK => ?_)
      go_simp
      refine (HPU.out _).mono ?_
      rintro e w12 ⟨rfl, hq2⟩
      have hb2 := hb1.trans (hq2.mono hb1.size)
      clear hS
      have hS := HS9.out _ hb2
      refine hK.out _ _ (Or.inr hS) ?_
      clear hK Kn hq2
      try simp only [Act.put, List.setIfInBounds_toArray, List.set_cons_zero, List.set_cons_succ]
      refine wpAnyG_one 8 at8 (by kernel_rfl) (fun Kn hK => ?_)
      go_simp
      refine (HCK.out _ hb2).mono ?_
      rintro e w13 ⟨rfl, hq3⟩
      have hb3 := hb2.trans (hq3.mono hb2.size)
      clear hS
      have hS := HS9.out _ hb3
      refine hK.out _ _ (Or.inr hS) ?_
      clear hK Kn hq3
      try simp only [Act.put, List.setIfInBounds_toArray, List.set_cons_zero, List.set_cons_succ]
      refine wpAnyG_pure (i := 9) (v := ?vz4c9) at9 (by kernel_rfl) (fun _ _ _ h => h) (Or.inl ⟨by rfl, ?hz4c9⟩) (Or.inr (by assumption)) ?rz4c9
      case hz4c9 => (intro w hSw; (try dsimp only at hSw); go_simp; try with_reducible rfl)
      case' rz4c9 => skip
      try simp only [Act.put, List.setIfInBounds_toArray, List.set_cons_zero, List.set_cons_succ]
      refine wpAnyG_pure (i := 10) (v := ?vz4c10) at10 (by kernel_rfl) (fun _ _ _ h => h) (Or.inl ⟨by rfl, ?hz4c10⟩) (Or.inr (by assumption)) ?rz4c10
      case hz4c10 => (intro w hSw; (try dsimp only at hSw); go_simp; try with_reducible rfl)
      case' rz4c10 => skip
      try simp only [Act.put, List.setIfInBounds_toArray, List.set_cons_zero, List.set_cons_succ]
      refine wpAnyG_one 11 at11 (by kernel_rfl) (fun Kn hK => ?_)
      go_simp
      refine hK.out _ _ (Or.inl (by kernel_rfl)) ?_
      have HF := Lib.hid (Bn.out.trans (hb3.mono Bn.out.size))
      clear hK Kn hS hb0 hb1 hb2 hb3
      refine wpAnyG_done (by kernel_rfl) ?_
      try simp only [Act.put, List.setIfInBounds_toArray, List.set_cons_zero, List.set_cons_succ]
      go_wp2_with fail
      go_ret
      exact ⟨rfl, HF.out⟩
end Go.Proofs.YtckblcfkajpofaaGreatDoor
