/- law 8: MetaBack. (Printed by tools/gmz.py.) -/
import Derived.Test.YtckblcfkajpofaaGreatDoorZMw
import Derived.Test.YtckblcfkajpofaaGreatDoorZSa
import Derived.Lib.ConvBytes
namespace Go.Proofs.YtckblcfkajpofaaGreatDoor
open Go.RowKit Go.Sort
set_option linter.unusedVariables false
set_option linter.unusedSimpArgs false

abbrev noteB : ByteArray := ⟨#[110, 111, 116, 101]⟩
theorem bytes_ne {a b : ByteArray} (h : a.data.toList ≠ b.data.toList) : a ≠ b := fun e => h (by rw [e])
theorem xor_byte (x : UInt8) : bits .xor .u8 (x.toNat : Int) 1 = ((x ^^^ 1).toNat : Int) := by
  have hx := x.toNat_lt
  show IntKind.wrap .u8 (((BitVec.ofInt 8 (x.toNat : Int)) ^^^ (BitVec.ofInt 8 ((1 : Nat) : Int))).toNat : Int) = _
  rw [BitVec.ofInt_natCast, BitVec.ofInt_natCast, BitVec.toNat_xor, BitVec.toNat_ofNat, BitVec.toNat_ofNat, Nat.mod_eq_of_lt (by omega), Nat.mod_eq_of_lt (by decide), IntKind.wrap_u8]
  have h2 : (x ^^^ 1).toNat = x.toNat ^^^ 1 := by rw [UInt8.toNat_xor]; rfl
  have h3 := (x ^^^ 1).toNat_lt
  rw [h2] at h3 ⊢
  omega
theorem xor_ne (x : UInt8) : x ^^^ 1 ≠ x := by
  intro e
  have h1 : x ^^^ (x ^^^ 1) = x ^^^ x := by rw [e]
  rw [← UInt8.xor_assoc, UInt8.xor_self, UInt8.zero_xor] at h1
  revert h1; decide
/-- bytes of a string, one of them written: the string of them -/
theorem conv_written {w : World} {S : ByteArray} {k : Nat} (hk : k < S.size) (y : UInt8) (cap : Nat) :
    (convert 89 9 (.slice (some ⟨w.heap.size, 0, none⟩) S.size cap)).run Tryz.prog ((Lib.bytesWorld w 5 S).setCell ⟨w.heap.size, k, none⟩ (.int .u8 (y.toNat : Int))) = .ok (.string (mkB ((toL S).set k y))) ((Lib.bytesWorld w 5 S).setCell ⟨w.heap.size, k, none⟩ (.int .u8 (y.toNat : Int))) := by
  have hl : ((toL S).set k y).length = S.size := by rw [List.length_set, toL_len]
  have := run_convert_bytes_back (P := Tryz.prog) ((Lib.bytesWorld w 5 S).setCell ⟨w.heap.size, k, none⟩ (.int .u8 (y.toNat : Int))) 89 9 5 ⟨w.heap.size, 0, none⟩ cap ((toL S).set k y) Tryz.underlying89 Tryz.underlying5 Tryz.underlying9 (fun j hj => by
    have hj2 : j < S.size := by omega
    have hc := Lib.bytesWorld_cell w 5 S j hj2
    rw [add_at, Nat.zero_add]
    by_cases e : k = j
    · subst e
      rw [World.cell?_setCell_same _ _ _ hc, List.getElem_set_self]
    · rw [World.cell?_setCell_other _ _ _ _ (by intro h; cases h; exact e rfl), hc, List.getElem_set_ne e]
      rw [List.getD_eq_getElem?_getD, List.getElem?_eq_getElem (by rw [list_size]; exact hj2)]; rfl)
  rw [hl] at this
  exact this
theorem bytes_frozen (w : World) (S : ByteArray) {k : Nat} (hk : k < S.size) : (Lib.bytesWorld w 5 S).frozen? ⟨w.heap.size, k, none⟩ = false := by
  unfold World.frozen?
  simp only [Lib.bytesWorld_at_new]
  have h1 : S.size ≤ (Lib.bytesCells w 5 S).size := by unfold Lib.bytesCells; rw [Array.size_append, Array.size_map]; exact Nat.le_add_right _ _
  have h2 : ¬ (Lib.bytesCells w 5 S).size ≤ k := by omega
  simp [h2]
set_option maxRecDepth 100000 in
set_option maxHeartbeats 8000000 in
theorem metaBack_calls (w : World) (v1 : Value) (l1 : List (Int × Int)) (ver : Nat) (root at_ : Int) (hv1 : rowsOf 2 turnRow w v1 l1) (hw1 : ∀ t ∈ l1, turnWf t) (hver : ver < 18446744073709551616) (hq1 : -9223372036854775808 ≤ root) (hq2 : root ≤ 9223372036854775807) (hq3 : -9223372036854775808 ≤ at_) (hq4 : at_ ≤ 9223372036854775807) (hT : Tabs w) :
    Calls Tryz.prog 6 #[v1, .int .u64 ver, .int .i64 root, .int .i64 at_] w fun e w' => e = .returned (.bool true) ∧ Below w.heap.size w w' := by
  have HS1 := Lib.hid (shown8_calls w hT)
  have HT := Lib.hid hT
  obtain ⟨A1, c1, rfl, q1, q2⟩ := rowsOf.form hv1
  have HV1 := Lib.hid hv1
  have HW1 := Lib.hid hw1
  obtain ⟨n1, hn1⟩ : ∃ n, l1.length = n := ⟨_, rfl⟩
  rw [hn1] at q1 q2 HV1 ⊢
  obtain ⟨R, hR⟩ : ∃ R, (pickZ root 5).toNat = R := ⟨_, rfl⟩
  have hR5 : R < 5 := by have := pickZ_lt root (n := 5) (by decide); omega
  have HRO := Lib.hid (fun W => rootOf8_calls root W hq1 hq2)
  rw [hR] at HRO
  have HAT := Lib.hid (And.intro hq3 hq4)
  have HR5 := Lib.hid hR5
  have HVER := Lib.hid hver
  clear hq1 hq2 hq3 hq4 hR hR5 hver
  clear hv1 hw1 hT
  have HN1 := Lib.hid hn1
  clear hn1
  go_enter Tryz.func6, Tryz.ntmps6
  go_wp2_with fail
  refine HS1.out.mono ?_
  rintro e w1 ⟨rfl, hb1⟩
  have B1 := Lib.hid hb1
  clear hb1
  have HTU1 := Lib.hid (turned8_calls w1 _ l1 (HV1.out.below B1.out) HW1.out)
  go_wp2_with fail
  refine HTU1.out.mono ?_
  rintro e w2 ⟨⟨vr2, vw2, rfl, hl2⟩, hb2⟩
  have HOK1 := Lib.hid (turnedP_ok l1)
  obtain ⟨r1, hr1⟩ : ∃ r, turnedP l1 = r := ⟨_, rfl⟩
  rw [hr1] at hl2 HOK1 ⊢
  obtain ⟨D3, cD3, rfl, _, _⟩ := hl2.rd.form
  obtain ⟨E3, cE3, rfl, _, _⟩ := hl2.wr.form
  have B2 := Lib.hid (B1.out.trans (hb2.mono B1.out.size))
  have HL2 := Lib.hid hl2
  clear hl2 hb2 hr1
  dsimp only [agR]
  go_wp2_with (with_reducible refine wp_stop_store (o := ⟨none, .store _ (.tmp 10) _, _, _, _, _⟩) _ _ _ rfl ?_)
  unfold Stop
  refine wp_store_all rfl _ _ _ rfl rfl rfl _ _ ((get_alloc _ _ _).trans (if_pos rfl)) info_rt rfl (by simp [Value.oneCell']) ?_
  intro w4 h4 k4 s4
  obtain ⟨Z1, hZ1⟩ : ∃ Z, w2.heap.size = Z := ⟨_, rfl⟩
  have hb24 : Below w2.heap.size w2 w4 := below_at ((Below.refl w2.heap.size w2).alloc (Nat.le_refl _) _) k4 (Nat.le_refl _)
  have B4 := Lib.hid (B2.out.trans (hb24.mono B2.out.size))
  have HLw4 := Lib.hid (HL2.out.below hb24)
  rw [hZ1] at h4 ⊢
  have HZw4 := Lib.hid h4
  clear hb24 h4 k4 s4 hZ1
  obtain ⟨m1, hm1⟩ : ∃ m, (r1.epoch + 1).toNat = m := ⟨_, rfl⟩
  have g1 := Rt.right_good HOK1.out.right
  have u1 := g1.lo
  have u2 := g1.hi
  have hwr1 : IntKind.i64.wrap (r1.epoch + 1) = (m1 : Int) := by
    rw [show (m1 : Int) = r1.epoch + 1 by omega]
    simp only [IntKind.wrap, IntKind.bits, IntKind.signed]
    first | omega | (simp; omega) | (split <;> omega)
  have HM1 : Hid ((r1.epoch + 1 : Int) = m1 ∧ 1 ≤ m1 ∧ m1 ≤ 8 ∧ (r1.epoch + 1).toNat = m1) := Lib.hid (by omega)
  clear g1 u1 u2 hm1
  have hks : ∀ x ∈ kn8, x.2.size ≤ 9223372036854775807 := fun x hx => by
    unfold kn8 at hx
    obtain ⟨u, hu, rfl⟩ := List.mem_map.1 hx
    have := whoList_size u hu
    obtain ⟨⟨_, _, _, h3⟩, _⟩ := pkOf_is (u := u) (by omega)
    rw [toL_len] at h3
    show (pkOf u).size ≤ _
    omega
  have HKS := Lib.hid hks
  have hbd1 := HOK1.out.bld (root := R) HR5.out kn8_pub
  rw [HM1.out.2.2.2] at hbd1
  have HBD1 := Lib.hid hbd1
  obtain ⟨BM1, hBM1⟩ : ∃ B, builtM (secOf annaB) r1 ver (rootN R) (signL m1) pkOf = B := ⟨_, rfl⟩
  have HE1 := Lib.hid hBM1
  clear hks hbd1 hBM1
  have HCa := Lib.hid (fun (W : World) (_ : Below w4.heap.size w4 W) => secretOf8_calls annaB W (by decide))
  have HCb := Lib.hid (fun (W : World) (_ : Below w4.heap.size w4 W) => HRO.out W)
  have HCc := Lib.hid (fun (W : World) (_ : Below w4.heap.size w4 W) => signersOf8_calls m1 W (by have := HM1.out; omega))
  have HCd := Lib.hid (fun (W : World) (_ : Below w4.heap.size w4 W) => known8_calls W)
  have hCe := fun (W : World) (hb : Below w4.heap.size w4 W) {vs vk : Value} (hs : strs W vs (signL m1)) (hk : rowsOf 2 twoV W vk kn8) => build_calls W (secOf annaB) (rootN R) r1 _ _ vs vk ver (signL m1) kn8 pkOf (HLw4.out.below hb) hs hk HBD1.out HVER.out (HT.out.below (B4.out.trans (hb.mono B4.out.size))) HKS.out
  simp only [HE1.out] at hCe
  have HCe := Lib.hid hCe
  clear hCe
  go_simp
  go_upto_region 5 with fail
  go_cut [11, 12] from 27 to 39 (fun q er wx => ∃ Zm, q = .pointer (some ⟨Zm, 0, none⟩) ∧ er = .int .i64 0 ∧ Hid (MtOwn w.heap.size w4 wx Zm BM1))
  case first =>
    refine wp_region_G (fun W2 => W2.cell? ⟨Z1, 0, none⟩ = some (.string r1.owner) ∧ W2.cell? ⟨Z1, 1, none⟩ = some (.string r1.file) ∧ W2.cell? ⟨Z1, 2, none⟩ = some (.int .i64 r1.epoch) ∧ W2.cell? ⟨Z1, 3, none⟩ = some (.slice D3 r1.rd.length cD3) ∧ W2.cell? ⟨Z1, 4, none⟩ = some (.slice E3 r1.wr.length cE3)) [15] (by kernel_rfl) ?_
    have HSS : Hid (∀ W2, Below w4.heap.size w4 W2 → (W2.cell? ⟨Z1, 0, none⟩ = some (.string r1.owner) ∧ W2.cell? ⟨Z1, 1, none⟩ = some (.string r1.file) ∧ W2.cell? ⟨Z1, 2, none⟩ = some (.int .i64 r1.epoch) ∧ W2.cell? ⟨Z1, 3, none⟩ = some (.slice D3 r1.rd.length cD3) ∧ W2.cell? ⟨Z1, 4, none⟩ = some (.slice E3 r1.wr.length cE3))) := Lib.hid (fun W2 hb => row5 ((Keep.of_below hb : Keep (fun _ => False) w4 W2).at HZw4.out fun e => e))
    have hb0 : Below w4.heap.size w4 w4.drew := (Below.refl w4.heap.size w4).drew
    obtain ⟨wd, hwd⟩ : ∃ x, w4.drew = x := ⟨_, rfl⟩
    rw [hwd] at hb0 ⊢
    have hS := HSS.out _ hb0
    refine wpAnyG_take (ws := [1,6]) (i := 1) (v := ?vg5a1) at1 (by kernel_rfl) (fun _ _ _ h => h) (Or.inl ⟨by rfl, ?hg5a1⟩) (by assumption) ?rg5a1
    case hg5a1 => (intro w hSw; (try dsimp only at hSw); go_simp; try with_reducible rfl)
    case' rg5a1 => skip
    try simp only [Act.put, List.setIfInBounds_toArray, List.set_cons_zero, List.set_cons_succ]
    refine wpAnyG_pure (i := 2) (v := ?vg5a2) at2 (by kernel_rfl) (fun _ _ _ h => h) (Or.inl ⟨by rfl, ?hg5a2⟩) (Or.inr (by assumption)) ?rg5a2
    case hg5a2 => (intro w hSw; (try dsimp only at hSw); go_simp; try with_reducible rfl)
    case' rg5a2 => skip
    try simp only [Act.put, List.setIfInBounds_toArray, List.set_cons_zero, List.set_cons_succ]
    refine wpAnyG_pure (i := 3) (v := ?vg5a3) at3 (by kernel_rfl) (fun _ _ _ h => h) (Or.inl ⟨by rfl, ?hg5a3⟩) (Or.inr (by assumption)) ?rg5a3
    case hg5a3 => (intro w hSw; (try dsimp only at hSw); go_simp; try with_reducible rfl)
    case' rg5a3 => skip
    try simp only [Act.put, List.setIfInBounds_toArray, List.set_cons_zero, List.set_cons_succ]
    refine wpAnyG_pure (i := 5) (v := ?vg5a5) at5 (by kernel_rfl) (fun _ _ _ h => h) (Or.inl ⟨by rfl, ?hg5a5⟩) (Or.inr (by assumption)) ?rg5a5
    case hg5a5 => (intro w hSw; (try dsimp only at hSw); go_simp; try with_reducible rfl)
    case' rg5a5 => skip
    try simp only [Act.put, List.setIfInBounds_toArray, List.set_cons_zero, List.set_cons_succ]
    refine wpAnyG_take (ws := [1,6]) (i := 6) (v := ?vg5a6) at6 (by kernel_rfl) (fun _ _ _ h => h) (Or.inl ⟨by rfl, ?hg5a6⟩) (by assumption) ?rg5a6
    case hg5a6 => (intro w hSw; (try dsimp only at hSw); go_simp; try with_reducible rfl)
    case' rg5a6 => skip
    try simp only [Act.put, List.setIfInBounds_toArray, List.set_cons_zero, List.set_cons_succ]
    refine wpAnyG_pure (i := 7) (v := ?vg5a7) at7 (by kernel_rfl) (fun _ _ _ h => h) (Or.inl ⟨by rfl, ?hg5a7⟩) (Or.inr (by assumption)) ?rg5a7
    case hg5a7 => (intro w hSw; (try dsimp only at hSw); go_simp; try with_reducible rfl)
    case' rg5a7 => skip
    try simp only [Act.put, List.setIfInBounds_toArray, List.set_cons_zero, List.set_cons_succ]
    refine wpAnyG_two 0 14 at0 at14 (by kernel_rfl) (fun Kn hK => ?_) (fun Kn hK => ?_)
    · skip
      go_simp
      refine (HCa.out wd hb0).mono ?_
      rintro e x1 ⟨rfl, hq1⟩
      have hb1 := hb0.trans (hq1.mono hb0.size)
      clear hS
      have hS := HSS.out _ hb1
      refine hK.out _ _ (Or.inr hS) ?_
      clear hK Kn
      try simp only [Act.put, List.setIfInBounds_toArray, List.set_cons_zero, List.set_cons_succ]
      refine wpAnyG_two 4 14 at4 at14 (by kernel_rfl) (fun Kn hK => ?_) (fun Kn hK => ?_)
      · skip
        go_simp
        refine (HCb.out x1 hb1).mono ?_
        rintro e x2 ⟨rfl, hq2⟩
        have hb2 := hb1.trans (hq2.mono hb1.size)
        clear hS
        have hS := HSS.out _ hb2
        refine hK.out _ _ (Or.inr hS) ?_
        clear hK Kn
        try simp only [Act.put, List.setIfInBounds_toArray, List.set_cons_zero, List.set_cons_succ]
        refine wpAnyG_two 8 14 at8 at14 (by kernel_rfl) (fun Kn hK => ?_) (fun Kn hK => ?_)
        · skip
          go_simp
          refine (HCc.out x2 hb2).mono ?_
          rintro e x3 ⟨vs, rfl, hos, hq3⟩
          have hb3 := hb2.trans (hq3.mono hb2.size)
          obtain ⟨As, cs, rfl, _, _⟩ := own_slice hos
          have HOS := Lib.hid (strs_own hos)
          clear hos
          clear hS
          have hS := HSS.out _ hb3
          refine hK.out _ _ (Or.inr hS) ?_
          clear hK Kn
          try simp only [Act.put, List.setIfInBounds_toArray, List.set_cons_zero, List.set_cons_succ]
          refine wpAnyG_two 9 14 at9 at14 (by kernel_rfl) (fun Kn hK => ?_) (fun Kn hK => ?_)
          · skip
            go_simp
            refine (HCd.out x3 hb3).mono ?_
            rintro e x4 ⟨vk, rfl, hok, hq4⟩
            have hb4 := hb3.trans (hq4.mono hb3.size)
            have HOS := Lib.hid (HOS.out.below hq4)
            obtain ⟨Ak, ck, rfl, _, _⟩ := own_slice hok
            have HKN := Lib.hid (rows_own hok)
            clear hok
            clear hS
            have hS := HSS.out _ hb4
            refine hK.out _ _ (Or.inr hS) ?_
            clear hK Kn
            try simp only [Act.put, List.setIfInBounds_toArray, List.set_cons_zero, List.set_cons_succ]
            refine wpAnyG_two 10 14 at10 at14 (by kernel_rfl) (fun Kn hK => ?_) (fun Kn hK => ?_)
            · skip
              go_simp
              refine (HCe.out x4 hb4 HOS.out HKN.out).mono ?_
              rintro e x5 ⟨⟨vr, vw, vv, vbb, rfl, hmo⟩, hq5⟩
              have hb5 := hb4.trans (hq5.mono hb4.size)
              have HOS := Lib.hid (HOS.out.below hq5)
              have HKN := Lib.hid (HKN.out.below hq5)
              have HBB : Hid (w4.heap.size ≤ _) := Lib.hid hb4.size
              obtain ⟨Am, cm1, rfl, _, _⟩ := own_slice hmo.rd
              obtain ⟨Bm, cm2, rfl, _, _⟩ := own_slice hmo.wr
              obtain ⟨Cm, cm3, rfl, _, _⟩ := own_slice hmo.vf
              obtain ⟨Dm, cm4, rfl, _, _⟩ := own_slice hmo.bl
              have HMB := Lib.hid hmo
              clear hmo
              clear hS
              have hS := HSS.out _ hb5
              refine hK.out _ _ (Or.inr hS) ?_
              clear hK Kn
              try simp only [Act.put, List.setIfInBounds_toArray, List.set_cons_zero, List.set_cons_succ]
              refine wpAnyG_pure (i := 11) (v := ?vg5r611) at11 (by kernel_rfl) (fun _ _ _ h => h) (Or.inl ⟨by rfl, ?hg5r611⟩) (Or.inr (by assumption)) ?rg5r611
              case hg5r611 => (intro w hSw; (try dsimp only at hSw); go_simp; try with_reducible rfl)
              case' rg5r611 => skip
              try simp only [Act.put, List.setIfInBounds_toArray, List.set_cons_zero, List.set_cons_succ]
              refine wpAnyG_pure (i := 12) (v := ?vg5r612) at12 (by kernel_rfl) (fun _ _ _ h => h) (Or.inl ⟨by rfl, ?hg5r612⟩) (Or.inr (by assumption)) ?rg5r612
              case hg5r612 => (intro w hSw; (try dsimp only at hSw); go_simp; try with_reducible rfl)
              case' rg5r612 => skip
              try simp only [Act.put, List.setIfInBounds_toArray, List.set_cons_zero, List.set_cons_succ]
              refine wpAnyG_pure (i := 13) (v := ?vg5r613) at13 (by kernel_rfl) (fun _ _ _ h => h) (Or.inl ⟨by rfl, ?hg5r613⟩) (Or.inr (by assumption)) ?rg5r613
              case hg5r613 => (intro w hSw; (try dsimp only at hSw); go_simp; try with_reducible rfl)
              case' rg5r613 => skip
              try simp only [Act.put, List.setIfInBounds_toArray, List.set_cons_zero, List.set_cons_succ]
              refine wpAnyG_one 14 at14 (by kernel_rfl) (fun Kn hK => ?_)
              go_simp
              obtain ⟨z7, hzz7⟩ : ∃ z, x5.heap.size = z := ⟨_, rfl⟩
              obtain ⟨x7, hx7⟩ : ∃ x, x5.alloc (.cells #[.string ⟨#[]⟩, .string ⟨#[]⟩, .int .i64 0, .slice none 0 0, .slice none 0 0, .int .u64 0, .slice none 0 0, .slice none 0 0, .string ⟨#[]⟩] 42) = x := ⟨_, rfl⟩
              have hz7 : x7.heap[z7]? = some (.cells #[.string ⟨#[]⟩, .string ⟨#[]⟩, .int .i64 0, .slice none 0 0, .slice none 0 0, .int .u64 0, .slice none 0 0, .slice none 0 0, .string ⟨#[]⟩] 42 (0, 0)) := by rw [← hx7, ← hzz7, get_alloc, if_pos rfl]
              have hq7 : Below x5.heap.size x5 x7 := by rw [← hx7]; exact (Below.refl _ x5).alloc (Nat.le_refl _) _
              have HZL : Hid (w4.heap.size ≤ z7) := Lib.hid (by have h1 := (Below.refl w4.heap.size w4).size; have h2 := hb5.size; omega)
              rw [hx7, hzz7]
              have hb7 := hb5.trans (hq7.mono hb5.size)
              have HOS := Lib.hid (HOS.out.below hq7)
              have HKN := Lib.hid (HKN.out.below hq7)
              have HMB := Lib.hid (HMB.out.below hq7)
              clear hS
              have hS := HSS.out _ hb7
              refine hK.out _ _ (Or.inr hS) ?_
              clear hK Kn
              try simp only [Act.put, List.setIfInBounds_toArray, List.set_cons_zero, List.set_cons_succ]
              refine wpAnyG_one 15 at15 (by kernel_rfl) (fun Kn hK => ?_)
              refine step_store_all rfl _ _ _ rfl rfl rfl _ _ hz7 info_mt rfl (by simp [Value.oneCell']) ?_
              intro y9 h9 k9 s9
              refine hK.out _ _ (Or.inl (by kernel_rfl)) ?_
              have HLEAF : Hid (MtOwn w.heap.size w4 y9 z7 BM1) := Lib.hid ⟨_, _, _, _, h9, (HMB.out.store hz7 k9).lower (Nat.le_trans B4.out.size HBB.out), Nat.le_trans B4.out.size HZL.out, below_at ((Below.refl w4.heap.size w4).trans (hb7.mono (Below.refl w4.heap.size w4).size)) k9 HZL.out⟩
              clear hK Kn h9 k9 s9 hS
              try simp only [Act.put, List.setIfInBounds_toArray, List.set_cons_zero, List.set_cons_succ]
              refine wpAnyG_one 16 at16 (by kernel_rfl) (fun Kn hK => ?_)
              go_simp
              refine hK.out _ _ (Or.inl (by kernel_rfl)) ?_
              clear hK Kn
              refine wpAnyG_done (by kernel_rfl) ?_
              try simp only [Act.put, List.setIfInBounds_toArray, List.set_cons_zero, List.set_cons_succ]
              go_wp2_with fail
              go_meet
              exact ⟨_, rfl, rfl, HLEAF⟩
            · skip
              go_simp
              obtain ⟨z8, hzz8⟩ : ∃ z, x4.heap.size = z := ⟨_, rfl⟩
              obtain ⟨x8, hx8⟩ : ∃ x, x4.alloc (.cells #[.string ⟨#[]⟩, .string ⟨#[]⟩, .int .i64 0, .slice none 0 0, .slice none 0 0, .int .u64 0, .slice none 0 0, .slice none 0 0, .string ⟨#[]⟩] 42) = x := ⟨_, rfl⟩
              have hz8 : x8.heap[z8]? = some (.cells #[.string ⟨#[]⟩, .string ⟨#[]⟩, .int .i64 0, .slice none 0 0, .slice none 0 0, .int .u64 0, .slice none 0 0, .slice none 0 0, .string ⟨#[]⟩] 42 (0, 0)) := by rw [← hx8, ← hzz8, get_alloc, if_pos rfl]
              have hq8 : Below x4.heap.size x4 x8 := by rw [← hx8]; exact (Below.refl _ x4).alloc (Nat.le_refl _) _
              have HZL : Hid (w4.heap.size ≤ z8) := Lib.hid (by have h1 := (Below.refl w4.heap.size w4).size; have h2 := hb4.size; omega)
              rw [hx8, hzz8]
              have hb8 := hb4.trans (hq8.mono hb4.size)
              have HOS := Lib.hid (HOS.out.below hq8)
              have HKN := Lib.hid (HKN.out.below hq8)
              clear hS
              have hS := HSS.out _ hb8
              refine hK.out _ _ (Or.inr hS) ?_
              clear hK Kn
              try simp only [Act.put, List.setIfInBounds_toArray, List.set_cons_zero, List.set_cons_succ]
              refine wpAnyG_one 10 at10 (by kernel_rfl) (fun Kn hK => ?_)
              go_simp
              refine (HCe.out x8 hb8 HOS.out HKN.out).mono ?_
              rintro e x9 ⟨⟨vr, vw, vv, vbb, rfl, hmo⟩, hq9⟩
              have hb9 := hb8.trans (hq9.mono hb8.size)
              have HOS := Lib.hid (HOS.out.below hq9)
              have HKN := Lib.hid (HKN.out.below hq9)
              have hz9 := (Keep.of_below hq9 : Keep (fun _ => False) x8 x9).at hz8 fun e => e
              have HBB : Hid (w4.heap.size ≤ _) := Lib.hid hb8.size
              obtain ⟨Am, cm1, rfl, _, _⟩ := own_slice hmo.rd
              obtain ⟨Bm, cm2, rfl, _, _⟩ := own_slice hmo.wr
              obtain ⟨Cm, cm3, rfl, _, _⟩ := own_slice hmo.vf
              obtain ⟨Dm, cm4, rfl, _, _⟩ := own_slice hmo.bl
              have HMB := Lib.hid hmo
              clear hmo
              clear hS
              have hS := HSS.out _ hb9
              refine hK.out _ _ (Or.inr hS) ?_
              clear hK Kn
              try simp only [Act.put, List.setIfInBounds_toArray, List.set_cons_zero, List.set_cons_succ]
              refine wpAnyG_pure (i := 11) (v := ?vg5r1011) at11 (by kernel_rfl) (fun _ _ _ h => h) (Or.inl ⟨by rfl, ?hg5r1011⟩) (Or.inr (by assumption)) ?rg5r1011
              case hg5r1011 => (intro w hSw; (try dsimp only at hSw); go_simp; try with_reducible rfl)
              case' rg5r1011 => skip
              try simp only [Act.put, List.setIfInBounds_toArray, List.set_cons_zero, List.set_cons_succ]
              refine wpAnyG_pure (i := 12) (v := ?vg5r1012) at12 (by kernel_rfl) (fun _ _ _ h => h) (Or.inl ⟨by rfl, ?hg5r1012⟩) (Or.inr (by assumption)) ?rg5r1012
              case hg5r1012 => (intro w hSw; (try dsimp only at hSw); go_simp; try with_reducible rfl)
              case' rg5r1012 => skip
              try simp only [Act.put, List.setIfInBounds_toArray, List.set_cons_zero, List.set_cons_succ]
              refine wpAnyG_pure (i := 13) (v := ?vg5r1013) at13 (by kernel_rfl) (fun _ _ _ h => h) (Or.inl ⟨by rfl, ?hg5r1013⟩) (Or.inr (by assumption)) ?rg5r1013
              case hg5r1013 => (intro w hSw; (try dsimp only at hSw); go_simp; try with_reducible rfl)
              case' rg5r1013 => skip
              try simp only [Act.put, List.setIfInBounds_toArray, List.set_cons_zero, List.set_cons_succ]
              refine wpAnyG_one 15 at15 (by kernel_rfl) (fun Kn hK => ?_)
              refine step_store_all rfl _ _ _ rfl rfl rfl _ _ hz9 info_mt rfl (by simp [Value.oneCell']) ?_
              intro y9 h9 k9 s9
              refine hK.out _ _ (Or.inl (by kernel_rfl)) ?_
              have HLEAF : Hid (MtOwn w.heap.size w4 y9 z8 BM1) := Lib.hid ⟨_, _, _, _, h9, (HMB.out.store hz9 k9).lower (Nat.le_trans B4.out.size HBB.out), Nat.le_trans B4.out.size HZL.out, below_at ((Below.refl w4.heap.size w4).trans (hb9.mono (Below.refl w4.heap.size w4).size)) k9 HZL.out⟩
              clear hK Kn h9 k9 s9 hS
              try simp only [Act.put, List.setIfInBounds_toArray, List.set_cons_zero, List.set_cons_succ]
              refine wpAnyG_one 16 at16 (by kernel_rfl) (fun Kn hK => ?_)
              go_simp
              refine hK.out _ _ (Or.inl (by kernel_rfl)) ?_
              clear hK Kn
              refine wpAnyG_done (by kernel_rfl) ?_
              try simp only [Act.put, List.setIfInBounds_toArray, List.set_cons_zero, List.set_cons_succ]
              go_wp2_with fail
              go_meet
              exact ⟨_, rfl, rfl, HLEAF⟩
          · skip
            go_simp
            obtain ⟨z11, hzz11⟩ : ∃ z, x3.heap.size = z := ⟨_, rfl⟩
            obtain ⟨x11, hx11⟩ : ∃ x, x3.alloc (.cells #[.string ⟨#[]⟩, .string ⟨#[]⟩, .int .i64 0, .slice none 0 0, .slice none 0 0, .int .u64 0, .slice none 0 0, .slice none 0 0, .string ⟨#[]⟩] 42) = x := ⟨_, rfl⟩
            have hz11 : x11.heap[z11]? = some (.cells #[.string ⟨#[]⟩, .string ⟨#[]⟩, .int .i64 0, .slice none 0 0, .slice none 0 0, .int .u64 0, .slice none 0 0, .slice none 0 0, .string ⟨#[]⟩] 42 (0, 0)) := by rw [← hx11, ← hzz11, get_alloc, if_pos rfl]
            have hq11 : Below x3.heap.size x3 x11 := by rw [← hx11]; exact (Below.refl _ x3).alloc (Nat.le_refl _) _
            have HZL : Hid (w4.heap.size ≤ z11) := Lib.hid (by have h1 := (Below.refl w4.heap.size w4).size; have h2 := hb3.size; omega)
            rw [hx11, hzz11]
            have hb11 := hb3.trans (hq11.mono hb3.size)
            have HOS := Lib.hid (HOS.out.below hq11)
            clear hS
            have hS := HSS.out _ hb11
            refine hK.out _ _ (Or.inr hS) ?_
            clear hK Kn
            try simp only [Act.put, List.setIfInBounds_toArray, List.set_cons_zero, List.set_cons_succ]
            refine wpAnyG_one 9 at9 (by kernel_rfl) (fun Kn hK => ?_)
            go_simp
            refine (HCd.out x11 hb11).mono ?_
            rintro e x12 ⟨vk, rfl, hok, hq12⟩
            have hb12 := hb11.trans (hq12.mono hb11.size)
            have HOS := Lib.hid (HOS.out.below hq12)
            have hz12 := (Keep.of_below hq12 : Keep (fun _ => False) x11 x12).at hz11 fun e => e
            obtain ⟨Ak, ck, rfl, _, _⟩ := own_slice hok
            have HKN := Lib.hid (rows_own hok)
            clear hok
            clear hS
            have hS := HSS.out _ hb12
            refine hK.out _ _ (Or.inr hS) ?_
            clear hK Kn
            try simp only [Act.put, List.setIfInBounds_toArray, List.set_cons_zero, List.set_cons_succ]
            refine wpAnyG_one 10 at10 (by kernel_rfl) (fun Kn hK => ?_)
            go_simp
            refine (HCe.out x12 hb12 HOS.out HKN.out).mono ?_
            rintro e x13 ⟨⟨vr, vw, vv, vbb, rfl, hmo⟩, hq13⟩
            have hb13 := hb12.trans (hq13.mono hb12.size)
            have HOS := Lib.hid (HOS.out.below hq13)
            have HKN := Lib.hid (HKN.out.below hq13)
            have hz13 := (Keep.of_below hq13 : Keep (fun _ => False) x12 x13).at hz12 fun e => e
            have HBB : Hid (w4.heap.size ≤ _) := Lib.hid hb12.size
            obtain ⟨Am, cm1, rfl, _, _⟩ := own_slice hmo.rd
            obtain ⟨Bm, cm2, rfl, _, _⟩ := own_slice hmo.wr
            obtain ⟨Cm, cm3, rfl, _, _⟩ := own_slice hmo.vf
            obtain ⟨Dm, cm4, rfl, _, _⟩ := own_slice hmo.bl
            have HMB := Lib.hid hmo
            clear hmo
            clear hS
            have hS := HSS.out _ hb13
            refine hK.out _ _ (Or.inr hS) ?_
            clear hK Kn
            try simp only [Act.put, List.setIfInBounds_toArray, List.set_cons_zero, List.set_cons_succ]
            refine wpAnyG_pure (i := 11) (v := ?vg5r1411) at11 (by kernel_rfl) (fun _ _ _ h => h) (Or.inl ⟨by rfl, ?hg5r1411⟩) (Or.inr (by assumption)) ?rg5r1411
            case hg5r1411 => (intro w hSw; (try dsimp only at hSw); go_simp; try with_reducible rfl)
            case' rg5r1411 => skip
            try simp only [Act.put, List.setIfInBounds_toArray, List.set_cons_zero, List.set_cons_succ]
            refine wpAnyG_pure (i := 12) (v := ?vg5r1412) at12 (by kernel_rfl) (fun _ _ _ h => h) (Or.inl ⟨by rfl, ?hg5r1412⟩) (Or.inr (by assumption)) ?rg5r1412
            case hg5r1412 => (intro w hSw; (try dsimp only at hSw); go_simp; try with_reducible rfl)
            case' rg5r1412 => skip
            try simp only [Act.put, List.setIfInBounds_toArray, List.set_cons_zero, List.set_cons_succ]
            refine wpAnyG_pure (i := 13) (v := ?vg5r1413) at13 (by kernel_rfl) (fun _ _ _ h => h) (Or.inl ⟨by rfl, ?hg5r1413⟩) (Or.inr (by assumption)) ?rg5r1413
            case hg5r1413 => (intro w hSw; (try dsimp only at hSw); go_simp; try with_reducible rfl)
            case' rg5r1413 => skip
            try simp only [Act.put, List.setIfInBounds_toArray, List.set_cons_zero, List.set_cons_succ]
            refine wpAnyG_one 15 at15 (by kernel_rfl) (fun Kn hK => ?_)
            refine step_store_all rfl _ _ _ rfl rfl rfl _ _ hz13 info_mt rfl (by simp [Value.oneCell']) ?_
            intro y9 h9 k9 s9
            refine hK.out _ _ (Or.inl (by kernel_rfl)) ?_
            have HLEAF : Hid (MtOwn w.heap.size w4 y9 z11 BM1) := Lib.hid ⟨_, _, _, _, h9, (HMB.out.store hz13 k9).lower (Nat.le_trans B4.out.size HBB.out), Nat.le_trans B4.out.size HZL.out, below_at ((Below.refl w4.heap.size w4).trans (hb13.mono (Below.refl w4.heap.size w4).size)) k9 HZL.out⟩
            clear hK Kn h9 k9 s9 hS
            try simp only [Act.put, List.setIfInBounds_toArray, List.set_cons_zero, List.set_cons_succ]
            refine wpAnyG_one 16 at16 (by kernel_rfl) (fun Kn hK => ?_)
            go_simp
            refine hK.out _ _ (Or.inl (by kernel_rfl)) ?_
            clear hK Kn
            refine wpAnyG_done (by kernel_rfl) ?_
            try simp only [Act.put, List.setIfInBounds_toArray, List.set_cons_zero, List.set_cons_succ]
            go_wp2_with fail
            go_meet
            exact ⟨_, rfl, rfl, HLEAF⟩
        · skip
          go_simp
          obtain ⟨z15, hzz15⟩ : ∃ z, x2.heap.size = z := ⟨_, rfl⟩
          obtain ⟨x15, hx15⟩ : ∃ x, x2.alloc (.cells #[.string ⟨#[]⟩, .string ⟨#[]⟩, .int .i64 0, .slice none 0 0, .slice none 0 0, .int .u64 0, .slice none 0 0, .slice none 0 0, .string ⟨#[]⟩] 42) = x := ⟨_, rfl⟩
          have hz15 : x15.heap[z15]? = some (.cells #[.string ⟨#[]⟩, .string ⟨#[]⟩, .int .i64 0, .slice none 0 0, .slice none 0 0, .int .u64 0, .slice none 0 0, .slice none 0 0, .string ⟨#[]⟩] 42 (0, 0)) := by rw [← hx15, ← hzz15, get_alloc, if_pos rfl]
          have hq15 : Below x2.heap.size x2 x15 := by rw [← hx15]; exact (Below.refl _ x2).alloc (Nat.le_refl _) _
          have HZL : Hid (w4.heap.size ≤ z15) := Lib.hid (by have h1 := (Below.refl w4.heap.size w4).size; have h2 := hb2.size; omega)
          rw [hx15, hzz15]
          have hb15 := hb2.trans (hq15.mono hb2.size)
          clear hS
          have hS := HSS.out _ hb15
          refine hK.out _ _ (Or.inr hS) ?_
          clear hK Kn
          try simp only [Act.put, List.setIfInBounds_toArray, List.set_cons_zero, List.set_cons_succ]
          refine wpAnyG_one 8 at8 (by kernel_rfl) (fun Kn hK => ?_)
          go_simp
          refine (HCc.out x15 hb15).mono ?_
          rintro e x16 ⟨vs, rfl, hos, hq16⟩
          have hb16 := hb15.trans (hq16.mono hb15.size)
          have hz16 := (Keep.of_below hq16 : Keep (fun _ => False) x15 x16).at hz15 fun e => e
          obtain ⟨As, cs, rfl, _, _⟩ := own_slice hos
          have HOS := Lib.hid (strs_own hos)
          clear hos
          clear hS
          have hS := HSS.out _ hb16
          refine hK.out _ _ (Or.inr hS) ?_
          clear hK Kn
          try simp only [Act.put, List.setIfInBounds_toArray, List.set_cons_zero, List.set_cons_succ]
          refine wpAnyG_one 9 at9 (by kernel_rfl) (fun Kn hK => ?_)
          go_simp
          refine (HCd.out x16 hb16).mono ?_
          rintro e x17 ⟨vk, rfl, hok, hq17⟩
          have hb17 := hb16.trans (hq17.mono hb16.size)
          have HOS := Lib.hid (HOS.out.below hq17)
          have hz17 := (Keep.of_below hq17 : Keep (fun _ => False) x16 x17).at hz16 fun e => e
          obtain ⟨Ak, ck, rfl, _, _⟩ := own_slice hok
          have HKN := Lib.hid (rows_own hok)
          clear hok
          clear hS
          have hS := HSS.out _ hb17
          refine hK.out _ _ (Or.inr hS) ?_
          clear hK Kn
          try simp only [Act.put, List.setIfInBounds_toArray, List.set_cons_zero, List.set_cons_succ]
          refine wpAnyG_one 10 at10 (by kernel_rfl) (fun Kn hK => ?_)
          go_simp
          refine (HCe.out x17 hb17 HOS.out HKN.out).mono ?_
          rintro e x18 ⟨⟨vr, vw, vv, vbb, rfl, hmo⟩, hq18⟩
          have hb18 := hb17.trans (hq18.mono hb17.size)
          have HOS := Lib.hid (HOS.out.below hq18)
          have HKN := Lib.hid (HKN.out.below hq18)
          have hz18 := (Keep.of_below hq18 : Keep (fun _ => False) x17 x18).at hz17 fun e => e
          have HBB : Hid (w4.heap.size ≤ _) := Lib.hid hb17.size
          obtain ⟨Am, cm1, rfl, _, _⟩ := own_slice hmo.rd
          obtain ⟨Bm, cm2, rfl, _, _⟩ := own_slice hmo.wr
          obtain ⟨Cm, cm3, rfl, _, _⟩ := own_slice hmo.vf
          obtain ⟨Dm, cm4, rfl, _, _⟩ := own_slice hmo.bl
          have HMB := Lib.hid hmo
          clear hmo
          clear hS
          have hS := HSS.out _ hb18
          refine hK.out _ _ (Or.inr hS) ?_
          clear hK Kn
          try simp only [Act.put, List.setIfInBounds_toArray, List.set_cons_zero, List.set_cons_succ]
          refine wpAnyG_pure (i := 11) (v := ?vg5r1911) at11 (by kernel_rfl) (fun _ _ _ h => h) (Or.inl ⟨by rfl, ?hg5r1911⟩) (Or.inr (by assumption)) ?rg5r1911
          case hg5r1911 => (intro w hSw; (try dsimp only at hSw); go_simp; try with_reducible rfl)
          case' rg5r1911 => skip
          try simp only [Act.put, List.setIfInBounds_toArray, List.set_cons_zero, List.set_cons_succ]
          refine wpAnyG_pure (i := 12) (v := ?vg5r1912) at12 (by kernel_rfl) (fun _ _ _ h => h) (Or.inl ⟨by rfl, ?hg5r1912⟩) (Or.inr (by assumption)) ?rg5r1912
          case hg5r1912 => (intro w hSw; (try dsimp only at hSw); go_simp; try with_reducible rfl)
          case' rg5r1912 => skip
          try simp only [Act.put, List.setIfInBounds_toArray, List.set_cons_zero, List.set_cons_succ]
          refine wpAnyG_pure (i := 13) (v := ?vg5r1913) at13 (by kernel_rfl) (fun _ _ _ h => h) (Or.inl ⟨by rfl, ?hg5r1913⟩) (Or.inr (by assumption)) ?rg5r1913
          case hg5r1913 => (intro w hSw; (try dsimp only at hSw); go_simp; try with_reducible rfl)
          case' rg5r1913 => skip
          try simp only [Act.put, List.setIfInBounds_toArray, List.set_cons_zero, List.set_cons_succ]
          refine wpAnyG_one 15 at15 (by kernel_rfl) (fun Kn hK => ?_)
          refine step_store_all rfl _ _ _ rfl rfl rfl _ _ hz18 info_mt rfl (by simp [Value.oneCell']) ?_
          intro y9 h9 k9 s9
          refine hK.out _ _ (Or.inl (by kernel_rfl)) ?_
          have HLEAF : Hid (MtOwn w.heap.size w4 y9 z15 BM1) := Lib.hid ⟨_, _, _, _, h9, (HMB.out.store hz18 k9).lower (Nat.le_trans B4.out.size HBB.out), Nat.le_trans B4.out.size HZL.out, below_at ((Below.refl w4.heap.size w4).trans (hb18.mono (Below.refl w4.heap.size w4).size)) k9 HZL.out⟩
          clear hK Kn h9 k9 s9 hS
          try simp only [Act.put, List.setIfInBounds_toArray, List.set_cons_zero, List.set_cons_succ]
          refine wpAnyG_one 16 at16 (by kernel_rfl) (fun Kn hK => ?_)
          go_simp
          refine hK.out _ _ (Or.inl (by kernel_rfl)) ?_
          clear hK Kn
          refine wpAnyG_done (by kernel_rfl) ?_
          try simp only [Act.put, List.setIfInBounds_toArray, List.set_cons_zero, List.set_cons_succ]
          go_wp2_with fail
          go_meet
          exact ⟨_, rfl, rfl, HLEAF⟩
      · skip
        go_simp
        obtain ⟨z20, hzz20⟩ : ∃ z, x1.heap.size = z := ⟨_, rfl⟩
        obtain ⟨x20, hx20⟩ : ∃ x, x1.alloc (.cells #[.string ⟨#[]⟩, .string ⟨#[]⟩, .int .i64 0, .slice none 0 0, .slice none 0 0, .int .u64 0, .slice none 0 0, .slice none 0 0, .string ⟨#[]⟩] 42) = x := ⟨_, rfl⟩
        have hz20 : x20.heap[z20]? = some (.cells #[.string ⟨#[]⟩, .string ⟨#[]⟩, .int .i64 0, .slice none 0 0, .slice none 0 0, .int .u64 0, .slice none 0 0, .slice none 0 0, .string ⟨#[]⟩] 42 (0, 0)) := by rw [← hx20, ← hzz20, get_alloc, if_pos rfl]
        have hq20 : Below x1.heap.size x1 x20 := by rw [← hx20]; exact (Below.refl _ x1).alloc (Nat.le_refl _) _
        have HZL : Hid (w4.heap.size ≤ z20) := Lib.hid (by have h1 := (Below.refl w4.heap.size w4).size; have h2 := hb1.size; omega)
        rw [hx20, hzz20]
        have hb20 := hb1.trans (hq20.mono hb1.size)
        clear hS
        have hS := HSS.out _ hb20
        refine hK.out _ _ (Or.inr hS) ?_
        clear hK Kn
        try simp only [Act.put, List.setIfInBounds_toArray, List.set_cons_zero, List.set_cons_succ]
        refine wpAnyG_one 4 at4 (by kernel_rfl) (fun Kn hK => ?_)
        go_simp
        refine (HCb.out x20 hb20).mono ?_
        rintro e x21 ⟨rfl, hq21⟩
        have hb21 := hb20.trans (hq21.mono hb20.size)
        have hz21 := (Keep.of_below hq21 : Keep (fun _ => False) x20 x21).at hz20 fun e => e
        clear hS
        have hS := HSS.out _ hb21
        refine hK.out _ _ (Or.inr hS) ?_
        clear hK Kn
        try simp only [Act.put, List.setIfInBounds_toArray, List.set_cons_zero, List.set_cons_succ]
        refine wpAnyG_one 8 at8 (by kernel_rfl) (fun Kn hK => ?_)
        go_simp
        refine (HCc.out x21 hb21).mono ?_
        rintro e x22 ⟨vs, rfl, hos, hq22⟩
        have hb22 := hb21.trans (hq22.mono hb21.size)
        have hz22 := (Keep.of_below hq22 : Keep (fun _ => False) x21 x22).at hz21 fun e => e
        obtain ⟨As, cs, rfl, _, _⟩ := own_slice hos
        have HOS := Lib.hid (strs_own hos)
        clear hos
        clear hS
        have hS := HSS.out _ hb22
        refine hK.out _ _ (Or.inr hS) ?_
        clear hK Kn
        try simp only [Act.put, List.setIfInBounds_toArray, List.set_cons_zero, List.set_cons_succ]
        refine wpAnyG_one 9 at9 (by kernel_rfl) (fun Kn hK => ?_)
        go_simp
        refine (HCd.out x22 hb22).mono ?_
        rintro e x23 ⟨vk, rfl, hok, hq23⟩
        have hb23 := hb22.trans (hq23.mono hb22.size)
        have HOS := Lib.hid (HOS.out.below hq23)
        have hz23 := (Keep.of_below hq23 : Keep (fun _ => False) x22 x23).at hz22 fun e => e
        obtain ⟨Ak, ck, rfl, _, _⟩ := own_slice hok
        have HKN := Lib.hid (rows_own hok)
        clear hok
        clear hS
        have hS := HSS.out _ hb23
        refine hK.out _ _ (Or.inr hS) ?_
        clear hK Kn
        try simp only [Act.put, List.setIfInBounds_toArray, List.set_cons_zero, List.set_cons_succ]
        refine wpAnyG_one 10 at10 (by kernel_rfl) (fun Kn hK => ?_)
        go_simp
        refine (HCe.out x23 hb23 HOS.out HKN.out).mono ?_
        rintro e x24 ⟨⟨vr, vw, vv, vbb, rfl, hmo⟩, hq24⟩
        have hb24 := hb23.trans (hq24.mono hb23.size)
        have HOS := Lib.hid (HOS.out.below hq24)
        have HKN := Lib.hid (HKN.out.below hq24)
        have hz24 := (Keep.of_below hq24 : Keep (fun _ => False) x23 x24).at hz23 fun e => e
        have HBB : Hid (w4.heap.size ≤ _) := Lib.hid hb23.size
        obtain ⟨Am, cm1, rfl, _, _⟩ := own_slice hmo.rd
        obtain ⟨Bm, cm2, rfl, _, _⟩ := own_slice hmo.wr
        obtain ⟨Cm, cm3, rfl, _, _⟩ := own_slice hmo.vf
        obtain ⟨Dm, cm4, rfl, _, _⟩ := own_slice hmo.bl
        have HMB := Lib.hid hmo
        clear hmo
        clear hS
        have hS := HSS.out _ hb24
        refine hK.out _ _ (Or.inr hS) ?_
        clear hK Kn
        try simp only [Act.put, List.setIfInBounds_toArray, List.set_cons_zero, List.set_cons_succ]
        refine wpAnyG_pure (i := 11) (v := ?vg5r2511) at11 (by kernel_rfl) (fun _ _ _ h => h) (Or.inl ⟨by rfl, ?hg5r2511⟩) (Or.inr (by assumption)) ?rg5r2511
        case hg5r2511 => (intro w hSw; (try dsimp only at hSw); go_simp; try with_reducible rfl)
        case' rg5r2511 => skip
        try simp only [Act.put, List.setIfInBounds_toArray, List.set_cons_zero, List.set_cons_succ]
        refine wpAnyG_pure (i := 12) (v := ?vg5r2512) at12 (by kernel_rfl) (fun _ _ _ h => h) (Or.inl ⟨by rfl, ?hg5r2512⟩) (Or.inr (by assumption)) ?rg5r2512
        case hg5r2512 => (intro w hSw; (try dsimp only at hSw); go_simp; try with_reducible rfl)
        case' rg5r2512 => skip
        try simp only [Act.put, List.setIfInBounds_toArray, List.set_cons_zero, List.set_cons_succ]
        refine wpAnyG_pure (i := 13) (v := ?vg5r2513) at13 (by kernel_rfl) (fun _ _ _ h => h) (Or.inl ⟨by rfl, ?hg5r2513⟩) (Or.inr (by assumption)) ?rg5r2513
        case hg5r2513 => (intro w hSw; (try dsimp only at hSw); go_simp; try with_reducible rfl)
        case' rg5r2513 => skip
        try simp only [Act.put, List.setIfInBounds_toArray, List.set_cons_zero, List.set_cons_succ]
        refine wpAnyG_one 15 at15 (by kernel_rfl) (fun Kn hK => ?_)
        refine step_store_all rfl _ _ _ rfl rfl rfl _ _ hz24 info_mt rfl (by simp [Value.oneCell']) ?_
        intro y9 h9 k9 s9
        refine hK.out _ _ (Or.inl (by kernel_rfl)) ?_
        have HLEAF : Hid (MtOwn w.heap.size w4 y9 z20 BM1) := Lib.hid ⟨_, _, _, _, h9, (HMB.out.store hz24 k9).lower (Nat.le_trans B4.out.size HBB.out), Nat.le_trans B4.out.size HZL.out, below_at ((Below.refl w4.heap.size w4).trans (hb24.mono (Below.refl w4.heap.size w4).size)) k9 HZL.out⟩
        clear hK Kn h9 k9 s9 hS
        try simp only [Act.put, List.setIfInBounds_toArray, List.set_cons_zero, List.set_cons_succ]
        refine wpAnyG_one 16 at16 (by kernel_rfl) (fun Kn hK => ?_)
        go_simp
        refine hK.out _ _ (Or.inl (by kernel_rfl)) ?_
        clear hK Kn
        refine wpAnyG_done (by kernel_rfl) ?_
        try simp only [Act.put, List.setIfInBounds_toArray, List.set_cons_zero, List.set_cons_succ]
        go_wp2_with fail
        go_meet
        exact ⟨_, rfl, rfl, HLEAF⟩
    · skip
      go_simp
      obtain ⟨z26, hzz26⟩ : ∃ z, wd.heap.size = z := ⟨_, rfl⟩
      obtain ⟨x26, hx26⟩ : ∃ x, wd.alloc (.cells #[.string ⟨#[]⟩, .string ⟨#[]⟩, .int .i64 0, .slice none 0 0, .slice none 0 0, .int .u64 0, .slice none 0 0, .slice none 0 0, .string ⟨#[]⟩] 42) = x := ⟨_, rfl⟩
      have hz26 : x26.heap[z26]? = some (.cells #[.string ⟨#[]⟩, .string ⟨#[]⟩, .int .i64 0, .slice none 0 0, .slice none 0 0, .int .u64 0, .slice none 0 0, .slice none 0 0, .string ⟨#[]⟩] 42 (0, 0)) := by rw [← hx26, ← hzz26, get_alloc, if_pos rfl]
      have hq26 : Below wd.heap.size wd x26 := by rw [← hx26]; exact (Below.refl _ wd).alloc (Nat.le_refl _) _
      have HZL : Hid (w4.heap.size ≤ z26) := Lib.hid (by have h1 := (Below.refl w4.heap.size w4).size; have h2 := hb0.size; omega)
      rw [hx26, hzz26]
      have hb26 := hb0.trans (hq26.mono hb0.size)
      clear hS
      have hS := HSS.out _ hb26
      refine hK.out _ _ (Or.inr hS) ?_
      clear hK Kn
      try simp only [Act.put, List.setIfInBounds_toArray, List.set_cons_zero, List.set_cons_succ]
      refine wpAnyG_one 0 at0 (by kernel_rfl) (fun Kn hK => ?_)
      go_simp
      refine (HCa.out x26 hb26).mono ?_
      rintro e x27 ⟨rfl, hq27⟩
      have hb27 := hb26.trans (hq27.mono hb26.size)
      have hz27 := (Keep.of_below hq27 : Keep (fun _ => False) x26 x27).at hz26 fun e => e
      clear hS
      have hS := HSS.out _ hb27
      refine hK.out _ _ (Or.inr hS) ?_
      clear hK Kn
      try simp only [Act.put, List.setIfInBounds_toArray, List.set_cons_zero, List.set_cons_succ]
      refine wpAnyG_one 4 at4 (by kernel_rfl) (fun Kn hK => ?_)
      go_simp
      refine (HCb.out x27 hb27).mono ?_
      rintro e x28 ⟨rfl, hq28⟩
      have hb28 := hb27.trans (hq28.mono hb27.size)
      have hz28 := (Keep.of_below hq28 : Keep (fun _ => False) x27 x28).at hz27 fun e => e
      clear hS
      have hS := HSS.out _ hb28
      refine hK.out _ _ (Or.inr hS) ?_
      clear hK Kn
      try simp only [Act.put, List.setIfInBounds_toArray, List.set_cons_zero, List.set_cons_succ]
      refine wpAnyG_one 8 at8 (by kernel_rfl) (fun Kn hK => ?_)
      go_simp
      refine (HCc.out x28 hb28).mono ?_
      rintro e x29 ⟨vs, rfl, hos, hq29⟩
      have hb29 := hb28.trans (hq29.mono hb28.size)
      have hz29 := (Keep.of_below hq29 : Keep (fun _ => False) x28 x29).at hz28 fun e => e
      obtain ⟨As, cs, rfl, _, _⟩ := own_slice hos
      have HOS := Lib.hid (strs_own hos)
      clear hos
      clear hS
      have hS := HSS.out _ hb29
      refine hK.out _ _ (Or.inr hS) ?_
      clear hK Kn
      try simp only [Act.put, List.setIfInBounds_toArray, List.set_cons_zero, List.set_cons_succ]
      refine wpAnyG_one 9 at9 (by kernel_rfl) (fun Kn hK => ?_)
      go_simp
      refine (HCd.out x29 hb29).mono ?_
      rintro e x30 ⟨vk, rfl, hok, hq30⟩
      have hb30 := hb29.trans (hq30.mono hb29.size)
      have HOS := Lib.hid (HOS.out.below hq30)
      have hz30 := (Keep.of_below hq30 : Keep (fun _ => False) x29 x30).at hz29 fun e => e
      obtain ⟨Ak, ck, rfl, _, _⟩ := own_slice hok
      have HKN := Lib.hid (rows_own hok)
      clear hok
      clear hS
      have hS := HSS.out _ hb30
      refine hK.out _ _ (Or.inr hS) ?_
      clear hK Kn
      try simp only [Act.put, List.setIfInBounds_toArray, List.set_cons_zero, List.set_cons_succ]
      refine wpAnyG_one 10 at10 (by kernel_rfl) (fun Kn hK => ?_)
      go_simp
      refine (HCe.out x30 hb30 HOS.out HKN.out).mono ?_
      rintro e x31 ⟨⟨vr, vw, vv, vbb, rfl, hmo⟩, hq31⟩
      have hb31 := hb30.trans (hq31.mono hb30.size)
      have HOS := Lib.hid (HOS.out.below hq31)
      have HKN := Lib.hid (HKN.out.below hq31)
      have hz31 := (Keep.of_below hq31 : Keep (fun _ => False) x30 x31).at hz30 fun e => e
      have HBB : Hid (w4.heap.size ≤ _) := Lib.hid hb30.size
      obtain ⟨Am, cm1, rfl, _, _⟩ := own_slice hmo.rd
      obtain ⟨Bm, cm2, rfl, _, _⟩ := own_slice hmo.wr
      obtain ⟨Cm, cm3, rfl, _, _⟩ := own_slice hmo.vf
      obtain ⟨Dm, cm4, rfl, _, _⟩ := own_slice hmo.bl
      have HMB := Lib.hid hmo
      clear hmo
      clear hS
      have hS := HSS.out _ hb31
      refine hK.out _ _ (Or.inr hS) ?_
      clear hK Kn
      try simp only [Act.put, List.setIfInBounds_toArray, List.set_cons_zero, List.set_cons_succ]
      refine wpAnyG_pure (i := 11) (v := ?vg5r3211) at11 (by kernel_rfl) (fun _ _ _ h => h) (Or.inl ⟨by rfl, ?hg5r3211⟩) (Or.inr (by assumption)) ?rg5r3211
      case hg5r3211 => (intro w hSw; (try dsimp only at hSw); go_simp; try with_reducible rfl)
      case' rg5r3211 => skip
      try simp only [Act.put, List.setIfInBounds_toArray, List.set_cons_zero, List.set_cons_succ]
      refine wpAnyG_pure (i := 12) (v := ?vg5r3212) at12 (by kernel_rfl) (fun _ _ _ h => h) (Or.inl ⟨by rfl, ?hg5r3212⟩) (Or.inr (by assumption)) ?rg5r3212
      case hg5r3212 => (intro w hSw; (try dsimp only at hSw); go_simp; try with_reducible rfl)
      case' rg5r3212 => skip
      try simp only [Act.put, List.setIfInBounds_toArray, List.set_cons_zero, List.set_cons_succ]
      refine wpAnyG_pure (i := 13) (v := ?vg5r3213) at13 (by kernel_rfl) (fun _ _ _ h => h) (Or.inl ⟨by rfl, ?hg5r3213⟩) (Or.inr (by assumption)) ?rg5r3213
      case hg5r3213 => (intro w hSw; (try dsimp only at hSw); go_simp; try with_reducible rfl)
      case' rg5r3213 => skip
      try simp only [Act.put, List.setIfInBounds_toArray, List.set_cons_zero, List.set_cons_succ]
      refine wpAnyG_one 15 at15 (by kernel_rfl) (fun Kn hK => ?_)
      refine step_store_all rfl _ _ _ rfl rfl rfl _ _ hz31 info_mt rfl (by simp [Value.oneCell']) ?_
      intro y9 h9 k9 s9
      refine hK.out _ _ (Or.inl (by kernel_rfl)) ?_
      have HLEAF : Hid (MtOwn w.heap.size w4 y9 z26 BM1) := Lib.hid ⟨_, _, _, _, h9, (HMB.out.store hz31 k9).lower (Nat.le_trans B4.out.size HBB.out), Nat.le_trans B4.out.size HZL.out, below_at ((Below.refl w4.heap.size w4).trans (hb31.mono (Below.refl w4.heap.size w4).size)) k9 HZL.out⟩
      clear hK Kn h9 k9 s9 hS
      try simp only [Act.put, List.setIfInBounds_toArray, List.set_cons_zero, List.set_cons_succ]
      refine wpAnyG_one 16 at16 (by kernel_rfl) (fun Kn hK => ?_)
      go_simp
      refine hK.out _ _ (Or.inl (by kernel_rfl)) ?_
      clear hK Kn
      refine wpAnyG_done (by kernel_rfl) ?_
      try simp only [Act.put, List.setIfInBounds_toArray, List.set_cons_zero, List.set_cons_succ]
      go_wp2_with fail
      go_meet
      exact ⟨_, rfl, rfl, HLEAF⟩
  case rest =>
    obtain ⟨Zm, rfl, rfl, HIh⟩ := hcut
    obtain ⟨wa, hq0, HI1⟩ : ∃ W, W = _ ∧ Hid (MtOwn w.heap.size w4 W Zm BM1) := ⟨_, rfl, HIh⟩
    subst hq0
    clear HIh HCa HCb HCc HCd HCe HZw4 HLw4 HL2 HTU1 HS1 HV1 HW1 HKS
    obtain ⟨vr, vw, vv, vb, row1, own1, hz1, hbel1⟩ := HI1.out
    have Ba := Lib.hid (B4.out.trans (hbel1.mono B4.out.size))
    obtain ⟨A5, c5, rfl, _, _⟩ := own_slice own1.rd
    obtain ⟨A6, c6, rfl, _, _⟩ := own_slice own1.wr
    obtain ⟨A7, c7, rfl, _, _⟩ := own_slice own1.vf
    obtain ⟨A8, c8, rfl, _, _⟩ := own_slice own1.bl
    obtain ⟨_, hgood, hbody⟩ := HBD1.out.ok ver HVER.out
    have hsig := HBD1.out.sig ver
    rw [HE1.out] at hgood hbody hsig
    have hver : BM1.ver = ver := by rw [← HE1.out]; rfl
    have hvf : BM1.vf.length = m1 := by rw [← HE1.out]; exact vf_len
    have hown : BM1.r = r1 := by rw [← HE1.out]; rfl
    have hfile : BM1.r.file = notesB := by rw [hown]; exact HOK1.out.file
    have howner : BM1.r.owner = annaB := by rw [hown]; exact HOK1.out.owner
    have hsa := secOf_is (u := annaB) (by decide)
    have hsb := secOf_is (u := benB) (by decide)
    have hpa : ∀ u, toL (pkOf u) = 117 :: toL (secOf u) := fun u => by unfold pkOf; exact toL_mkB _
    have hnab : annaB ≠ benB := bytes_ne (by decide)
    have hnnn : notesB ≠ noteB := bytes_ne (by decide)
    have hc0 : checkM BM1 (pkOf annaB) annaB notesB = 0 := by
      rw [checkM_ok hgood (by omega) hsa hsig _ (hpa _), if_neg]
      rintro (h | h)
      · exact h howner
      · exact h hfile
    have hc1 : checkM BM1 (pkOf benB) annaB notesB = 7 := checkM_other hgood (by omega) hsa hsb (fun e => ben_anna e.symm) hsig _ (hpa _) _ _
    have hc2 : checkM BM1 (pkOf annaB) benB notesB = 3 := by
      rw [checkM_ok hgood (by omega) hsa hsig _ (hpa _), if_pos]
      exact Or.inl (by rw [howner]; exact hnab)
    have hc3 : checkM BM1 (pkOf annaB) annaB noteB = 3 := by
      rw [checkM_ok hgood (by omega) hsa hsig _ (hpa _), if_pos]
      exact Or.inr (by rw [hfile]; exact hnnn)
    have hc4 : checkM BM1 (secOf annaB) annaB notesB = 1 := by
      rw [checkM_eq, if_pos]
      exact Or.inr (by rw [secOf_kind (by decide)]; decide)
    have htake : takeM (putM BM1) = some BM1 := takeM_put (good_rightM hgood) (by rw [hver]; exact HVER.out)
    have hwf := hgood.wf (by rw [hver]; exact HVER.out)
    have hpv : putMV BM1 = .tuple #[.string (mkB (putM BM1)), .int .i64 0] := by unfold putMV; rw [good_rightM hgood]; rfl
    have hps := hgood.psize (by rw [hver]; exact HVER.out)
    have hn5b : BM1.r.rd.length ≤ 5 ∧ BM1.r.wr.length ≤ 5 := by have := (Rt.right_iff.1 hgood.r).1.2.2.2.2.1; omega
    have hpz : (pkOf annaB).size ≤ 4000 ∧ (pkOf benB).size ≤ 4000 ∧ (secOf annaB).size ≤ 4000 := by
      obtain ⟨⟨_, _, _, h3⟩, _⟩ := pkOf_is (u := annaB) (by decide)
      obtain ⟨⟨_, _, _, h4⟩, _⟩ := pkOf_is (u := benB) (by decide)
      obtain ⟨_, _, _, h5⟩ := hsa
      rw [toL_len] at h3 h4 h5
      omega
    have HSPA := Lib.hid (hpa annaB)
    have hmp : 0 < (putM BM1).length := by
      rcases h : putM BM1 with _ | ⟨x, l⟩
      · rw [h, takeM_nil] at htake; cases htake
      · simp
    obtain ⟨n5, hn5⟩ : ∃ n, BM1.r.rd.length = n := ⟨_, rfl⟩
    obtain ⟨n6, hn6⟩ : ∃ n, BM1.r.wr.length = n := ⟨_, rfl⟩
    obtain ⟨nb, hnb⟩ : ∃ n, BM1.bl.length = n := ⟨_, rfl⟩
    have HLEN : Hid (BM1.r.rd.length ≤ 1000 ∧ BM1.r.wr.length ≤ 1000 ∧ BM1.vf.length ≤ 1000 ∧ BM1.bl.length ≤ 1000) := Lib.hid (by have := hgood.nb; have := HM1.out; omega)
    have HLN := Lib.hid (And.intro hn5 (And.intro hn6 (And.intro hvf hnb)))
    rw [hn5, hn6, hvf, hnb] at row1 own1
    have HR1 := Lib.hid row1
    have HM1a := Lib.hid own1.lists
    obtain ⟨S, hSS⟩ : ∃ s, mkB (putM BM1) = s := ⟨_, rfl⟩
    rw [hSS] at hpv
    have hSL : toL S = putM BM1 := by rw [← hSS]; exact toL_mkB _
    have hSz : S.size = (putM BM1).length := by rw [← hSS, mkB_size]
    rw [← hSL] at htake
    have HTAKE := Lib.hid htake
    have HSZ : Hid (S.size ≤ 1000000000 ∧ 1 ≤ S.size) := Lib.hid (by omega)
    have HSL := Lib.hid hSL
    have HWF := Lib.hid hwf
    have HSIG := Lib.hid hsig
    have HG := Lib.hid hgood
    have HVV := Lib.hid hver
    have hput := fun W hb => Put_calls W BM1 _ _ _ _ (own1.lists.below hb) (HT.out.below (Ba.out.trans (hb.mono Ba.out.size))) hwf
    simp only [hpv] at hput
    dsimp only [agM] at hput
    have HPUT := Lib.hid hput
    obtain ⟨PA, hPA⟩ : ∃ P, pkOf annaB = P := ⟨_, rfl⟩
    obtain ⟨PB, hPB⟩ : ∃ P, pkOf benB = P := ⟨_, rfl⟩
    obtain ⟨SA, hSA⟩ : ∃ P, secOf annaB = P := ⟨_, rfl⟩
    have HPUA := Lib.hid (fun W => publicOf8_calls annaB W (by decide))
    have HPUB := Lib.hid (fun W => publicOf8_calls benB W (by decide))
    have HSEA := Lib.hid (fun W => secretOf8_calls annaB W (by decide))
    simp only [hPA] at HPUA hc0 hc2 hc3 hpz
    simp only [hPB] at HPUB hc1 hpz
    simp only [hSA] at HSEA hc4 hpz
    rw [hPA] at HSPA
    have HC := Lib.hid (And.intro hc0 (And.intro hc1 (And.intro hc2 (And.intro hc3 hc4))))
    have HPZ := Lib.hid hpz
    obtain ⟨k0, k1, k2, k3, k4, k5, k6, k7, k8⟩ := row9 row1
    clear row1 own1 hz1 hbel1 hgood hbody hsig hver hvf hown hfile howner hsa hsb hpa hnab hnnn hc0 hc1 hc2 hc3 hc4 htake hwf hpv hps hn5b hpz hmp hn5 hn6 hnb hSS hSL hSz hput hPA hPB hSA
    go_wp2_with fail
    refine (HPUT.out _ (Below.refl _ _)).mono ?_
    rintro e wb ⟨rfl, hbb⟩
    have Bb := Lib.hid (Ba.out.trans (hbb.mono Ba.out.size))
    have HRb := Lib.hid ((Keep.of_below hbb : Keep (fun _ => False) wa wb).at HR1.out fun e => e)
    have HMb := Lib.hid (HM1a.out.below hbb)
    clear hbb k0 k1 k2 k3 k4 k5 k6 k7 k8
    have HTK := Lib.hid (mtake_calls S wb HSZ.out.1 (HT.out.below Bb.out))
    go_wp2_with fail
    refine HTK.out.mono ?_
    rintro e wc ⟨h1, hbc⟩
    rw [HTAKE.out] at h1
    obtain ⟨vr2, vw2, vv2, vb2, rfl, ml2⟩ := h1
    obtain ⟨P5, d5, rfl, _, _⟩ := ml2.rt.rd.form
    obtain ⟨P6, d6, rfl, _, _⟩ := ml2.rt.wr.form
    obtain ⟨P7, d7, rfl, _, _⟩ := ml2.vf.form
    obtain ⟨P8, d8, rfl, _, _⟩ := ml2.bl.form
    rw [HLN.out.1, HLN.out.2.1, HLN.out.2.2.1, HLN.out.2.2.2] at ml2
    dsimp only [agM]
    rw [HLN.out.1, HLN.out.2.1, HLN.out.2.2.1, HLN.out.2.2.2]
    have Bc := Lib.hid (Bb.out.trans (hbc.mono Bb.out.size))
    have HRc := Lib.hid ((Keep.of_below hbc : Keep (fun _ => False) wb wc).at HRb.out fun e => e)
    have HMc := Lib.hid (HMb.out.below hbc)
    have HXc := Lib.hid ml2
    clear hbc ml2
    go_wp2_with (with_reducible refine wp_stop_store (o := ⟨none, .store _ (.tmp 15) _, _, _, _, _⟩) _ _ _ rfl ?_)
    unfold Stop
    refine wp_store_all rfl _ _ _ rfl rfl rfl _ _ ((get_alloc _ _ _).trans (if_pos rfl)) info_mt rfl (by simp [Value.oneCell']) ?_
    intro wd hd kd sd
    obtain ⟨Zx, hZx⟩ : ∃ Z, wc.heap.size = Z := ⟨_, rfl⟩
    have hbcd : Below wc.heap.size wc wd := below_at ((Below.refl wc.heap.size wc).alloc (Nat.le_refl _) _) kd (Nat.le_refl _)
    have Bd := Lib.hid (Bc.out.trans (hbcd.mono Bc.out.size))
    have HRd := Lib.hid ((Keep.of_below hbcd : Keep (fun _ => False) wc wd).at HRc.out fun e => e)
    have HMd := Lib.hid (HMc.out.below hbcd)
    have HXd := Lib.hid (HXc.out.below hbcd)
    rw [hZx] at hd ⊢
    have HYd : Hid (wd.heap[Zx]? = some (.cells (mtCells BM1 (.slice P5 n5 d5) (.slice P6 n6 d6) (.slice P7 m1 d7) (.slice P8 nb d8)) 42 (0, 0))) := Lib.hid hd
    clear hbcd hd kd sd hZx
    have hrt := fun W hb => mright_calls W BM1 _ _ _ _ (HMd.out.below hb) (HT.out.below (Bd.out.trans (hb.mono Bd.out.size))) HWF.out
    simp only [good_rightM HG.out] at hrt
    dsimp only [agM] at hrt
    have HRT := Lib.hid hrt
    have has1 := fun W (hb : Below wd.heap.size wd W) => as8_calls W BM1 _ _ _ _ (HXd.out.below hb) HLEN.out.2.2.2
    have has2 := fun W (hb : Below wd.heap.size wd W) => as8_calls W BM1 _ _ _ _ (HMd.out.below hb) HLEN.out.2.2.2
    dsimp only [agM] at has1 has2
    have HAS1 := Lib.hid has1
    have HAS2 := Lib.hid has2
    have HSS : Hid (∀ W2, Below wd.heap.size wd W2 → ((W2.cell? ⟨Zm, 0, none⟩ = some (.string BM1.r.owner) ∧ W2.cell? ⟨Zm, 1, none⟩ = some (.string BM1.r.file) ∧ W2.cell? ⟨Zm, 2, none⟩ = some (.int .i64 BM1.r.epoch) ∧ W2.cell? ⟨Zm, 3, none⟩ = some (.slice A5 n5 c5) ∧ W2.cell? ⟨Zm, 4, none⟩ = some (.slice A6 n6 c6) ∧ W2.cell? ⟨Zm, 5, none⟩ = some (.int .u64 BM1.ver) ∧ W2.cell? ⟨Zm, 6, none⟩ = some (.slice A7 m1 c7) ∧ W2.cell? ⟨Zm, 7, none⟩ = some (.slice A8 nb c8) ∧ W2.cell? ⟨Zm, 8, none⟩ = some (.string BM1.sig)) ∧ (W2.cell? ⟨Zx, 0, none⟩ = some (.string BM1.r.owner) ∧ W2.cell? ⟨Zx, 1, none⟩ = some (.string BM1.r.file) ∧ W2.cell? ⟨Zx, 2, none⟩ = some (.int .i64 BM1.r.epoch) ∧ W2.cell? ⟨Zx, 3, none⟩ = some (.slice P5 n5 d5) ∧ W2.cell? ⟨Zx, 4, none⟩ = some (.slice P6 n6 d6) ∧ W2.cell? ⟨Zx, 5, none⟩ = some (.int .u64 BM1.ver) ∧ W2.cell? ⟨Zx, 6, none⟩ = some (.slice P7 m1 d7) ∧ W2.cell? ⟨Zx, 7, none⟩ = some (.slice P8 nb d8) ∧ W2.cell? ⟨Zx, 8, none⟩ = some (.string BM1.sig)))) := Lib.hid (fun W2 hb => ⟨row9 ((Keep.of_below hb : Keep (fun _ => False) wd W2).at HRd.out fun e => e), row9 ((Keep.of_below hb : Keep (fun _ => False) wd W2).at HYd.out fun e => e)⟩)
    have HSS2 : Hid (∀ W2, Below wd.heap.size wd W2 → (W2.cell? ⟨Zx, 0, none⟩ = some (.string BM1.r.owner) ∧ W2.cell? ⟨Zx, 1, none⟩ = some (.string BM1.r.file) ∧ W2.cell? ⟨Zx, 2, none⟩ = some (.int .i64 BM1.r.epoch) ∧ W2.cell? ⟨Zx, 3, none⟩ = some (.slice P5 n5 d5) ∧ W2.cell? ⟨Zx, 4, none⟩ = some (.slice P6 n6 d6) ∧ W2.cell? ⟨Zx, 5, none⟩ = some (.int .u64 BM1.ver) ∧ W2.cell? ⟨Zx, 6, none⟩ = some (.slice P7 m1 d7) ∧ W2.cell? ⟨Zx, 7, none⟩ = some (.slice P8 nb d8) ∧ W2.cell? ⟨Zx, 8, none⟩ = some (.string BM1.sig))) := Lib.hid (fun W2 hb => row9 ((Keep.of_below hb : Keep (fun _ => False) wd W2).at HYd.out fun e => e))
    clear hrt has1 has2
    go_wp2_with fail
    refine wp_region_G (fun W2 => (W2.cell? ⟨Zm, 0, none⟩ = some (.string BM1.r.owner) ∧ W2.cell? ⟨Zm, 1, none⟩ = some (.string BM1.r.file) ∧ W2.cell? ⟨Zm, 2, none⟩ = some (.int .i64 BM1.r.epoch) ∧ W2.cell? ⟨Zm, 3, none⟩ = some (.slice A5 n5 c5) ∧ W2.cell? ⟨Zm, 4, none⟩ = some (.slice A6 n6 c6) ∧ W2.cell? ⟨Zm, 5, none⟩ = some (.int .u64 BM1.ver) ∧ W2.cell? ⟨Zm, 6, none⟩ = some (.slice A7 m1 c7) ∧ W2.cell? ⟨Zm, 7, none⟩ = some (.slice A8 nb c8) ∧ W2.cell? ⟨Zm, 8, none⟩ = some (.string BM1.sig)) ∧ (W2.cell? ⟨Zx, 0, none⟩ = some (.string BM1.r.owner) ∧ W2.cell? ⟨Zx, 1, none⟩ = some (.string BM1.r.file) ∧ W2.cell? ⟨Zx, 2, none⟩ = some (.int .i64 BM1.r.epoch) ∧ W2.cell? ⟨Zx, 3, none⟩ = some (.slice P5 n5 d5) ∧ W2.cell? ⟨Zx, 4, none⟩ = some (.slice P6 n6 d6) ∧ W2.cell? ⟨Zx, 5, none⟩ = some (.int .u64 BM1.ver) ∧ W2.cell? ⟨Zx, 6, none⟩ = some (.slice P7 m1 d7) ∧ W2.cell? ⟨Zx, 7, none⟩ = some (.slice P8 nb d8) ∧ W2.cell? ⟨Zx, 8, none⟩ = some (.string BM1.sig))) [28] (by kernel_rfl) ?_
    have hb0 : Below wd.heap.size wd wd.drew := (Below.refl wd.heap.size wd).drew
    have hS := HSS.out _ hb0
    refine wpAnyG_pure (i := 0) (v := ?vr8a0) at0 (by kernel_rfl) (fun _ _ _ h => h) (Or.inl ⟨by rfl, ?hr8a0⟩) (Or.inr (by assumption)) ?rr8a0
    case hr8a0 => (intro w hSw; (try dsimp only at hSw); go_simp; try with_reducible rfl)
    case' rr8a0 => skip
    try simp only [Act.put, List.setIfInBounds_toArray, List.set_cons_zero, List.set_cons_succ]
    refine wpAnyG_pure (i := 1) (v := ?vr8a1) at1 (by kernel_rfl) (fun _ _ _ h => h) (Or.inl ⟨by rfl, ?hr8a1⟩) (Or.inr (by assumption)) ?rr8a1
    case hr8a1 => (intro w hSw; (try dsimp only at hSw); go_simp; try with_reducible rfl)
    case' rr8a1 => skip
    try simp only [Act.put, List.setIfInBounds_toArray, List.set_cons_zero, List.set_cons_succ]
    refine wpAnyG_pure (i := 2) (v := ?vr8a2) at2 (by kernel_rfl) (fun _ _ _ h => h) (Or.inl ⟨by rfl, ?hr8a2⟩) (Or.inr (by assumption)) ?rr8a2
    case hr8a2 => (intro w hSw; (try dsimp only at hSw); go_simp; try with_reducible rfl)
    case' rr8a2 => skip
    try simp only [Act.put, List.setIfInBounds_toArray, List.set_cons_zero, List.set_cons_succ]
    refine wpAnyG_pure (i := 3) (v := ?vr8a3) at3 (by kernel_rfl) (fun _ _ _ h => h) (Or.inl ⟨by rfl, ?hr8a3⟩) (Or.inr (by assumption)) ?rr8a3
    case hr8a3 => (intro w hSw; (try dsimp only at hSw); go_simp; try with_reducible rfl)
    case' rr8a3 => skip
    try simp only [Act.put, List.setIfInBounds_toArray, List.set_cons_zero, List.set_cons_succ]
    refine wpAnyG_pure (i := 4) (v := ?vr8a4) at4 (by kernel_rfl) (fun _ _ _ h => h) (Or.inl ⟨by rfl, ?hr8a4⟩) (Or.inr (by assumption)) ?rr8a4
    case hr8a4 => (intro w hSw; (try dsimp only at hSw); go_simp; try with_reducible rfl)
    case' rr8a4 => skip
    try simp only [Act.put, List.setIfInBounds_toArray, List.set_cons_zero, List.set_cons_succ]
    refine wpAnyG_pure (i := 5) (v := ?vr8a5) at5 (by kernel_rfl) (fun _ _ _ h => h) (Or.inl ⟨by rfl, ?hr8a5⟩) (Or.inr (by assumption)) ?rr8a5
    case hr8a5 => (intro w hSw; (try dsimp only at hSw); go_simp; try with_reducible rfl)
    case' rr8a5 => skip
    try simp only [Act.put, List.setIfInBounds_toArray, List.set_cons_zero, List.set_cons_succ]
    refine wpAnyG_pure (i := 6) (v := ?vr8a6) at6 (by kernel_rfl) (fun _ _ _ h => h) (Or.inl ⟨by rfl, ?hr8a6⟩) (Or.inr (by assumption)) ?rr8a6
    case hr8a6 => (intro w hSw; (try dsimp only at hSw); go_simp; try with_reducible rfl)
    case' rr8a6 => skip
    try simp only [Act.put, List.setIfInBounds_toArray, List.set_cons_zero, List.set_cons_succ]
    refine wpAnyG_pure (i := 7) (v := ?vr8a7) at7 (by kernel_rfl) (fun _ _ _ h => h) (Or.inl ⟨by rfl, ?hr8a7⟩) (Or.inr (by assumption)) ?rr8a7
    case hr8a7 => (intro w hSw; (try dsimp only at hSw); go_simp; try with_reducible rfl)
    case' rr8a7 => skip
    try simp only [Act.put, List.setIfInBounds_toArray, List.set_cons_zero, List.set_cons_succ]
    refine wpAnyG_pure (i := 8) (v := ?vr8a8) at8 (by kernel_rfl) (fun _ _ _ h => h) (Or.inl ⟨by rfl, ?hr8a8⟩) (Or.inr (by assumption)) ?rr8a8
    case hr8a8 => (intro w hSw; (try dsimp only at hSw); go_simp; try with_reducible rfl)
    case' rr8a8 => skip
    try simp only [Act.put, List.setIfInBounds_toArray, List.set_cons_zero, List.set_cons_succ]
    refine wpAnyG_pure (i := 9) (v := ?vr8a9) at9 (by kernel_rfl) (fun _ _ _ h => h) (Or.inl ⟨by rfl, ?hr8a9⟩) (Or.inr (by assumption)) ?rr8a9
    case hr8a9 => (intro w hSw; (try dsimp only at hSw); go_simp; try with_reducible rfl)
    case' rr8a9 => skip
    try simp only [Act.put, List.setIfInBounds_toArray, List.set_cons_zero, List.set_cons_succ]
    refine wpAnyG_pure (i := 10) (v := ?vr8a10) at10 (by kernel_rfl) (fun _ _ _ h => h) (Or.inl ⟨by rfl, ?hr8a10⟩) (Or.inr (by assumption)) ?rr8a10
    case hr8a10 => (intro w hSw; (try dsimp only at hSw); go_simp; try with_reducible rfl)
    case' rr8a10 => skip
    try simp only [Act.put, List.setIfInBounds_toArray, List.set_cons_zero, List.set_cons_succ]
    refine wpAnyG_take (ws := [11,12,13,14,15,22,23]) (i := 11) (v := ?vr8a11) at11 (by kernel_rfl) (fun _ _ _ h => h) (Or.inl ⟨by rfl, ?hr8a11⟩) (by assumption) ?rr8a11
    case hr8a11 => (intro w hSw; (try dsimp only at hSw); go_simp; try with_reducible rfl)
    case' rr8a11 => skip
    try simp only [Act.put, List.setIfInBounds_toArray, List.set_cons_zero, List.set_cons_succ]
    refine wpAnyG_one 12 at12 (by kernel_rfl) (fun Kn hK => ?_)
    go_simp
    refine (HRT.out _ hb0).mono ?_
    rintro e x1 ⟨rfl, hq⟩
    have hb1 := hb0.trans (hq.mono hb0.size)
    clear hS
    have hS := HSS.out _ hb1
    refine hK.out _ _ (Or.inr hS) ?_
    clear hK Kn
    try simp only [Act.put, List.setIfInBounds_toArray, List.set_cons_zero, List.set_cons_succ]
    refine wpAnyG_pure (i := 13) (v := ?vr8b13) at13 (by kernel_rfl) (fun _ _ _ h => h) (Or.inl ⟨by rfl, ?hr8b13⟩) (Or.inr (by assumption)) ?rr8b13
    case hr8b13 => (intro w hSw; (try dsimp only at hSw); go_simp; try with_reducible rfl)
    case' rr8b13 => skip
    try simp only [Act.put, List.setIfInBounds_toArray, List.set_cons_zero, List.set_cons_succ]
    refine wpAnyG_pure (i := 14) (v := ?vr8b14) at14 (by kernel_rfl) (fun _ _ _ h => h) (Or.inl ⟨by rfl, ?hr8b14⟩) (Or.inr (by assumption)) ?rr8b14
    case hr8b14 => (intro w hSw; (try dsimp only at hSw); go_simp; try with_reducible rfl)
    case' rr8b14 => skip
    try simp only [Act.put, List.setIfInBounds_toArray, List.set_cons_zero, List.set_cons_succ]
    refine wpAnyG_pure (i := 15) (v := ?vr8b15) at15 (by kernel_rfl) (fun _ _ _ h => h) (Or.inl ⟨by rfl, ?hr8b15⟩) (Or.inr (by assumption)) ?rr8b15
    case hr8b15 => (intro w hSw; (try dsimp only at hSw); go_simp; try with_reducible rfl)
    case' rr8b15 => skip
    try simp only [Act.put, List.setIfInBounds_toArray, List.set_cons_zero, List.set_cons_succ]
    refine wpAnyG_take (ws := [16,17,18,19,20,21,22,23]) (i := 16) (v := ?vr8b16) at16 (by kernel_rfl) (fun _ _ _ h => h) (Or.inl ⟨by rfl, ?hr8b16⟩) (by assumption) ?rr8b16
    case hr8b16 => (intro w hSw; (try dsimp only at hSw); go_simp; try with_reducible rfl)
    case' rr8b16 => skip
    try simp only [Act.put, List.setIfInBounds_toArray, List.set_cons_zero, List.set_cons_succ]
    refine wpAnyG_take (ws := [16,17,18,19,20,21,22,23]) (i := 18) (v := ?vr8b18) at18 (by kernel_rfl) (fun _ _ _ h => h) (Or.inl ⟨by rfl, ?hr8b18⟩) (by assumption) ?rr8b18
    case hr8b18 => (intro w hSw; (try dsimp only at hSw); go_simp; try with_reducible rfl)
    case' rr8b18 => skip
    try simp only [Act.put, List.setIfInBounds_toArray, List.set_cons_zero, List.set_cons_succ]
    refine wpAnyG_one 17 at17 (by kernel_rfl) (fun Kn hK => ?_)
    go_simp
    refine (HAS1.out _ hb1).mono ?_
    rintro e x2 ⟨⟨va1, rfl, ho1⟩, hq⟩
    have hb2 := hb1.trans (hq.mono hb1.size)
    clear hS
    have hS := HSS.out _ hb2
    refine hK.out _ _ (Or.inr hS) ?_
    clear hK Kn
    try simp only [Act.put, List.setIfInBounds_toArray, List.set_cons_zero, List.set_cons_succ]
    obtain ⟨Q1, e1, rfl, _, _⟩ := own_slice ho1
    have HQ1 := Lib.hid (rows_own ho1)
    clear ho1 hq
    refine wpAnyG_one 19 at19 (by kernel_rfl) (fun Kn hK => ?_)
    go_simp
    refine (HAS2.out _ hb2).mono ?_
    rintro e x3 ⟨⟨va2, rfl, ho2⟩, hq⟩
    have hb3 := hb2.trans (hq.mono hb2.size)
    clear hS
    have hS := HSS.out _ hb3
    refine hK.out _ _ (Or.inr hS) ?_
    clear hK Kn
    try simp only [Act.put, List.setIfInBounds_toArray, List.set_cons_zero, List.set_cons_succ]
    obtain ⟨Q2, e2, rfl, _, _⟩ := own_slice ho2
    have HQ2 := Lib.hid (rows_own ho2)
    have HQ1' := Lib.hid (HQ1.out.below hq)
    clear ho2 hq
    have hsm := same8_calls x3 BM1 _ _ _ _ _ _ _ _ ⟨(HXd.out.below hb3).rt, (HXd.out.below hb3).vf, HQ1'.out⟩ ⟨(HMd.out.below hb3).rt, (HMd.out.below hb3).vf, HQ2.out⟩ HLEN.out.1 HLEN.out.2.1 HLEN.out.2.2.1 HLEN.out.2.2.2
    dsimp only [agM] at hsm
    have HSM := Lib.hid hsm
    clear hsm
    refine wpAnyG_one 20 at20 (by kernel_rfl) (fun Kn hK => ?_)
    go_simp
    refine (HSM.out).mono ?_
    rintro e x4 ⟨rfl, hq⟩
    have hb4 := hb3.trans (hq.mono hb3.size)
    clear hS
    have hS := HSS.out _ hb4
    refine hK.out _ _ (Or.inr hS) ?_
    clear hK Kn hq
    try simp only [Act.put, List.setIfInBounds_toArray, List.set_cons_zero, List.set_cons_succ]
    have hvb : ((BM1.ver : Int) != (ver : Int)) = false := by rw [HVV.out]; simp
    refine wpAnyG_pure (i := 21) (v := ?vr8c21) at21 (by kernel_rfl) (fun _ _ _ h => h) (Or.inl ⟨by rfl, ?hr8c21⟩) (Or.inr (by assumption)) ?rr8c21
    case hr8c21 => (intro w hSw; (try dsimp only at hSw); go_simp; try with_reducible rfl)
    case' rr8c21 => skip
    try simp only [Act.put, List.setIfInBounds_toArray, List.set_cons_zero, List.set_cons_succ]
    refine wpAnyG_pure (i := 22) (v := ?vr8c22) at22 (by kernel_rfl) (fun _ _ _ h => h) (Or.inl ⟨by rfl, ?hr8c22⟩) (Or.inr (by assumption)) ?rr8c22
    case hr8c22 => (intro w hSw; (try dsimp only at hSw); go_simp; try with_reducible rfl)
    case' rr8c22 => skip
    try simp only [Act.put, List.setIfInBounds_toArray, List.set_cons_zero, List.set_cons_succ]
    refine wpAnyG_pure (i := 23) (v := ?vr8c23) at23 (by kernel_rfl) (fun _ _ _ h => h) (Or.inl ⟨by rfl, ?hr8c23⟩) (Or.inr (by assumption)) ?rr8c23
    case hr8c23 => (intro w hSw; (try dsimp only at hSw); go_simp; try with_reducible rfl)
    case' rr8c23 => skip
    try simp only [Act.put, List.setIfInBounds_toArray, List.set_cons_zero, List.set_cons_succ]
    refine wpAnyG_pure (i := 24) (v := ?vr8c24) at24 (by kernel_rfl) (fun _ _ _ h => h) (Or.inl ⟨by rfl, ?hr8c24⟩) (Or.inr (by assumption)) ?rr8c24
    case hr8c24 => (intro w hSw; (try dsimp only at hSw); go_simp; try with_reducible rfl)
    case' rr8c24 => skip
    try simp only [Act.put, List.setIfInBounds_toArray, List.set_cons_zero, List.set_cons_succ]
    refine wpAnyG_take (ws := [25,27]) (i := 25) (v := ?vr8c25) at25 (by kernel_rfl) (fun _ _ _ h => h) (Or.inl ⟨by rfl, ?hr8c25⟩) (by assumption) ?rr8c25
    case hr8c25 => (intro w hSw; (try dsimp only at hSw); go_simp; try with_reducible rfl)
    case' rr8c25 => skip
    try simp only [Act.put, List.setIfInBounds_toArray, List.set_cons_zero, List.set_cons_succ]
    refine wpAnyG_pure (i := 26) (v := ?vr8c26) at26 (by kernel_rfl) (fun _ _ _ h => h) (Or.inl ⟨by rfl, ?hr8c26⟩) (Or.inr (by assumption)) ?rr8c26
    case hr8c26 => (intro w hSw; (try dsimp only at hSw); go_simp; try with_reducible rfl)
    case' rr8c26 => skip
    try simp only [Act.put, List.setIfInBounds_toArray, List.set_cons_zero, List.set_cons_succ]
    refine wpAnyG_pure (i := 27) (v := ?vr8c27) at27 (by kernel_rfl) (fun _ _ _ h => h) (Or.inl ⟨by rfl, ?hr8c27⟩) (Or.inr (by assumption)) ?rr8c27
    case hr8c27 => (intro w hSw; (try dsimp only at hSw); go_simp; try with_reducible rfl)
    case' rr8c27 => skip
    try simp only [Act.put, List.setIfInBounds_toArray, List.set_cons_zero, List.set_cons_succ]
    refine wpAnyG_one 28 at28 (by kernel_rfl) (fun Kn hK => ?_)
    go_simp
    refine hK.out _ _ (Or.inl (by kernel_rfl)) ?_
    clear hK Kn hS hvb
    have HB4 := Lib.hid hb4
    clear hb0 hb1 hb2 hb3 hb4
    refine wpAnyG_done (by kernel_rfl) ?_
    try simp only [Act.put, List.setIfInBounds_toArray, List.set_cons_zero, List.set_cons_succ]
    have hk1 := fun W (hb : Below wd.heap.size wd W) => check_calls W BM1 _ _ _ _ PA annaB notesB (HXd.out.below hb) (HT.out.below (Bd.out.trans (hb.mono Bd.out.size))) HWF.out (by have := HPZ.out; omega)
    have hk2 := fun W (hb : Below wd.heap.size wd W) => check_calls W BM1 _ _ _ _ PB annaB notesB (HXd.out.below hb) (HT.out.below (Bd.out.trans (hb.mono Bd.out.size))) HWF.out (by have := HPZ.out; omega)
    have hk3 := fun W (hb : Below wd.heap.size wd W) => check_calls W BM1 _ _ _ _ PA benB notesB (HXd.out.below hb) (HT.out.below (Bd.out.trans (hb.mono Bd.out.size))) HWF.out (by have := HPZ.out; omega)
    have hk4 := fun W (hb : Below wd.heap.size wd W) => check_calls W BM1 _ _ _ _ PA annaB noteB (HXd.out.below hb) (HT.out.below (Bd.out.trans (hb.mono Bd.out.size))) HWF.out (by have := HPZ.out; omega)
    have hk5 := fun W (hb : Below wd.heap.size wd W) => check_calls W BM1 _ _ _ _ SA annaB notesB (HXd.out.below hb) (HT.out.below (Bd.out.trans (hb.mono Bd.out.size))) HWF.out (by have := HPZ.out; omega)
    simp only [HC.out.1] at hk1
    simp only [HC.out.2.1] at hk2
    simp only [HC.out.2.2.1] at hk3
    simp only [HC.out.2.2.2.1] at hk4
    simp only [HC.out.2.2.2.2] at hk5
    dsimp only [agM] at hk1 hk2 hk3 hk4 hk5
    have HK1 := Lib.hid hk1
    have HK2 := Lib.hid hk2
    have HK3 := Lib.hid hk3
    have HK4 := Lib.hid hk4
    have HK5 := Lib.hid hk5
    clear hk1 hk2 hk3 hk4 hk5
    go_wp2_with fail
    refine wp_region_G (fun W2 => W2.cell? ⟨Zx, 0, none⟩ = some (.string BM1.r.owner) ∧ W2.cell? ⟨Zx, 1, none⟩ = some (.string BM1.r.file) ∧ W2.cell? ⟨Zx, 2, none⟩ = some (.int .i64 BM1.r.epoch) ∧ W2.cell? ⟨Zx, 3, none⟩ = some (.slice P5 n5 d5) ∧ W2.cell? ⟨Zx, 4, none⟩ = some (.slice P6 n6 d6) ∧ W2.cell? ⟨Zx, 5, none⟩ = some (.int .u64 BM1.ver) ∧ W2.cell? ⟨Zx, 6, none⟩ = some (.slice P7 m1 d7) ∧ W2.cell? ⟨Zx, 7, none⟩ = some (.slice P8 nb d8) ∧ W2.cell? ⟨Zx, 8, none⟩ = some (.string BM1.sig)) [27] (by kernel_rfl) ?_
    have hb0 := HB4.out.drew
    have hS := HSS2.out _ hb0
    refine wpAnyG_take (ws := [0,2,3,4,8,9,10,14,15,16,20,21,22,26]) (i := 0) (v := ?vq0a0) at0 (by kernel_rfl) (fun _ _ _ h => h) (Or.inl ⟨by rfl, ?hq0a0⟩) (by assumption) ?rq0a0
    case hq0a0 => (intro w hSw; (try dsimp only at hSw); go_simp; try with_reducible rfl)
    case' rq0a0 => skip
    try simp only [Act.put, List.setIfInBounds_toArray, List.set_cons_zero, List.set_cons_succ]
    refine wpAnyG_one 1 at1 (by kernel_rfl) (fun Kn hK => ?_)
    go_simp
    refine (HPUA.out _).mono ?_
    rintro e y0 ⟨rfl, hq⟩
    have hb1 := hb0.trans (hq.mono hb0.size)
    clear hS
    have hS := HSS2.out _ hb1
    refine hK.out _ _ (Or.inr hS) ?_
    clear hK Kn hq
    try simp only [Act.put, List.setIfInBounds_toArray, List.set_cons_zero, List.set_cons_succ]
    refine wpAnyG_one 2 at2 (by kernel_rfl) (fun Kn hK => ?_)
    go_simp
    refine (HK1.out _ hb1).mono ?_
    rintro e y1 ⟨rfl, hq⟩
    have hb2 := hb1.trans (hq.mono hb1.size)
    clear hS
    have hS := HSS2.out _ hb2
    refine hK.out _ _ (Or.inr hS) ?_
    clear hK Kn hq
    try simp only [Act.put, List.setIfInBounds_toArray, List.set_cons_zero, List.set_cons_succ]
    refine wpAnyG_pure (i := 3) (v := ?vq0b3) at3 (by kernel_rfl) (fun _ _ _ h => h) (Or.inl ⟨by rfl, ?hq0b3⟩) (Or.inr (by assumption)) ?rq0b3
    case hq0b3 => (intro w hSw; (try dsimp only at hSw); go_simp; try with_reducible rfl)
    case' rq0b3 => skip
    try simp only [Act.put, List.setIfInBounds_toArray, List.set_cons_zero, List.set_cons_succ]
    refine wpAnyG_pure (i := 4) (v := ?vq0b4) at4 (by kernel_rfl) (fun _ _ _ h => h) (Or.inl ⟨by rfl, ?hq0b4⟩) (Or.inr (by assumption)) ?rq0b4
    case hq0b4 => (intro w hSw; (try dsimp only at hSw); go_simp; try with_reducible rfl)
    case' rq0b4 => skip
    try simp only [Act.put, List.setIfInBounds_toArray, List.set_cons_zero, List.set_cons_succ]
    refine wpAnyG_take (ws := [5,7,8,9,10,14,15,16,20,21,22,26]) (i := 5) (v := ?vq1a5) at5 (by kernel_rfl) (fun _ _ _ h => h) (Or.inl ⟨by rfl, ?hq1a5⟩) (by assumption) ?rq1a5
    case hq1a5 => (intro w hSw; (try dsimp only at hSw); go_simp; try with_reducible rfl)
    case' rq1a5 => skip
    try simp only [Act.put, List.setIfInBounds_toArray, List.set_cons_zero, List.set_cons_succ]
    refine wpAnyG_one 6 at6 (by kernel_rfl) (fun Kn hK => ?_)
    go_simp
    refine (HPUB.out _).mono ?_
    rintro e y2 ⟨rfl, hq⟩
    have hb3 := hb2.trans (hq.mono hb2.size)
    clear hS
    have hS := HSS2.out _ hb3
    refine hK.out _ _ (Or.inr hS) ?_
    clear hK Kn hq
    try simp only [Act.put, List.setIfInBounds_toArray, List.set_cons_zero, List.set_cons_succ]
    refine wpAnyG_one 7 at7 (by kernel_rfl) (fun Kn hK => ?_)
    go_simp
    refine (HK2.out _ hb3).mono ?_
    rintro e y3 ⟨rfl, hq⟩
    have hb4 := hb3.trans (hq.mono hb3.size)
    clear hS
    have hS := HSS2.out _ hb4
    refine hK.out _ _ (Or.inr hS) ?_
    clear hK Kn hq
    try simp only [Act.put, List.setIfInBounds_toArray, List.set_cons_zero, List.set_cons_succ]
    refine wpAnyG_pure (i := 8) (v := ?vq1b8) at8 (by kernel_rfl) (fun _ _ _ h => h) (Or.inl ⟨by rfl, ?hq1b8⟩) (Or.inr (by assumption)) ?rq1b8
    case hq1b8 => (intro w hSw; (try dsimp only at hSw); go_simp; try with_reducible rfl)
    case' rq1b8 => skip
    try simp only [Act.put, List.setIfInBounds_toArray, List.set_cons_zero, List.set_cons_succ]
    refine wpAnyG_pure (i := 9) (v := ?vq1b9) at9 (by kernel_rfl) (fun _ _ _ h => h) (Or.inl ⟨by rfl, ?hq1b9⟩) (Or.inr (by assumption)) ?rq1b9
    case hq1b9 => (intro w hSw; (try dsimp only at hSw); go_simp; try with_reducible rfl)
    case' rq1b9 => skip
    try simp only [Act.put, List.setIfInBounds_toArray, List.set_cons_zero, List.set_cons_succ]
    refine wpAnyG_pure (i := 10) (v := ?vq1b10) at10 (by kernel_rfl) (fun _ _ _ h => h) (Or.inl ⟨by rfl, ?hq1b10⟩) (Or.inr (by assumption)) ?rq1b10
    case hq1b10 => (intro w hSw; (try dsimp only at hSw); go_simp; try with_reducible rfl)
    case' rq1b10 => skip
    try simp only [Act.put, List.setIfInBounds_toArray, List.set_cons_zero, List.set_cons_succ]
    refine wpAnyG_take (ws := [11,13,14,15,16,20,21,22,26]) (i := 11) (v := ?vq2a11) at11 (by kernel_rfl) (fun _ _ _ h => h) (Or.inl ⟨by rfl, ?hq2a11⟩) (by assumption) ?rq2a11
    case hq2a11 => (intro w hSw; (try dsimp only at hSw); go_simp; try with_reducible rfl)
    case' rq2a11 => skip
    try simp only [Act.put, List.setIfInBounds_toArray, List.set_cons_zero, List.set_cons_succ]
    refine wpAnyG_one 12 at12 (by kernel_rfl) (fun Kn hK => ?_)
    go_simp
    refine (HPUA.out _).mono ?_
    rintro e y4 ⟨rfl, hq⟩
    have hb5 := hb4.trans (hq.mono hb4.size)
    clear hS
    have hS := HSS2.out _ hb5
    refine hK.out _ _ (Or.inr hS) ?_
    clear hK Kn hq
    try simp only [Act.put, List.setIfInBounds_toArray, List.set_cons_zero, List.set_cons_succ]
    refine wpAnyG_one 13 at13 (by kernel_rfl) (fun Kn hK => ?_)
    go_simp
    refine (HK3.out _ hb5).mono ?_
    rintro e y5 ⟨rfl, hq⟩
    have hb6 := hb5.trans (hq.mono hb5.size)
    clear hS
    have hS := HSS2.out _ hb6
    refine hK.out _ _ (Or.inr hS) ?_
    clear hK Kn hq
    try simp only [Act.put, List.setIfInBounds_toArray, List.set_cons_zero, List.set_cons_succ]
    refine wpAnyG_pure (i := 14) (v := ?vq2b14) at14 (by kernel_rfl) (fun _ _ _ h => h) (Or.inl ⟨by rfl, ?hq2b14⟩) (Or.inr (by assumption)) ?rq2b14
    case hq2b14 => (intro w hSw; (try dsimp only at hSw); go_simp; try with_reducible rfl)
    case' rq2b14 => skip
    try simp only [Act.put, List.setIfInBounds_toArray, List.set_cons_zero, List.set_cons_succ]
    refine wpAnyG_pure (i := 15) (v := ?vq2b15) at15 (by kernel_rfl) (fun _ _ _ h => h) (Or.inl ⟨by rfl, ?hq2b15⟩) (Or.inr (by assumption)) ?rq2b15
    case hq2b15 => (intro w hSw; (try dsimp only at hSw); go_simp; try with_reducible rfl)
    case' rq2b15 => skip
    try simp only [Act.put, List.setIfInBounds_toArray, List.set_cons_zero, List.set_cons_succ]
    refine wpAnyG_pure (i := 16) (v := ?vq2b16) at16 (by kernel_rfl) (fun _ _ _ h => h) (Or.inl ⟨by rfl, ?hq2b16⟩) (Or.inr (by assumption)) ?rq2b16
    case hq2b16 => (intro w hSw; (try dsimp only at hSw); go_simp; try with_reducible rfl)
    case' rq2b16 => skip
    try simp only [Act.put, List.setIfInBounds_toArray, List.set_cons_zero, List.set_cons_succ]
    refine wpAnyG_take (ws := [17,19,20,21,22,26]) (i := 17) (v := ?vq3a17) at17 (by kernel_rfl) (fun _ _ _ h => h) (Or.inl ⟨by rfl, ?hq3a17⟩) (by assumption) ?rq3a17
    case hq3a17 => (intro w hSw; (try dsimp only at hSw); go_simp; try with_reducible rfl)
    case' rq3a17 => skip
    try simp only [Act.put, List.setIfInBounds_toArray, List.set_cons_zero, List.set_cons_succ]
    refine wpAnyG_one 18 at18 (by kernel_rfl) (fun Kn hK => ?_)
    go_simp
    refine (HPUA.out _).mono ?_
    rintro e y6 ⟨rfl, hq⟩
    have hb7 := hb6.trans (hq.mono hb6.size)
    clear hS
    have hS := HSS2.out _ hb7
    refine hK.out _ _ (Or.inr hS) ?_
    clear hK Kn hq
    try simp only [Act.put, List.setIfInBounds_toArray, List.set_cons_zero, List.set_cons_succ]
    refine wpAnyG_one 19 at19 (by kernel_rfl) (fun Kn hK => ?_)
    go_simp
    refine (HK4.out _ hb7).mono ?_
    rintro e y7 ⟨rfl, hq⟩
    have hb8 := hb7.trans (hq.mono hb7.size)
    clear hS
    have hS := HSS2.out _ hb8
    refine hK.out _ _ (Or.inr hS) ?_
    clear hK Kn hq
    try simp only [Act.put, List.setIfInBounds_toArray, List.set_cons_zero, List.set_cons_succ]
    refine wpAnyG_pure (i := 20) (v := ?vq3b20) at20 (by kernel_rfl) (fun _ _ _ h => h) (Or.inl ⟨by rfl, ?hq3b20⟩) (Or.inr (by assumption)) ?rq3b20
    case hq3b20 => (intro w hSw; (try dsimp only at hSw); go_simp; try with_reducible rfl)
    case' rq3b20 => skip
    try simp only [Act.put, List.setIfInBounds_toArray, List.set_cons_zero, List.set_cons_succ]
    refine wpAnyG_pure (i := 21) (v := ?vq3b21) at21 (by kernel_rfl) (fun _ _ _ h => h) (Or.inl ⟨by rfl, ?hq3b21⟩) (Or.inr (by assumption)) ?rq3b21
    case hq3b21 => (intro w hSw; (try dsimp only at hSw); go_simp; try with_reducible rfl)
    case' rq3b21 => skip
    try simp only [Act.put, List.setIfInBounds_toArray, List.set_cons_zero, List.set_cons_succ]
    refine wpAnyG_pure (i := 22) (v := ?vq3b22) at22 (by kernel_rfl) (fun _ _ _ h => h) (Or.inl ⟨by rfl, ?hq3b22⟩) (Or.inr (by assumption)) ?rq3b22
    case hq3b22 => (intro w hSw; (try dsimp only at hSw); go_simp; try with_reducible rfl)
    case' rq3b22 => skip
    try simp only [Act.put, List.setIfInBounds_toArray, List.set_cons_zero, List.set_cons_succ]
    refine wpAnyG_take (ws := [23,25,26]) (i := 23) (v := ?vq4a23) at23 (by kernel_rfl) (fun _ _ _ h => h) (Or.inl ⟨by rfl, ?hq4a23⟩) (by assumption) ?rq4a23
    case hq4a23 => (intro w hSw; (try dsimp only at hSw); go_simp; try with_reducible rfl)
    case' rq4a23 => skip
    try simp only [Act.put, List.setIfInBounds_toArray, List.set_cons_zero, List.set_cons_succ]
    refine wpAnyG_one 24 at24 (by kernel_rfl) (fun Kn hK => ?_)
    go_simp
    refine (HSEA.out _).mono ?_
    rintro e y8 ⟨rfl, hq⟩
    have hb9 := hb8.trans (hq.mono hb8.size)
    clear hS
    have hS := HSS2.out _ hb9
    refine hK.out _ _ (Or.inr hS) ?_
    clear hK Kn hq
    try simp only [Act.put, List.setIfInBounds_toArray, List.set_cons_zero, List.set_cons_succ]
    refine wpAnyG_one 25 at25 (by kernel_rfl) (fun Kn hK => ?_)
    go_simp
    refine (HK5.out _ hb9).mono ?_
    rintro e y9 ⟨rfl, hq⟩
    have hb10 := hb9.trans (hq.mono hb9.size)
    clear hS
    have hS := HSS2.out _ hb10
    refine hK.out _ _ (Or.inr hS) ?_
    clear hK Kn hq
    try simp only [Act.put, List.setIfInBounds_toArray, List.set_cons_zero, List.set_cons_succ]
    refine wpAnyG_pure (i := 26) (v := ?vq4b26) at26 (by kernel_rfl) (fun _ _ _ h => h) (Or.inl ⟨by rfl, ?hq4b26⟩) (Or.inr (by assumption)) ?rq4b26
    case hq4b26 => (intro w hSw; (try dsimp only at hSw); go_simp; try with_reducible rfl)
    case' rq4b26 => skip
    try simp only [Act.put, List.setIfInBounds_toArray, List.set_cons_zero, List.set_cons_succ]
    refine wpAnyG_one 27 at27 (by kernel_rfl) (fun Kn hK => ?_)
    go_simp
    refine hK.out _ _ (Or.inl (by kernel_rfl)) ?_
    clear hK Kn hS
    have HBE := Lib.hid hb10
    clear hb0 hb1 hb2 hb3 hb4 hb5 hb6 hb7 hb8 hb9 hb10
    refine wpAnyG_done (by kernel_rfl) ?_
    try simp only [Act.put, List.setIfInBounds_toArray, List.set_cons_zero, List.set_cons_succ]
    obtain ⟨k, hk, hkl⟩ : ∃ k : Nat, pickZ at_ S.size = (k : Int) ∧ k < S.size := by
      have := HSZ.out
      have := pickZ_lt at_ (n := S.size) (by omega)
      exact ⟨(pickZ at_ S.size).toNat, by omega, by omega⟩
    have HPK := Lib.hid (fun W => pick8_calls at_ S.size W HAT.out.1 HAT.out.2 (by have := HSZ.out; omega) (by have := HSZ.out; omega))
    rw [hk] at HPK
    have hcv := Lib.run_convert_string_bytes (P := Tryz.prog) y9 9 89 5 S Tryz.underlying9 Tryz.underlying89 Tryz.underlying5
    obtain ⟨cap, hcap⟩ : ∃ cap, grownCap y9 S.size 0 5 = cap := ⟨_, rfl⟩
    have hcap2 : S.size ≤ cap := by rw [← hcap]; exact grownCap_ge _ _ _ _
    obtain ⟨x, hx⟩ : ∃ x, (toL S)[k]? = some x := ⟨_, List.getElem?_eq_getElem (by rw [toL_len]; exact hkl)⟩
    have hcl : (Lib.bytesWorld y9 5 S).cell? ⟨y9.heap.size, k, none⟩ = some (.int .u8 (x.toNat : Int)) := by
      rw [Lib.bytesWorld_cell y9 5 S k hkl, List.getD_eq_getElem?_getD]
      have hx' : S.data.toList[k]? = some x := hx
      rw [hx']; rfl
    have hfz := bytes_frozen y9 S hkl
    have hcv2 := conv_written (w := y9) (S := S) hkl (x ^^^ 1) cap
    have hxor := xor_byte x
    have hbg : Below y9.heap.size y9 ((Lib.bytesWorld y9 5 S).setCell ⟨y9.heap.size, k, none⟩ (.int .u8 ((x ^^^ 1).toNat : Int))) := below_at (Lib.bytesWorld_below y9 5 S) (Keep.setCell (fun i => i = y9.heap.size) _ (p := ⟨y9.heap.size, k, none⟩) rfl _) (Nat.le_refl _)
    have hwb := HBE.out.trans (hbg.mono HBE.out.size)
    have Bh := Bd.out.trans (hwb.mono Bd.out.size)
    obtain ⟨S2, hS2⟩ : ∃ s, mkB ((toL S).set k (x ^^^ 1)) = s := ⟨_, rfl⟩
    have hS2L : toL S2 = (toL S).set k (x ^^^ 1) := by rw [← hS2]; exact toL_mkB _
    have hS2s : S2.size = S.size := by rw [← hS2, mkB_size, List.length_set, toL_len]
    have hsp : ∀ y : Mt, takeM (toL S2) = some y → ∀ o f, checkM y PA o f ≠ 0 := fun y hy o f => by
      refine spoilt (m := BM1) (q := toL (secOf annaB)) (s := toL S2) (i := k) HSPA.out HSIG.out ?_ (fun j hj => ?_) ?_ hy
      · rw [hS2L, List.length_set, HSL.out]
      · rw [hS2L, List.getElem?_set_ne (fun e => hj e.symm), HSL.out]
      · rw [hS2L, ← HSL.out]
        exact set_ne hx (xor_ne x)
    have HSP := Lib.hid hsp
    obtain ⟨BB, hBB⟩ : ∃ b, y9.heap.size = b := ⟨_, rfl⟩
    obtain ⟨X, hX⟩ : ∃ X, x.toNat = X := ⟨_, rfl⟩
    obtain ⟨Y, hY⟩ : ∃ Y, (x ^^^ 1).toNat = Y := ⟨_, rfl⟩
    rw [hS2] at hcv2
    rw [hcap, hBB] at hcv
    rw [hX, hBB] at hcl
    rw [hBB] at hfz hcv2 hbg
    rw [hX, hY] at hxor
    rw [hY] at hcv2
    rw [hBB, hY] at Bh
    obtain ⟨wg, hwg⟩ : ∃ W, Lib.bytesWorld y9 5 S = W := ⟨_, rfl⟩
    rw [hwg] at hcv hcl hfz hcv2 Bh
    obtain ⟨wh, hwh⟩ : ∃ W, wg.setCell ⟨BB, k, none⟩ (.int .u8 (Y : Int)) = W := ⟨_, rfl⟩
    rw [hwh] at hcv2 Bh
    have HBh := Lib.hid Bh
    have HTK2 := Lib.hid (mtake_calls S2 wh (by have := HSZ.out; omega) (HT.out.below Bh))
    clear hk hcap hx hbg hwb Bh hS2 hS2L hS2s hsp hBB hX hY hwg
    go_wp2_with fail
    refine (HPK.out _).mono ?_
    rintro e w_ ⟨rfl, rfl⟩
    go_wp2_with fail
    clear hcv hcl hfz hcv2 hxor hwh
    refine HTK2.out.mono ?_
    rintro e wi ⟨h2, hbi⟩
    cases ht : takeM (toL S2) with
    | none =>
      rw [ht] at h2
      dsimp only at h2
      subst h2
      have Bi := Lib.hid (HBh.out.trans (hbi.mono HBh.out.size))
      clear hbi ht
      dsimp only [zero9]
      go_wp2_with (with_reducible refine wp_stop_store (o := ⟨none, .store _ (.tmp 19) _, _, _, _, _⟩) _ _ _ rfl ?_)
      unfold Stop
      refine wp_store_all rfl _ _ _ rfl rfl rfl _ _ ((get_alloc _ _ _).trans (if_pos rfl)) info_mt rfl (by simp [Value.oneCell']) ?_
      intro wj hj kj sj
      have Bj := Lib.hid (Bi.out.trans ((below_at ((Below.refl wi.heap.size wi).alloc (Nat.le_refl _) _) kj (Nat.le_refl _)).mono Bi.out.size))
      clear hj kj sj
      go_wp2_with fail
      refine wp_region_G (fun W2 => Hid True) [8] (by kernel_rfl) ?_
      have hS : (fun W2 : World => Hid True) wj.drew := Lib.hid trivial
      refine wpAnyG_pure (i := 0) (v := ?vn1a0) at0 (by kernel_rfl) (fun _ _ _ h => h) (Or.inl ⟨by rfl, ?hn1a0⟩) (Or.inr (by assumption)) ?rn1a0
      case hn1a0 => (intro w hSw; (try dsimp only at hSw); go_simp; try with_reducible rfl)
      case' rn1a0 => skip
      try simp only [Act.put, List.setIfInBounds_toArray, List.set_cons_zero, List.set_cons_succ]
      refine wpAnyG_pure (i := 1) (v := ?vn1a1) at1 (by kernel_rfl) (fun _ _ _ h => h) (Or.inl ⟨by rfl, ?hn1a1⟩) (Or.inr (by assumption)) ?rn1a1
      case hn1a1 => (intro w hSw; (try dsimp only at hSw); go_simp; try with_reducible rfl)
      case' rn1a1 => skip
      try simp only [Act.put, List.setIfInBounds_toArray, List.set_cons_zero, List.set_cons_succ]
      refine wpAnyG_pure (i := 2) (v := ?vn1a2) at2 (by kernel_rfl) (fun _ _ _ h => h) (Or.inl ⟨by rfl, ?hn1a2⟩) (Or.inr (by assumption)) ?rn1a2
      case hn1a2 => (intro w hSw; (try dsimp only at hSw); go_simp; try with_reducible rfl)
      case' rn1a2 => skip
      try simp only [Act.put, List.setIfInBounds_toArray, List.set_cons_zero, List.set_cons_succ]
      refine wpAnyG_pure (i := 3) (v := undef) at3 (by kernel_rfl) (fun _ _ _ h => h) (Or.inr ⟨by rfl, rfl⟩) (by first | assumption | exact Or.inr (by assumption)) ?rn1a3
      case' rn1a3 => skip
      try simp only [Act.put, List.setIfInBounds_toArray, List.set_cons_zero, List.set_cons_succ]
      refine wpAnyG_pure (i := 4) (v := undef) at4 (by kernel_rfl) (fun _ _ _ h => h) (Or.inr ⟨by rfl, rfl⟩) (by first | assumption | exact Or.inr (by assumption)) ?rn1a4
      case' rn1a4 => skip
      try simp only [Act.put, List.setIfInBounds_toArray, List.set_cons_zero, List.set_cons_succ]
      refine wpAnyG_pure (i := 5) (v := undef) at5 (by kernel_rfl) (fun _ _ _ h => h) (Or.inr ⟨by rfl, rfl⟩) (by first | assumption | exact Or.inr (by assumption)) ?rn1a5
      case' rn1a5 => skip
      try simp only [Act.put, List.setIfInBounds_toArray, List.set_cons_zero, List.set_cons_succ]
      refine wpAnyG_pure (i := 6) (v := undef) at6 (by kernel_rfl) (fun _ _ _ h => h) (Or.inr ⟨by rfl, rfl⟩) (by first | assumption | exact Or.inr (by assumption)) ?rn1a6
      case' rn1a6 => skip
      try simp only [Act.put, List.setIfInBounds_toArray, List.set_cons_zero, List.set_cons_succ]
      refine wpAnyG_pure (i := 7) (v := ?vn1a7) at7 (by kernel_rfl) (fun _ _ _ h => h) (Or.inl ⟨by rfl, ?hn1a7⟩) (Or.inr (by assumption)) ?rn1a7
      case hn1a7 => (intro w hSw; (try dsimp only at hSw); go_simp; try with_reducible rfl)
      case' rn1a7 => skip
      try simp only [Act.put, List.setIfInBounds_toArray, List.set_cons_zero, List.set_cons_succ]
      refine wpAnyG_one 8 at8 (by kernel_rfl) (fun Kn hK => ?_)
      go_simp
      refine hK.out _ _ (Or.inl (by kernel_rfl)) ?_
      have HF := Lib.hid Bj.out.drew
      clear hK Kn hS
      refine wpAnyG_done (by kernel_rfl) ?_
      try simp only [Act.put, List.setIfInBounds_toArray, List.set_cons_zero, List.set_cons_succ]
      go_wp2_with fail
      go_ret
      exact ⟨rfl, HF.out⟩
    | some y =>
      rw [ht] at h2
      obtain ⟨vr3, vw3, vv3, vb3, rfl, ml3⟩ := h2
      obtain ⟨hyr, hyp, hyv⟩ := takeM_some ht
      have hyw := (rightM_good hyr).wf hyv
      have hsp := HSP.out y ht annaB notesB
      obtain ⟨G5, g5, rfl, _, _⟩ := ml3.rt.rd.form
      obtain ⟨G6, g6, rfl, _, _⟩ := ml3.rt.wr.form
      obtain ⟨G7, g7, rfl, _, _⟩ := ml3.vf.form
      obtain ⟨G8, g8, rfl, _, _⟩ := ml3.bl.form
      have Bi := Lib.hid (HBh.out.trans (hbi.mono HBh.out.size))
      have HYi := Lib.hid ml3
      have HYW := Lib.hid hyw
      obtain ⟨CC, hCC⟩ : ∃ c, checkM y PA annaB notesB = c := ⟨_, rfl⟩
      rw [hCC] at hsp
      have HCC := Lib.hid hCC
      have hcn : (CC != 0) = true := by rw [bne_iff_ne]; exact hsp
      clear hbi ht ml3 hyr hyp hyv hyw hCC hsp
      dsimp only [agM]
      go_wp2_with (with_reducible refine wp_stop_store (o := ⟨none, .store _ (.tmp 19) _, _, _, _, _⟩) _ _ _ rfl ?_)
      unfold Stop
      refine wp_store_all rfl _ _ _ rfl rfl rfl _ _ ((get_alloc _ _ _).trans (if_pos rfl)) info_mt rfl (by simp [Value.oneCell']) ?_
      intro wj hj kj sj
      obtain ⟨Zy, hZy⟩ : ∃ Z, wi.heap.size = Z := ⟨_, rfl⟩
      have hbij : Below wi.heap.size wi wj := below_at ((Below.refl wi.heap.size wi).alloc (Nat.le_refl _) _) kj (Nat.le_refl _)
      have Bj := Lib.hid (Bi.out.trans (hbij.mono Bi.out.size))
      have HYj := Lib.hid (HYi.out.below hbij)
      rw [hZy] at hj ⊢
      have HSS3 : Hid (∀ W2, Below wj.heap.size wj W2 → (W2.cell? ⟨Zy, 0, none⟩ = some (.string y.r.owner) ∧ W2.cell? ⟨Zy, 1, none⟩ = some (.string y.r.file) ∧ W2.cell? ⟨Zy, 2, none⟩ = some (.int .i64 y.r.epoch) ∧ W2.cell? ⟨Zy, 3, none⟩ = some (.slice G5 y.r.rd.length g5) ∧ W2.cell? ⟨Zy, 4, none⟩ = some (.slice G6 y.r.wr.length g6) ∧ W2.cell? ⟨Zy, 5, none⟩ = some (.int .u64 y.ver) ∧ W2.cell? ⟨Zy, 6, none⟩ = some (.slice G7 y.vf.length g7) ∧ W2.cell? ⟨Zy, 7, none⟩ = some (.slice G8 y.bl.length g8) ∧ W2.cell? ⟨Zy, 8, none⟩ = some (.string y.sig))) := Lib.hid (fun W2 hb => row9 ((Keep.of_below hb : Keep (fun _ => False) wj W2).at hj fun e => e))
      have hky := fun W (hb : Below wj.heap.size wj W) => check_calls W y _ _ _ _ PA annaB notesB (HYj.out.below hb) (HT.out.below (Bj.out.trans (hb.mono Bj.out.size))) HYW.out (by have := HPZ.out; omega)
      simp only [HCC.out] at hky
      dsimp only [agM] at hky
      have HKY := Lib.hid hky
      clear hbij hj kj sj hZy hky
      go_wp2_with fail
      refine wp_region_G (fun W2 => W2.cell? ⟨Zy, 0, none⟩ = some (.string y.r.owner) ∧ W2.cell? ⟨Zy, 1, none⟩ = some (.string y.r.file) ∧ W2.cell? ⟨Zy, 2, none⟩ = some (.int .i64 y.r.epoch) ∧ W2.cell? ⟨Zy, 3, none⟩ = some (.slice G5 y.r.rd.length g5) ∧ W2.cell? ⟨Zy, 4, none⟩ = some (.slice G6 y.r.wr.length g6) ∧ W2.cell? ⟨Zy, 5, none⟩ = some (.int .u64 y.ver) ∧ W2.cell? ⟨Zy, 6, none⟩ = some (.slice G7 y.vf.length g7) ∧ W2.cell? ⟨Zy, 7, none⟩ = some (.slice G8 y.bl.length g8) ∧ W2.cell? ⟨Zy, 8, none⟩ = some (.string y.sig)) [8] (by kernel_rfl) ?_
      have hb0 : Below wj.heap.size wj wj.drew := (Below.refl wj.heap.size wj).drew
      have hS := HSS3.out _ hb0
      refine wpAnyG_pure (i := 0) (v := ?vn2a0) at0 (by kernel_rfl) (fun _ _ _ h => h) (Or.inl ⟨by rfl, ?hn2a0⟩) (Or.inr (by assumption)) ?rn2a0
      case hn2a0 => (intro w hSw; (try dsimp only at hSw); go_simp; try with_reducible rfl)
      case' rn2a0 => skip
      try simp only [Act.put, List.setIfInBounds_toArray, List.set_cons_zero, List.set_cons_succ]
      refine wpAnyG_pure (i := 1) (v := ?vn2a1) at1 (by kernel_rfl) (fun _ _ _ h => h) (Or.inl ⟨by rfl, ?hn2a1⟩) (Or.inr (by assumption)) ?rn2a1
      case hn2a1 => (intro w hSw; (try dsimp only at hSw); go_simp; try with_reducible rfl)
      case' rn2a1 => skip
      try simp only [Act.put, List.setIfInBounds_toArray, List.set_cons_zero, List.set_cons_succ]
      refine wpAnyG_pure (i := 2) (v := ?vn2a2) at2 (by kernel_rfl) (fun _ _ _ h => h) (Or.inl ⟨by rfl, ?hn2a2⟩) (Or.inr (by assumption)) ?rn2a2
      case hn2a2 => (intro w hSw; (try dsimp only at hSw); go_simp; try with_reducible rfl)
      case' rn2a2 => skip
      try simp only [Act.put, List.setIfInBounds_toArray, List.set_cons_zero, List.set_cons_succ]
      refine wpAnyG_take (ws := [3,5,6,7]) (i := 3) (v := ?vn2a3) at3 (by kernel_rfl) (fun _ _ _ h => h) (Or.inl ⟨by rfl, ?hn2a3⟩) (by assumption) ?rn2a3
      case hn2a3 => (intro w hSw; (try dsimp only at hSw); go_simp; try with_reducible rfl)
      case' rn2a3 => skip
      try simp only [Act.put, List.setIfInBounds_toArray, List.set_cons_zero, List.set_cons_succ]
      refine wpAnyG_one 4 at4 (by kernel_rfl) (fun Kn hK => ?_)
      go_simp
      refine (HPUA.out _).mono ?_
      rintro e z1 ⟨rfl, hq⟩
      have hb1 := hb0.trans (hq.mono hb0.size)
      clear hS
      have hS := HSS3.out _ hb1
      refine hK.out _ _ (Or.inr hS) ?_
      clear hK Kn hq
      try simp only [Act.put, List.setIfInBounds_toArray, List.set_cons_zero, List.set_cons_succ]
      refine wpAnyG_one 5 at5 (by kernel_rfl) (fun Kn hK => ?_)
      go_simp
      refine (HKY.out _ hb1).mono ?_
      rintro e z2 ⟨rfl, hq⟩
      have hb2 := hb1.trans (hq.mono hb1.size)
      clear hS
      have hS := HSS3.out _ hb2
      refine hK.out _ _ (Or.inr hS) ?_
      clear hK Kn hq
      try simp only [Act.put, List.setIfInBounds_toArray, List.set_cons_zero, List.set_cons_succ]
      refine wpAnyG_pure (i := 6) (v := ?vn2b6) at6 (by kernel_rfl) (fun _ _ _ h => h) (Or.inl ⟨by rfl, ?hn2b6⟩) (Or.inr (by assumption)) ?rn2b6
      case hn2b6 => (intro w hSw; (try dsimp only at hSw); go_simp; try with_reducible rfl)
      case' rn2b6 => skip
      try simp only [Act.put, List.setIfInBounds_toArray, List.set_cons_zero, List.set_cons_succ]
      refine wpAnyG_pure (i := 7) (v := ?vn2b7) at7 (by kernel_rfl) (fun _ _ _ h => h) (Or.inl ⟨by rfl, ?hn2b7⟩) (Or.inr (by assumption)) ?rn2b7
      case hn2b7 => (intro w hSw; (try dsimp only at hSw); go_simp; try with_reducible rfl)
      case' rn2b7 => skip
      try simp only [Act.put, List.setIfInBounds_toArray, List.set_cons_zero, List.set_cons_succ]
      refine wpAnyG_one 8 at8 (by kernel_rfl) (fun Kn hK => ?_)
      go_simp
      refine hK.out _ _ (Or.inl (by kernel_rfl)) ?_
      have HF := Lib.hid (Bj.out.trans (hb2.mono Bj.out.size))
      clear hK Kn hS hb0 hb1 hb2 hcn
      refine wpAnyG_done (by kernel_rfl) ?_
      try simp only [Act.put, List.setIfInBounds_toArray, List.set_cons_zero, List.set_cons_succ]
      go_wp2_with fail
      go_ret
      exact ⟨rfl, HF.out⟩
end Go.Proofs.YtckblcfkajpofaaGreatDoor
