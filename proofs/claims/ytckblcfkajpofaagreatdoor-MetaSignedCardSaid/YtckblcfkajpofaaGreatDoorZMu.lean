/- law 8: shown. (Printed by tools/gmu.py.) -/
import Derived.Test.YtckblcfkajpofaaGreatDoorZMr
import Derived.Test.YtckblcfkajpofaaGreatDoorZMt
import Derived.Test.YtckblcfkajpofaaGreatDoorZC2
namespace Go.Proofs.YtckblcfkajpofaaGreatDoor
open Go.RowKit Go.Sort
set_option linter.unusedVariables false
set_option linter.unusedSimpArgs false

theorem takeM_nil : takeM [] = none := by
  cases h : takeM [] with
  | none => rfl
  | some m =>
    have h2 := (takeM_some h).2.1
    unfold putM wall wput at h2
    simp at h2
theorem TurnOk.bld2 {r : Rt} (h : TurnOk r) {root : Nat} (hroot : root < 5) {kn : Knowns} (hk : ∀ u ∈ others r, pubOf kn u = .ok (pkOf u)) : Bld (secOf annaB) r (rootN root) (signL (r.epoch + 1).toNat) kn pkOf := by
  have hb := h.bld hroot kn8_pub
  exact ⟨hb.secret, hb.root, hb.right, hb.len, hb.sgs, fun u hu => ⟨hk u hu, (hb.pub u hu).2⟩, hb.owner, hb.file, hb.names⟩
theorem MOwn.store {w w' : World} {B z : Nat} {m : Mt} {vr vw vv vb : Value} {cur : Array Value} (h : MOwn w B m vr vw vv vb) (hz : w.heap[z]? = some (.cells cur 42 (0, 0))) (k : Keep (fun i => i = z) w w') : MOwn w' B m vr vw vv vb :=
  ⟨k.own h.rd fun g hg => own_ne_type h.rd hz (by decide) hg, k.own h.wr fun g hg => own_ne_type h.wr hz (by decide) hg, k.own h.vf fun g hg => own_ne_type h.vf hz (by decide) hg, k.own h.bl fun g hg => own_ne_type h.bl hz (by decide) hg⟩
theorem below_self {B : Nat} {w x : World} (_ : Below B w x) : Below x.heap.size x x.drew := (Below.refl _ x).drew
/-- a meta that was built, in a block of its own -/
def MtIn (w0 w : World) (z : Nat) (m : Mt) : Prop := ∃ B vr vw vv vb, w.heap[z]? = some (.cells (mtCells m vr vw vv vb) 42 (0, 0)) ∧ MOwn w B m vr vw vv vb ∧ Below w0.heap.size w0 w
set_option maxRecDepth 100000 in
set_option maxHeartbeats 8000000 in
theorem shown8_calls (w : World) (hT : Tabs w) : Calls Tryz.prog 43 #[] w fun e w' => e = .returned (.bool true) ∧ Below w.heap.size w w' := by
  have HTK := Lib.hid (mtake_calls ⟨#[]⟩ w (by decide) hT)
  have HN7 := Lib.hid new7_calls
  have hbld : Bld (secOf annaB) newR8 (rootN 0) (signL 1) [] pkOf := newR8_ok.bld2 (root := 0) (by omega) (fun u hu => by
    have := others_mem.1 hu
    simp [newR8] at this)
  obtain ⟨BM, hBM⟩ : ∃ B, builtM (secOf annaB) newR8 1 (rootN 0) (signL 1) pkOf = B := ⟨_, rfl⟩
  obtain ⟨hok1, hok2, hok3⟩ := hbld.ok 1 (by decide)
  have hsig := hbld.sig 1
  rw [hBM] at hok1 hok2 hok3 hsig
  have HG := Lib.hid hok2
  have hchk : checkM BM (pkOf annaB) annaB notesB = 0 := by
    rw [checkM_ok hok2 (by omega) hbld.secret hsig (pkOf annaB) (by unfold pkOf; exact toL_mkB _) annaB notesB]
    rw [if_neg]
    rw [← hBM]
    rintro (h | h) <;> exact h rfl
  have HCHK := Lib.hid hchk
  have HBLD := Lib.hid hbld
  have HT := Lib.hid hT
  have hver : BM.ver = 1 := by rw [← hBM]; rfl
  have HVER := Lib.hid hver
  have hBMh := Lib.hid hBM
  clear hT hbld hok1 hok2 hok3 hsig hchk hver hBM
  go_enter Tryz.func43, Tryz.ntmps43
  go_wp2_with fail
  refine HTK.out.mono ?_
  rintro e w1 ⟨h1, hb1⟩
  rw [show toL (⟨#[]⟩ : ByteArray) = [] from rfl, takeM_nil] at h1
  dsimp only at h1
  subst h1
  have HB1 := Lib.hid hb1
  clear hb1
  go_wp2_with (with_reducible refine wp_stop_store (o := ⟨none, .store _ (.tmp 1) _, _, _, _, _⟩) _ _ _ rfl ?_)
  unfold Stop
  refine wp_store_all rfl _ _ _ rfl rfl rfl _ _ ((get_alloc _ _ _).trans (if_pos rfl)) info_mt rfl (by simp [Value.oneCell']) ?_
  intro w2 h2 k2 s2
  have HB2 := Lib.hid (HB1.out.trans ((below_at ((Below.refl w1.heap.size w1).alloc (Nat.le_refl _) _) k2 (Nat.le_refl _)).mono HB1.out.size))
  clear h2 k2 s2
  go_wp2_with fail
  refine (HN7.out _).mono ?_
  rintro e w3 ⟨⟨vr3, vw3, rfl, hl3, _⟩, hb3⟩
  obtain ⟨A3, ca3, rfl, _, _⟩ := hl3.rd.form
  obtain ⟨C3, cb3, rfl, _, _⟩ := hl3.wr.form
  have HBx := Lib.hid (HB2.out.trans (hb3.mono HB2.out.size))
  have HL3 := Lib.hid hl3
  clear hb3 hl3
  dsimp only [agR]
  go_wp2_with (with_reducible refine wp_stop_store (o := ⟨none, .store _ (.tmp 3) _, _, _, _, _⟩) _ _ _ rfl ?_)
  unfold Stop
  refine wp_store_all rfl _ _ _ rfl rfl rfl _ _ ((get_alloc _ _ _).trans (if_pos rfl)) info_rt rfl (by simp [Value.oneCell']) ?_
  intro w4 h4 k4 s4
  obtain ⟨Z, hZ⟩ : ∃ Z, w3.heap.size = Z := ⟨_, rfl⟩
  have hb34 : Below w3.heap.size w3 w4 := below_at ((Below.refl w3.heap.size w3).alloc (Nat.le_refl _) _) k4 (Nat.le_refl _)
  have HB3 := Lib.hid (HBx.out.trans (hb34.mono HBx.out.size))
  have HL4 := Lib.hid (HL3.out.below hb34)
  rw [hZ] at h4 ⊢
  have HZ4 := Lib.hid h4
  have HC1 := Lib.hid (fun (W : World) (_ : Below w4.heap.size w4 W) => secretOf8_calls annaB W (by decide))
  have HC2 := Lib.hid (fun (W : World) (_ : Below w4.heap.size w4 W) => rootOf8_calls 0 W (by decide) (by decide))
  have HC3 := Lib.hid (fun (W : World) (_ : Below w4.heap.size w4 W) => signersOf8_calls 1 W (by decide))
  have hC4 := fun (W : World) (hb : Below w4.heap.size w4 W) {vs : Value} (hs : strs W vs (signL 1)) => build_calls W (secOf annaB) (rootN 0) newR8 _ _ vs (.slice none 0 0) 1 (signL 1) [] pkOf (HL4.out.below hb) hs ⟨none, 0, rfl, Nat.le_refl _, by simp, fun h => absurd h (Nat.lt_irrefl 0)⟩ HBLD.out (by decide) (HT.out.below (HB3.out.trans (hb.mono HB3.out.size))) (fun x hx => by cases hx)
  simp only [hBMh.out] at hC4
  have HC4 := Lib.hid hC4
  clear hC4 hb34 h4 k4 s4 hZ
  go_upto_region 3 with fail
  go_cut [5, 6] from 16 to 22 (fun q er wx => ∃ Zm, q = .pointer (some ⟨Zm, 0, none⟩) ∧ er = .int .i64 0 ∧ Hid (MtIn w wx Zm BM))
  case first =>
    refine wp_region_G (fun W2 => W2.cell? ⟨Z, 0, none⟩ = some (.string newR8.owner) ∧ W2.cell? ⟨Z, 1, none⟩ = some (.string newR8.file) ∧ W2.cell? ⟨Z, 2, none⟩ = some (.int .i64 newR8.epoch) ∧ W2.cell? ⟨Z, 3, none⟩ = some (.slice A3 newR8.rd.length ca3) ∧ W2.cell? ⟨Z, 4, none⟩ = some (.slice C3 newR8.wr.length cb3)) [9] (by kernel_rfl) ?_
    have HSS : Hid (∀ W2, Below w4.heap.size w4 W2 → (W2.cell? ⟨Z, 0, none⟩ = some (.string newR8.owner) ∧ W2.cell? ⟨Z, 1, none⟩ = some (.string newR8.file) ∧ W2.cell? ⟨Z, 2, none⟩ = some (.int .i64 newR8.epoch) ∧ W2.cell? ⟨Z, 3, none⟩ = some (.slice A3 newR8.rd.length ca3) ∧ W2.cell? ⟨Z, 4, none⟩ = some (.slice C3 newR8.wr.length cb3))) := Lib.hid (fun W2 hb => row5 ((Keep.of_below hb : Keep (fun _ => False) w4 W2).at HZ4.out fun e => e))
    have hb0 : Below w4.heap.size w4 w4.drew := (Below.refl w4.heap.size w4).drew
    obtain ⟨wd, hwd⟩ : ∃ x, w4.drew = x := ⟨_, rfl⟩
    rw [hwd] at hb0 ⊢
    have hS := HSS.out _ hb0
    refine wpAnyG_take (ws := [1]) (i := 1) (v := ?vs3a1) at1 (by kernel_rfl) (fun _ _ _ h => h) (Or.inl ⟨by rfl, ?hs3a1⟩) (by assumption) ?rs3a1
    case hs3a1 => (intro w hSw; (try dsimp only at hSw); go_simp; try with_reducible rfl)
    case' rs3a1 => skip
    try simp only [Act.put, List.setIfInBounds_toArray, List.set_cons_zero, List.set_cons_succ]
    refine wpAnyG_two 0 8 at0 at8 (by kernel_rfl) (fun Kn hK => ?_) (fun Kn hK => ?_)
    · skip
      go_simp
      refine (HC1.out wd hb0).mono ?_
      rintro e x1 ⟨rfl, hq1⟩
      have hb1 := hb0.trans (hq1.mono hb0.size)
      clear hS
      have hS := HSS.out _ hb1
      refine hK.out _ _ (Or.inr hS) ?_
      clear hK Kn
      try simp only [Act.put, List.setIfInBounds_toArray, List.set_cons_zero, List.set_cons_succ]
      refine wpAnyG_two 2 8 at2 at8 (by kernel_rfl) (fun Kn hK => ?_) (fun Kn hK => ?_)
      · skip
        go_simp
        refine (HC2.out x1 hb1).mono ?_
        rintro e x2 ⟨rfl, hq2⟩
        have hb2 := hb1.trans (hq2.mono hb1.size)
        clear hS
        have hS := HSS.out _ hb2
        refine hK.out _ _ (Or.inr hS) ?_
        clear hK Kn
        try simp only [Act.put, List.setIfInBounds_toArray, List.set_cons_zero, List.set_cons_succ]
        refine wpAnyG_two 3 8 at3 at8 (by kernel_rfl) (fun Kn hK => ?_) (fun Kn hK => ?_)
        · skip
          go_simp
          refine (HC3.out x2 hb2).mono ?_
          rintro e x3 ⟨vs, rfl, hos, hq3⟩
          have hb3 := hb2.trans (hq3.mono hb2.size)
          obtain ⟨As, cs, rfl, _, _⟩ := own_slice hos
          have HOS := Lib.hid (strs_own hos)
          clear hos
          clear hS
          have hS := HSS.out _ hb3
          refine hK.out _ _ (Or.inr hS) ?_
          clear hK Kn
          try simp only [Act.put, List.setIfInBounds_toArray, List.set_cons_zero, List.set_cons_succ]
          refine wpAnyG_two 4 8 at4 at8 (by kernel_rfl) (fun Kn hK => ?_) (fun Kn hK => ?_)
          · skip
            go_simp
            refine (HC4.out x3 hb3 HOS.out).mono ?_
            rintro e x4 ⟨⟨vr, vw, vv, vb, rfl, hmo⟩, hq4⟩
            have hb4 := hb3.trans (hq4.mono hb3.size)
            have HOS := Lib.hid (HOS.out.below hq4)
            obtain ⟨Am, cm1, rfl, _, _⟩ := own_slice hmo.rd
            obtain ⟨Bm, cm2, rfl, _, _⟩ := own_slice hmo.wr
            obtain ⟨Cm, cm3, rfl, _, _⟩ := own_slice hmo.vf
            obtain ⟨Dm, cm4, rfl, _, _⟩ := own_slice hmo.bl
            have HMB := Lib.hid hmo
            clear hmo
            clear hS
            have hS := HSS.out _ hb4
            refine hK.out _ _ (Or.inr hS) ?_
            clear hK Kn
            try simp only [Act.put, List.setIfInBounds_toArray, List.set_cons_zero, List.set_cons_succ]
            refine wpAnyG_pure (i := 5) (v := ?vs3r55) at5 (by kernel_rfl) (fun _ _ _ h => h) (Or.inl ⟨by rfl, ?hs3r55⟩) (Or.inr (by assumption)) ?rs3r55
            case hs3r55 => (intro w hSw; (try dsimp only at hSw); go_simp; try with_reducible rfl)
            case' rs3r55 => skip
            try simp only [Act.put, List.setIfInBounds_toArray, List.set_cons_zero, List.set_cons_succ]
            refine wpAnyG_pure (i := 6) (v := ?vs3r56) at6 (by kernel_rfl) (fun _ _ _ h => h) (Or.inl ⟨by rfl, ?hs3r56⟩) (Or.inr (by assumption)) ?rs3r56
            case hs3r56 => (intro w hSw; (try dsimp only at hSw); go_simp; try with_reducible rfl)
            case' rs3r56 => skip
            try simp only [Act.put, List.setIfInBounds_toArray, List.set_cons_zero, List.set_cons_succ]
            refine wpAnyG_pure (i := 7) (v := ?vs3r57) at7 (by kernel_rfl) (fun _ _ _ h => h) (Or.inl ⟨by rfl, ?hs3r57⟩) (Or.inr (by assumption)) ?rs3r57
            case hs3r57 => (intro w hSw; (try dsimp only at hSw); go_simp; try with_reducible rfl)
            case' rs3r57 => skip
            try simp only [Act.put, List.setIfInBounds_toArray, List.set_cons_zero, List.set_cons_succ]
            refine wpAnyG_one 8 at8 (by kernel_rfl) (fun Kn hK => ?_)
            go_simp
            obtain ⟨z6, hzz6⟩ : ∃ z, x4.heap.size = z := ⟨_, rfl⟩
            obtain ⟨x6, hx6⟩ : ∃ x, x4.alloc (.cells #[.string ⟨#[]⟩, .string ⟨#[]⟩, .int .i64 0, .slice none 0 0, .slice none 0 0, .int .u64 0, .slice none 0 0, .slice none 0 0, .string ⟨#[]⟩] 42) = x := ⟨_, rfl⟩
            have hz6 : x6.heap[z6]? = some (.cells #[.string ⟨#[]⟩, .string ⟨#[]⟩, .int .i64 0, .slice none 0 0, .slice none 0 0, .int .u64 0, .slice none 0 0, .slice none 0 0, .string ⟨#[]⟩] 42 (0, 0)) := by rw [← hx6, ← hzz6, get_alloc, if_pos rfl]
            have hq6 : Below x4.heap.size x4 x6 := by rw [← hx6]; exact (Below.refl _ x4).alloc (Nat.le_refl _) _
            have HZL : Hid (w.heap.size ≤ z6) := Lib.hid (by have h1 := HB3.out.size; have h2 := hb4.size; omega)
            rw [hx6, hzz6]
            have hb6 := hb4.trans (hq6.mono hb4.size)
            have HOS := Lib.hid (HOS.out.below hq6)
            have HMB := Lib.hid (HMB.out.below hq6)
            clear hS
            have hS := HSS.out _ hb6
            refine hK.out _ _ (Or.inr hS) ?_
            clear hK Kn
            try simp only [Act.put, List.setIfInBounds_toArray, List.set_cons_zero, List.set_cons_succ]
            refine wpAnyG_one 9 at9 (by kernel_rfl) (fun Kn hK => ?_)
            refine step_store_all rfl _ _ _ rfl rfl rfl _ _ hz6 info_mt rfl (by simp [Value.oneCell']) ?_
            intro y9 h9 k9 s9
            refine hK.out _ _ (Or.inl (by kernel_rfl)) ?_
            have HLEAF : Hid (MtIn w y9 z6 BM) := Lib.hid ⟨_, _, _, _, _, h9, HMB.out.store hz6 k9, below_at (HB3.out.trans (hb6.mono HB3.out.size)) k9 HZL.out⟩
            clear hK Kn h9 k9 s9 hS
            try simp only [Act.put, List.setIfInBounds_toArray, List.set_cons_zero, List.set_cons_succ]
            refine wpAnyG_one 10 at10 (by kernel_rfl) (fun Kn hK => ?_)
            go_simp
            refine hK.out _ _ (Or.inl (by kernel_rfl)) ?_
            clear hK Kn
            refine wpAnyG_done (by kernel_rfl) ?_
            try simp only [Act.put, List.setIfInBounds_toArray, List.set_cons_zero, List.set_cons_succ]
            go_wp2_with fail
            go_meet
            exact ⟨_, rfl, rfl, HLEAF⟩
          · skip
            go_simp
            obtain ⟨z7, hzz7⟩ : ∃ z, x3.heap.size = z := ⟨_, rfl⟩
            obtain ⟨x7, hx7⟩ : ∃ x, x3.alloc (.cells #[.string ⟨#[]⟩, .string ⟨#[]⟩, .int .i64 0, .slice none 0 0, .slice none 0 0, .int .u64 0, .slice none 0 0, .slice none 0 0, .string ⟨#[]⟩] 42) = x := ⟨_, rfl⟩
            have hz7 : x7.heap[z7]? = some (.cells #[.string ⟨#[]⟩, .string ⟨#[]⟩, .int .i64 0, .slice none 0 0, .slice none 0 0, .int .u64 0, .slice none 0 0, .slice none 0 0, .string ⟨#[]⟩] 42 (0, 0)) := by rw [← hx7, ← hzz7, get_alloc, if_pos rfl]
            have hq7 : Below x3.heap.size x3 x7 := by rw [← hx7]; exact (Below.refl _ x3).alloc (Nat.le_refl _) _
            have HZL : Hid (w.heap.size ≤ z7) := Lib.hid (by have h1 := HB3.out.size; have h2 := hb3.size; omega)
            rw [hx7, hzz7]
            have hb7 := hb3.trans (hq7.mono hb3.size)
            have HOS := Lib.hid (HOS.out.below hq7)
            clear hS
            have hS := HSS.out _ hb7
            refine hK.out _ _ (Or.inr hS) ?_
            clear hK Kn
            try simp only [Act.put, List.setIfInBounds_toArray, List.set_cons_zero, List.set_cons_succ]
            refine wpAnyG_one 4 at4 (by kernel_rfl) (fun Kn hK => ?_)
            go_simp
            refine (HC4.out x7 hb7 HOS.out).mono ?_
            rintro e x8 ⟨⟨vr, vw, vv, vb, rfl, hmo⟩, hq8⟩
            have hb8 := hb7.trans (hq8.mono hb7.size)
            have HOS := Lib.hid (HOS.out.below hq8)
            have hz8 := (Keep.of_below hq8 : Keep (fun _ => False) x7 x8).at hz7 fun e => e
            obtain ⟨Am, cm1, rfl, _, _⟩ := own_slice hmo.rd
            obtain ⟨Bm, cm2, rfl, _, _⟩ := own_slice hmo.wr
            obtain ⟨Cm, cm3, rfl, _, _⟩ := own_slice hmo.vf
            obtain ⟨Dm, cm4, rfl, _, _⟩ := own_slice hmo.bl
            have HMB := Lib.hid hmo
            clear hmo
            clear hS
            have hS := HSS.out _ hb8
            refine hK.out _ _ (Or.inr hS) ?_
            clear hK Kn
            try simp only [Act.put, List.setIfInBounds_toArray, List.set_cons_zero, List.set_cons_succ]
            refine wpAnyG_pure (i := 5) (v := ?vs3r95) at5 (by kernel_rfl) (fun _ _ _ h => h) (Or.inl ⟨by rfl, ?hs3r95⟩) (Or.inr (by assumption)) ?rs3r95
            case hs3r95 => (intro w hSw; (try dsimp only at hSw); go_simp; try with_reducible rfl)
            case' rs3r95 => skip
            try simp only [Act.put, List.setIfInBounds_toArray, List.set_cons_zero, List.set_cons_succ]
            refine wpAnyG_pure (i := 6) (v := ?vs3r96) at6 (by kernel_rfl) (fun _ _ _ h => h) (Or.inl ⟨by rfl, ?hs3r96⟩) (Or.inr (by assumption)) ?rs3r96
            case hs3r96 => (intro w hSw; (try dsimp only at hSw); go_simp; try with_reducible rfl)
            case' rs3r96 => skip
            try simp only [Act.put, List.setIfInBounds_toArray, List.set_cons_zero, List.set_cons_succ]
            refine wpAnyG_pure (i := 7) (v := ?vs3r97) at7 (by kernel_rfl) (fun _ _ _ h => h) (Or.inl ⟨by rfl, ?hs3r97⟩) (Or.inr (by assumption)) ?rs3r97
            case hs3r97 => (intro w hSw; (try dsimp only at hSw); go_simp; try with_reducible rfl)
            case' rs3r97 => skip
            try simp only [Act.put, List.setIfInBounds_toArray, List.set_cons_zero, List.set_cons_succ]
            refine wpAnyG_one 9 at9 (by kernel_rfl) (fun Kn hK => ?_)
            refine step_store_all rfl _ _ _ rfl rfl rfl _ _ hz8 info_mt rfl (by simp [Value.oneCell']) ?_
            intro y9 h9 k9 s9
            refine hK.out _ _ (Or.inl (by kernel_rfl)) ?_
            have HLEAF : Hid (MtIn w y9 z7 BM) := Lib.hid ⟨_, _, _, _, _, h9, HMB.out.store hz8 k9, below_at (HB3.out.trans (hb8.mono HB3.out.size)) k9 HZL.out⟩
            clear hK Kn h9 k9 s9 hS
            try simp only [Act.put, List.setIfInBounds_toArray, List.set_cons_zero, List.set_cons_succ]
            refine wpAnyG_one 10 at10 (by kernel_rfl) (fun Kn hK => ?_)
            go_simp
            refine hK.out _ _ (Or.inl (by kernel_rfl)) ?_
            clear hK Kn
            refine wpAnyG_done (by kernel_rfl) ?_
            try simp only [Act.put, List.setIfInBounds_toArray, List.set_cons_zero, List.set_cons_succ]
            go_wp2_with fail
            go_meet
            exact ⟨_, rfl, rfl, HLEAF⟩
        · skip
          go_simp
          obtain ⟨z10, hzz10⟩ : ∃ z, x2.heap.size = z := ⟨_, rfl⟩
          obtain ⟨x10, hx10⟩ : ∃ x, x2.alloc (.cells #[.string ⟨#[]⟩, .string ⟨#[]⟩, .int .i64 0, .slice none 0 0, .slice none 0 0, .int .u64 0, .slice none 0 0, .slice none 0 0, .string ⟨#[]⟩] 42) = x := ⟨_, rfl⟩
          have hz10 : x10.heap[z10]? = some (.cells #[.string ⟨#[]⟩, .string ⟨#[]⟩, .int .i64 0, .slice none 0 0, .slice none 0 0, .int .u64 0, .slice none 0 0, .slice none 0 0, .string ⟨#[]⟩] 42 (0, 0)) := by rw [← hx10, ← hzz10, get_alloc, if_pos rfl]
          have hq10 : Below x2.heap.size x2 x10 := by rw [← hx10]; exact (Below.refl _ x2).alloc (Nat.le_refl _) _
          have HZL : Hid (w.heap.size ≤ z10) := Lib.hid (by have h1 := HB3.out.size; have h2 := hb2.size; omega)
          rw [hx10, hzz10]
          have hb10 := hb2.trans (hq10.mono hb2.size)
          clear hS
          have hS := HSS.out _ hb10
          refine hK.out _ _ (Or.inr hS) ?_
          clear hK Kn
          try simp only [Act.put, List.setIfInBounds_toArray, List.set_cons_zero, List.set_cons_succ]
          refine wpAnyG_one 3 at3 (by kernel_rfl) (fun Kn hK => ?_)
          go_simp
          refine (HC3.out x10 hb10).mono ?_
          rintro e x11 ⟨vs, rfl, hos, hq11⟩
          have hb11 := hb10.trans (hq11.mono hb10.size)
          have hz11 := (Keep.of_below hq11 : Keep (fun _ => False) x10 x11).at hz10 fun e => e
          obtain ⟨As, cs, rfl, _, _⟩ := own_slice hos
          have HOS := Lib.hid (strs_own hos)
          clear hos
          clear hS
          have hS := HSS.out _ hb11
          refine hK.out _ _ (Or.inr hS) ?_
          clear hK Kn
          try simp only [Act.put, List.setIfInBounds_toArray, List.set_cons_zero, List.set_cons_succ]
          refine wpAnyG_one 4 at4 (by kernel_rfl) (fun Kn hK => ?_)
          go_simp
          refine (HC4.out x11 hb11 HOS.out).mono ?_
          rintro e x12 ⟨⟨vr, vw, vv, vb, rfl, hmo⟩, hq12⟩
          have hb12 := hb11.trans (hq12.mono hb11.size)
          have HOS := Lib.hid (HOS.out.below hq12)
          have hz12 := (Keep.of_below hq12 : Keep (fun _ => False) x11 x12).at hz11 fun e => e
          obtain ⟨Am, cm1, rfl, _, _⟩ := own_slice hmo.rd
          obtain ⟨Bm, cm2, rfl, _, _⟩ := own_slice hmo.wr
          obtain ⟨Cm, cm3, rfl, _, _⟩ := own_slice hmo.vf
          obtain ⟨Dm, cm4, rfl, _, _⟩ := own_slice hmo.bl
          have HMB := Lib.hid hmo
          clear hmo
          clear hS
          have hS := HSS.out _ hb12
          refine hK.out _ _ (Or.inr hS) ?_
          clear hK Kn
          try simp only [Act.put, List.setIfInBounds_toArray, List.set_cons_zero, List.set_cons_succ]
          refine wpAnyG_pure (i := 5) (v := ?vs3r135) at5 (by kernel_rfl) (fun _ _ _ h => h) (Or.inl ⟨by rfl, ?hs3r135⟩) (Or.inr (by assumption)) ?rs3r135
          case hs3r135 => (intro w hSw; (try dsimp only at hSw); go_simp; try with_reducible rfl)
          case' rs3r135 => skip
          try simp only [Act.put, List.setIfInBounds_toArray, List.set_cons_zero, List.set_cons_succ]
          refine wpAnyG_pure (i := 6) (v := ?vs3r136) at6 (by kernel_rfl) (fun _ _ _ h => h) (Or.inl ⟨by rfl, ?hs3r136⟩) (Or.inr (by assumption)) ?rs3r136
          case hs3r136 => (intro w hSw; (try dsimp only at hSw); go_simp; try with_reducible rfl)
          case' rs3r136 => skip
          try simp only [Act.put, List.setIfInBounds_toArray, List.set_cons_zero, List.set_cons_succ]
          refine wpAnyG_pure (i := 7) (v := ?vs3r137) at7 (by kernel_rfl) (fun _ _ _ h => h) (Or.inl ⟨by rfl, ?hs3r137⟩) (Or.inr (by assumption)) ?rs3r137
          case hs3r137 => (intro w hSw; (try dsimp only at hSw); go_simp; try with_reducible rfl)
          case' rs3r137 => skip
          try simp only [Act.put, List.setIfInBounds_toArray, List.set_cons_zero, List.set_cons_succ]
          refine wpAnyG_one 9 at9 (by kernel_rfl) (fun Kn hK => ?_)
          refine step_store_all rfl _ _ _ rfl rfl rfl _ _ hz12 info_mt rfl (by simp [Value.oneCell']) ?_
          intro y9 h9 k9 s9
          refine hK.out _ _ (Or.inl (by kernel_rfl)) ?_
          have HLEAF : Hid (MtIn w y9 z10 BM) := Lib.hid ⟨_, _, _, _, _, h9, HMB.out.store hz12 k9, below_at (HB3.out.trans (hb12.mono HB3.out.size)) k9 HZL.out⟩
          clear hK Kn h9 k9 s9 hS
          try simp only [Act.put, List.setIfInBounds_toArray, List.set_cons_zero, List.set_cons_succ]
          refine wpAnyG_one 10 at10 (by kernel_rfl) (fun Kn hK => ?_)
          go_simp
          refine hK.out _ _ (Or.inl (by kernel_rfl)) ?_
          clear hK Kn
          refine wpAnyG_done (by kernel_rfl) ?_
          try simp only [Act.put, List.setIfInBounds_toArray, List.set_cons_zero, List.set_cons_succ]
          go_wp2_with fail
          go_meet
          exact ⟨_, rfl, rfl, HLEAF⟩
      · skip
        go_simp
        obtain ⟨z14, hzz14⟩ : ∃ z, x1.heap.size = z := ⟨_, rfl⟩
        obtain ⟨x14, hx14⟩ : ∃ x, x1.alloc (.cells #[.string ⟨#[]⟩, .string ⟨#[]⟩, .int .i64 0, .slice none 0 0, .slice none 0 0, .int .u64 0, .slice none 0 0, .slice none 0 0, .string ⟨#[]⟩] 42) = x := ⟨_, rfl⟩
        have hz14 : x14.heap[z14]? = some (.cells #[.string ⟨#[]⟩, .string ⟨#[]⟩, .int .i64 0, .slice none 0 0, .slice none 0 0, .int .u64 0, .slice none 0 0, .slice none 0 0, .string ⟨#[]⟩] 42 (0, 0)) := by rw [← hx14, ← hzz14, get_alloc, if_pos rfl]
        have hq14 : Below x1.heap.size x1 x14 := by rw [← hx14]; exact (Below.refl _ x1).alloc (Nat.le_refl _) _
        have HZL : Hid (w.heap.size ≤ z14) := Lib.hid (by have h1 := HB3.out.size; have h2 := hb1.size; omega)
        rw [hx14, hzz14]
        have hb14 := hb1.trans (hq14.mono hb1.size)
        clear hS
        have hS := HSS.out _ hb14
        refine hK.out _ _ (Or.inr hS) ?_
        clear hK Kn
        try simp only [Act.put, List.setIfInBounds_toArray, List.set_cons_zero, List.set_cons_succ]
        refine wpAnyG_one 2 at2 (by kernel_rfl) (fun Kn hK => ?_)
        go_simp
        refine (HC2.out x14 hb14).mono ?_
        rintro e x15 ⟨rfl, hq15⟩
        have hb15 := hb14.trans (hq15.mono hb14.size)
        have hz15 := (Keep.of_below hq15 : Keep (fun _ => False) x14 x15).at hz14 fun e => e
        clear hS
        have hS := HSS.out _ hb15
        refine hK.out _ _ (Or.inr hS) ?_
        clear hK Kn
        try simp only [Act.put, List.setIfInBounds_toArray, List.set_cons_zero, List.set_cons_succ]
        refine wpAnyG_one 3 at3 (by kernel_rfl) (fun Kn hK => ?_)
        go_simp
        refine (HC3.out x15 hb15).mono ?_
        rintro e x16 ⟨vs, rfl, hos, hq16⟩
        have hb16 := hb15.trans (hq16.mono hb15.size)
        have hz16 := (Keep.of_below hq16 : Keep (fun _ => False) x15 x16).at hz15 fun e => e
        obtain ⟨As, cs, rfl, _, _⟩ := own_slice hos
        have HOS := Lib.hid (strs_own hos)
        clear hos
        clear hS
        have hS := HSS.out _ hb16
        refine hK.out _ _ (Or.inr hS) ?_
        clear hK Kn
        try simp only [Act.put, List.setIfInBounds_toArray, List.set_cons_zero, List.set_cons_succ]
        refine wpAnyG_one 4 at4 (by kernel_rfl) (fun Kn hK => ?_)
        go_simp
        refine (HC4.out x16 hb16 HOS.out).mono ?_
        rintro e x17 ⟨⟨vr, vw, vv, vb, rfl, hmo⟩, hq17⟩
        have hb17 := hb16.trans (hq17.mono hb16.size)
        have HOS := Lib.hid (HOS.out.below hq17)
        have hz17 := (Keep.of_below hq17 : Keep (fun _ => False) x16 x17).at hz16 fun e => e
        obtain ⟨Am, cm1, rfl, _, _⟩ := own_slice hmo.rd
        obtain ⟨Bm, cm2, rfl, _, _⟩ := own_slice hmo.wr
        obtain ⟨Cm, cm3, rfl, _, _⟩ := own_slice hmo.vf
        obtain ⟨Dm, cm4, rfl, _, _⟩ := own_slice hmo.bl
        have HMB := Lib.hid hmo
        clear hmo
        clear hS
        have hS := HSS.out _ hb17
        refine hK.out _ _ (Or.inr hS) ?_
        clear hK Kn
        try simp only [Act.put, List.setIfInBounds_toArray, List.set_cons_zero, List.set_cons_succ]
        refine wpAnyG_pure (i := 5) (v := ?vs3r185) at5 (by kernel_rfl) (fun _ _ _ h => h) (Or.inl ⟨by rfl, ?hs3r185⟩) (Or.inr (by assumption)) ?rs3r185
        case hs3r185 => (intro w hSw; (try dsimp only at hSw); go_simp; try with_reducible rfl)
        case' rs3r185 => skip
        try simp only [Act.put, List.setIfInBounds_toArray, List.set_cons_zero, List.set_cons_succ]
        refine wpAnyG_pure (i := 6) (v := ?vs3r186) at6 (by kernel_rfl) (fun _ _ _ h => h) (Or.inl ⟨by rfl, ?hs3r186⟩) (Or.inr (by assumption)) ?rs3r186
        case hs3r186 => (intro w hSw; (try dsimp only at hSw); go_simp; try with_reducible rfl)
        case' rs3r186 => skip
        try simp only [Act.put, List.setIfInBounds_toArray, List.set_cons_zero, List.set_cons_succ]
        refine wpAnyG_pure (i := 7) (v := ?vs3r187) at7 (by kernel_rfl) (fun _ _ _ h => h) (Or.inl ⟨by rfl, ?hs3r187⟩) (Or.inr (by assumption)) ?rs3r187
        case hs3r187 => (intro w hSw; (try dsimp only at hSw); go_simp; try with_reducible rfl)
        case' rs3r187 => skip
        try simp only [Act.put, List.setIfInBounds_toArray, List.set_cons_zero, List.set_cons_succ]
        refine wpAnyG_one 9 at9 (by kernel_rfl) (fun Kn hK => ?_)
        refine step_store_all rfl _ _ _ rfl rfl rfl _ _ hz17 info_mt rfl (by simp [Value.oneCell']) ?_
        intro y9 h9 k9 s9
        refine hK.out _ _ (Or.inl (by kernel_rfl)) ?_
        have HLEAF : Hid (MtIn w y9 z14 BM) := Lib.hid ⟨_, _, _, _, _, h9, HMB.out.store hz17 k9, below_at (HB3.out.trans (hb17.mono HB3.out.size)) k9 HZL.out⟩
        clear hK Kn h9 k9 s9 hS
        try simp only [Act.put, List.setIfInBounds_toArray, List.set_cons_zero, List.set_cons_succ]
        refine wpAnyG_one 10 at10 (by kernel_rfl) (fun Kn hK => ?_)
        go_simp
        refine hK.out _ _ (Or.inl (by kernel_rfl)) ?_
        clear hK Kn
        refine wpAnyG_done (by kernel_rfl) ?_
        try simp only [Act.put, List.setIfInBounds_toArray, List.set_cons_zero, List.set_cons_succ]
        go_wp2_with fail
        go_meet
        exact ⟨_, rfl, rfl, HLEAF⟩
    · skip
      go_simp
      obtain ⟨z19, hzz19⟩ : ∃ z, wd.heap.size = z := ⟨_, rfl⟩
      obtain ⟨x19, hx19⟩ : ∃ x, wd.alloc (.cells #[.string ⟨#[]⟩, .string ⟨#[]⟩, .int .i64 0, .slice none 0 0, .slice none 0 0, .int .u64 0, .slice none 0 0, .slice none 0 0, .string ⟨#[]⟩] 42) = x := ⟨_, rfl⟩
      have hz19 : x19.heap[z19]? = some (.cells #[.string ⟨#[]⟩, .string ⟨#[]⟩, .int .i64 0, .slice none 0 0, .slice none 0 0, .int .u64 0, .slice none 0 0, .slice none 0 0, .string ⟨#[]⟩] 42 (0, 0)) := by rw [← hx19, ← hzz19, get_alloc, if_pos rfl]
      have hq19 : Below wd.heap.size wd x19 := by rw [← hx19]; exact (Below.refl _ wd).alloc (Nat.le_refl _) _
      have HZL : Hid (w.heap.size ≤ z19) := Lib.hid (by have h1 := HB3.out.size; have h2 := hb0.size; omega)
      rw [hx19, hzz19]
      have hb19 := hb0.trans (hq19.mono hb0.size)
      clear hS
      have hS := HSS.out _ hb19
      refine hK.out _ _ (Or.inr hS) ?_
      clear hK Kn
      try simp only [Act.put, List.setIfInBounds_toArray, List.set_cons_zero, List.set_cons_succ]
      refine wpAnyG_one 0 at0 (by kernel_rfl) (fun Kn hK => ?_)
      go_simp
      refine (HC1.out x19 hb19).mono ?_
      rintro e x20 ⟨rfl, hq20⟩
      have hb20 := hb19.trans (hq20.mono hb19.size)
      have hz20 := (Keep.of_below hq20 : Keep (fun _ => False) x19 x20).at hz19 fun e => e
      clear hS
      have hS := HSS.out _ hb20
      refine hK.out _ _ (Or.inr hS) ?_
      clear hK Kn
      try simp only [Act.put, List.setIfInBounds_toArray, List.set_cons_zero, List.set_cons_succ]
      refine wpAnyG_one 2 at2 (by kernel_rfl) (fun Kn hK => ?_)
      go_simp
      refine (HC2.out x20 hb20).mono ?_
      rintro e x21 ⟨rfl, hq21⟩
      have hb21 := hb20.trans (hq21.mono hb20.size)
      have hz21 := (Keep.of_below hq21 : Keep (fun _ => False) x20 x21).at hz20 fun e => e
      clear hS
      have hS := HSS.out _ hb21
      refine hK.out _ _ (Or.inr hS) ?_
      clear hK Kn
      try simp only [Act.put, List.setIfInBounds_toArray, List.set_cons_zero, List.set_cons_succ]
      refine wpAnyG_one 3 at3 (by kernel_rfl) (fun Kn hK => ?_)
      go_simp
      refine (HC3.out x21 hb21).mono ?_
      rintro e x22 ⟨vs, rfl, hos, hq22⟩
      have hb22 := hb21.trans (hq22.mono hb21.size)
      have hz22 := (Keep.of_below hq22 : Keep (fun _ => False) x21 x22).at hz21 fun e => e
      obtain ⟨As, cs, rfl, _, _⟩ := own_slice hos
      have HOS := Lib.hid (strs_own hos)
      clear hos
      clear hS
      have hS := HSS.out _ hb22
      refine hK.out _ _ (Or.inr hS) ?_
      clear hK Kn
      try simp only [Act.put, List.setIfInBounds_toArray, List.set_cons_zero, List.set_cons_succ]
      refine wpAnyG_one 4 at4 (by kernel_rfl) (fun Kn hK => ?_)
      go_simp
      refine (HC4.out x22 hb22 HOS.out).mono ?_
      rintro e x23 ⟨⟨vr, vw, vv, vb, rfl, hmo⟩, hq23⟩
      have hb23 := hb22.trans (hq23.mono hb22.size)
      have HOS := Lib.hid (HOS.out.below hq23)
      have hz23 := (Keep.of_below hq23 : Keep (fun _ => False) x22 x23).at hz22 fun e => e
      obtain ⟨Am, cm1, rfl, _, _⟩ := own_slice hmo.rd
      obtain ⟨Bm, cm2, rfl, _, _⟩ := own_slice hmo.wr
      obtain ⟨Cm, cm3, rfl, _, _⟩ := own_slice hmo.vf
      obtain ⟨Dm, cm4, rfl, _, _⟩ := own_slice hmo.bl
      have HMB := Lib.hid hmo
      clear hmo
      clear hS
      have hS := HSS.out _ hb23
      refine hK.out _ _ (Or.inr hS) ?_
      clear hK Kn
      try simp only [Act.put, List.setIfInBounds_toArray, List.set_cons_zero, List.set_cons_succ]
      refine wpAnyG_pure (i := 5) (v := ?vs3r245) at5 (by kernel_rfl) (fun _ _ _ h => h) (Or.inl ⟨by rfl, ?hs3r245⟩) (Or.inr (by assumption)) ?rs3r245
      case hs3r245 => (intro w hSw; (try dsimp only at hSw); go_simp; try with_reducible rfl)
      case' rs3r245 => skip
      try simp only [Act.put, List.setIfInBounds_toArray, List.set_cons_zero, List.set_cons_succ]
      refine wpAnyG_pure (i := 6) (v := ?vs3r246) at6 (by kernel_rfl) (fun _ _ _ h => h) (Or.inl ⟨by rfl, ?hs3r246⟩) (Or.inr (by assumption)) ?rs3r246
      case hs3r246 => (intro w hSw; (try dsimp only at hSw); go_simp; try with_reducible rfl)
      case' rs3r246 => skip
      try simp only [Act.put, List.setIfInBounds_toArray, List.set_cons_zero, List.set_cons_succ]
      refine wpAnyG_pure (i := 7) (v := ?vs3r247) at7 (by kernel_rfl) (fun _ _ _ h => h) (Or.inl ⟨by rfl, ?hs3r247⟩) (Or.inr (by assumption)) ?rs3r247
      case hs3r247 => (intro w hSw; (try dsimp only at hSw); go_simp; try with_reducible rfl)
      case' rs3r247 => skip
      try simp only [Act.put, List.setIfInBounds_toArray, List.set_cons_zero, List.set_cons_succ]
      refine wpAnyG_one 9 at9 (by kernel_rfl) (fun Kn hK => ?_)
      refine step_store_all rfl _ _ _ rfl rfl rfl _ _ hz23 info_mt rfl (by simp [Value.oneCell']) ?_
      intro y9 h9 k9 s9
      refine hK.out _ _ (Or.inl (by kernel_rfl)) ?_
      have HLEAF : Hid (MtIn w y9 z19 BM) := Lib.hid ⟨_, _, _, _, _, h9, HMB.out.store hz23 k9, below_at (HB3.out.trans (hb23.mono HB3.out.size)) k9 HZL.out⟩
      clear hK Kn h9 k9 s9 hS
      try simp only [Act.put, List.setIfInBounds_toArray, List.set_cons_zero, List.set_cons_succ]
      refine wpAnyG_one 10 at10 (by kernel_rfl) (fun Kn hK => ?_)
      go_simp
      refine hK.out _ _ (Or.inl (by kernel_rfl)) ?_
      clear hK Kn
      refine wpAnyG_done (by kernel_rfl) ?_
      try simp only [Act.put, List.setIfInBounds_toArray, List.set_cons_zero, List.set_cons_succ]
      go_wp2_with fail
      go_meet
      exact ⟨_, rfl, rfl, HLEAF⟩
  case rest =>
    obtain ⟨Zm, rfl, rfl, HM⟩ := hcut
    obtain ⟨Bb, vr, vw, vv, vb, hrow, hmo, hbel⟩ := HM.out
    obtain ⟨Am, cm1, rfl, _, _⟩ := own_slice hmo.rd
    obtain ⟨Bm, cm2, rfl, _, _⟩ := own_slice hmo.wr
    obtain ⟨Cm, cm3, rfl, _, _⟩ := own_slice hmo.vf
    obtain ⟨Dm, cm4, rfl, _, _⟩ := own_slice hmo.bl
    have HBE := Lib.hid hbel
    have HMO := Lib.hid hmo
    have HPU := Lib.hid (fun W => publicOf8_calls annaB W (by decide))
    have hck := fun W hb => check_calls W BM _ _ _ _ (pkOf annaB) annaB notesB (hmo.lists.below hb) (HT.out.below (hbel.trans (hb.mono hbel.size))) (HG.out.wf (by rw [HVER.out]; decide)) (by unfold pkOf; rw [mkB_size, List.length_cons]; have := (secOf_is (u := annaB) (by decide)); obtain ⟨_, _, _, h3⟩ := this; omega)
    simp only [HCHK.out] at hck
    dsimp only [agM] at hck
    have HCK := Lib.hid hck
    have hS9 := fun W2 hb => row9 ((Keep.of_below hb : Keep (fun _ => False) _ W2).at hrow fun e => e)
    have HS9 := Lib.hid hS9
    obtain ⟨PA, hPA⟩ : ∃ P, pkOf annaB = P := ⟨_, rfl⟩
    simp only [hPA] at HPU HCK
    clear hrow hmo hbel hck hS9 HM hPA
    go_wp2_with fail
    refine wp_region_G (fun W2 => W2.cell? ⟨Zm, 0, none⟩ = some (.string BM.r.owner) ∧ W2.cell? ⟨Zm, 1, none⟩ = some (.string BM.r.file) ∧ W2.cell? ⟨Zm, 2, none⟩ = some (.int .i64 BM.r.epoch) ∧ W2.cell? ⟨Zm, 3, none⟩ = some (.slice Am BM.r.rd.length cm1) ∧ W2.cell? ⟨Zm, 4, none⟩ = some (.slice Bm BM.r.wr.length cm2) ∧ W2.cell? ⟨Zm, 5, none⟩ = some (.int .u64 BM.ver) ∧ W2.cell? ⟨Zm, 6, none⟩ = some (.slice Cm BM.vf.length cm3) ∧ W2.cell? ⟨Zm, 7, none⟩ = some (.slice Dm BM.bl.length cm4) ∧ W2.cell? ⟨Zm, 8, none⟩ = some (.string BM.sig)) [12] (by kernel_rfl) ?_
    have hb0 := below_self HBE.out
    have hS := HS9.out _ hb0
    refine wpAnyG_pure (i := 0) (v := ?vt40) at0 (by kernel_rfl) (fun _ _ _ h => h) (Or.inl ⟨by rfl, ?ht40⟩) (Or.inr (by assumption)) ?rt40
    case ht40 => (intro w hSw; (try dsimp only at hSw); go_simp; try with_reducible rfl)
    case' rt40 => skip
    try simp only [Act.put, List.setIfInBounds_toArray, List.set_cons_zero, List.set_cons_succ]
    refine wpAnyG_pure (i := 1) (v := ?vt41) at1 (by kernel_rfl) (fun _ _ _ h => h) (Or.inl ⟨by rfl, ?ht41⟩) (Or.inr (by assumption)) ?rt41
    case ht41 => (intro w hSw; (try dsimp only at hSw); go_simp; try with_reducible rfl)
    case' rt41 => skip
    try simp only [Act.put, List.setIfInBounds_toArray, List.set_cons_zero, List.set_cons_succ]
    refine wpAnyG_pure (i := 2) (v := ?vt42) at2 (by kernel_rfl) (fun _ _ _ h => h) (Or.inl ⟨by rfl, ?ht42⟩) (Or.inr (by assumption)) ?rt42
    case ht42 => (intro w hSw; (try dsimp only at hSw); go_simp; try with_reducible rfl)
    case' rt42 => skip
    try simp only [Act.put, List.setIfInBounds_toArray, List.set_cons_zero, List.set_cons_succ]
    refine wpAnyG_pure (i := 3) (v := ?vt43) at3 (by kernel_rfl) (fun _ _ _ h => h) (Or.inl ⟨by rfl, ?ht43⟩) (Or.inr (by assumption)) ?rt43
    case ht43 => (intro w hSw; (try dsimp only at hSw); go_simp; try with_reducible rfl)
    case' rt43 => skip
    try simp only [Act.put, List.setIfInBounds_toArray, List.set_cons_zero, List.set_cons_succ]
    refine wpAnyG_pure (i := 4) (v := ?vt44) at4 (by kernel_rfl) (fun _ _ _ h => h) (Or.inl ⟨by rfl, ?ht44⟩) (Or.inr (by assumption)) ?rt44
    case ht44 => (intro w hSw; (try dsimp only at hSw); go_simp; try with_reducible rfl)
    case' rt44 => skip
    try simp only [Act.put, List.setIfInBounds_toArray, List.set_cons_zero, List.set_cons_succ]
    refine wpAnyG_pure (i := 5) (v := ?vt45) at5 (by kernel_rfl) (fun _ _ _ h => h) (Or.inl ⟨by rfl, ?ht45⟩) (Or.inr (by assumption)) ?rt45
    case ht45 => (intro w hSw; (try dsimp only at hSw); go_simp; try with_reducible rfl)
    case' rt45 => skip
    try simp only [Act.put, List.setIfInBounds_toArray, List.set_cons_zero, List.set_cons_succ]
    refine wpAnyG_pure (i := 6) (v := ?vt46) at6 (by kernel_rfl) (fun _ _ _ h => h) (Or.inl ⟨by rfl, ?ht46⟩) (Or.inr (by assumption)) ?rt46
    case ht46 => (intro w hSw; (try dsimp only at hSw); go_simp; try with_reducible rfl)
    case' rt46 => skip
    try simp only [Act.put, List.setIfInBounds_toArray, List.set_cons_zero, List.set_cons_succ]
    refine wpAnyG_take (ws := [7,8,9,10,11]) (i := 7) (v := ?vt47) at7 (by kernel_rfl) (fun _ _ _ h => h) (Or.inl ⟨by rfl, ?ht47⟩) (by assumption) ?rt47
    case ht47 => (intro w hSw; (try dsimp only at hSw); go_simp; try with_reducible rfl)
    case' rt47 => skip
    try simp only [Act.put, List.setIfInBounds_toArray, List.set_cons_zero, List.set_cons_succ]
    refine wpAnyG_one 8 at8 (by kernel_rfl) (fun Kn hK => ?_)
    go_simp
    refine (HPU.out _).mono ?_
    rintro e w11 ⟨rfl, hq1⟩
    have hb1 := hb0.trans (hq1.mono hb0.size)
    clear hS
    have hS := HS9.out _ hb1
    refine hK.out _ _ (Or.inr hS) ?_
    clear hK Kn hq1
    try simp only [Act.put, List.setIfInBounds_toArray, List.set_cons_zero, List.set_cons_succ]
    refine wpAnyG_one 9 at9 (by kernel_rfl) (fun Kn hK => ?_)
    go_simp
    refine (HCK.out _ hb1).mono ?_
    rintro e w12 ⟨rfl, hq2⟩
    have hb2 := hb1.trans (hq2.mono hb1.size)
    clear hS
    have hS := HS9.out _ hb2
    refine hK.out _ _ (Or.inr hS) ?_
    clear hK Kn hq2
    try simp only [Act.put, List.setIfInBounds_toArray, List.set_cons_zero, List.set_cons_succ]
    refine wpAnyG_pure (i := 10) (v := ?vt510) at10 (by kernel_rfl) (fun _ _ _ h => h) (Or.inl ⟨by rfl, ?ht510⟩) (Or.inr (by assumption)) ?rt510
    case ht510 => (intro w hSw; (try dsimp only at hSw); go_simp; try with_reducible rfl)
    case' rt510 => skip
    try simp only [Act.put, List.setIfInBounds_toArray, List.set_cons_zero, List.set_cons_succ]
    refine wpAnyG_pure (i := 11) (v := ?vt511) at11 (by kernel_rfl) (fun _ _ _ h => h) (Or.inl ⟨by rfl, ?ht511⟩) (Or.inr (by assumption)) ?rt511
    case ht511 => (intro w hSw; (try dsimp only at hSw); go_simp; try with_reducible rfl)
    case' rt511 => skip
    try simp only [Act.put, List.setIfInBounds_toArray, List.set_cons_zero, List.set_cons_succ]
    refine wpAnyG_one 12 at12 (by kernel_rfl) (fun Kn hK => ?_)
    go_simp
    refine hK.out _ _ (Or.inl (by kernel_rfl)) ?_
    have HF := Lib.hid (HBE.out.trans (hb2.mono HBE.out.size))
    clear hK Kn hS hb0 hb1 hb2
    refine wpAnyG_done (by kernel_rfl) ?_
    try simp only [Act.put, List.setIfInBounds_toArray, List.set_cons_zero, List.set_cons_succ]
    go_wp2_with fail
    go_ret
    exact ⟨rfl, HF.out⟩
end Go.Proofs.YtckblcfkajpofaaGreatDoor
