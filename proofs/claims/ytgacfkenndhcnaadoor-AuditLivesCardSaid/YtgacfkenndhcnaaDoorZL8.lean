/- Where nothing is promised: Fresh, Real; Exposed of a file that is not there. (Printed by tools/gad.py.) Real where nothing is asked; Exposed of a file that is not there; law 20's light and shown. Law 20's shown. Lives begin where others are gone; versions and times of marks never fall: plain law. -/
import Derived.Test.YtgacfkenndhcnaaDoorZL7
import Derived.Test.YtgacfkenndhcnaaDoorZL5
namespace Go.Proofs.YtgacfkenndhcnaaDoor
open Go.RowKit
set_option linter.unusedVariables false
set_option linter.unusedSimpArgs false

theorem info_res : (Tryd.prog.info? 35).map (·.size) = some 5 := by kernel_rfl
/-- a command and a result in blocks of their own -/
structure FrAt (w wx : World) (Z5 Z6 : Nat) (s : StA) : Prop where
  c : wx.heap[Z5]? = some (.cells (cmdC s).toArray 31 (0, 0))
  r : wx.heap[Z6]? = some (.cells (resC s).toArray 35 (0, 0))
  below : Below w.heap.size w wx
  z5 : w.heap.size ≤ Z5
  z6 : w.heap.size ≤ Z6
set_option maxRecDepth 100000 in
set_option maxHeartbeats 8000000 in
theorem fresh_off {w : World} {role : Nat → Role} {G : LedM} (h : IsLed w role G) (s : StA) (hvn : s.vn.oneCell' = true) (hc : countsP G.cor s = false) :
    Calls Tryd.prog 11 #[.pointer (some ⟨G.b, 0, none⟩), .agg (stepC s).toArray] w fun e w' => e = .returned (.bool true) ∧ Below w.heap.size w w' := by
  obtain ⟨W0, hW0⟩ : ∃ W, w.alloc (.cells #[.pointer (some ⟨G.b, 0, none⟩)] 24) = W := ⟨_, rfl⟩
  have hb0 : Below w.heap.size w W0 := by rw [← hW0]; exact (Below.refl _ w).alloc (Nat.le_refl _) _
  have hs0 : W0.heap.size = w.heap.size + 1 := by rw [← hW0, size_alloc]
  have HX := Lib.hid (step_in W0 s)
  have HL0 : Hid (W0.heap[w.heap.size]? = some (.cells #[.pointer (some ⟨G.b, 0, none⟩)] 24 (0, 0))) := Lib.hid (by rw [← hW0, get_alloc, if_pos rfl])
  obtain ⟨SA, hSA⟩ : ∃ A, (stepC s).toArray = A := ⟨_, rfl⟩
  obtain ⟨CA, hCA⟩ : ∃ A, (cmdC s).toArray = A := ⟨_, rfl⟩
  obtain ⟨RA, hRA⟩ : ∃ A, (resC s).toArray = A := ⟨_, rfl⟩
  have HSA := Lib.hid hSA
  have HCA := Lib.hid hCA
  have HRA := Lib.hid hRA
  have HI1 : Hid (((Tryd.prog.info? 31).map (·.size) = some CA.size ∧ CA.size = 18 ∧ CA.all (·.oneCell') = true) ∧ ((Tryd.prog.info? 35).map (·.size) = some RA.size ∧ RA.size = 5 ∧ RA.all (·.oneCell') = true) ∧ (Tryd.prog.info? 37).map (·.size) = some SA.size) := Lib.hid (by
    rw [← hCA, ← hRA, ← hSA]
    exact ⟨⟨info_cmd, rfl, by simp [cmdC, Value.oneCell']⟩, ⟨info_res, rfl, by rw [List.all_toArray]; simp only [resC, List.all_cons, List.all_nil, hvn]; rfl⟩, info_step⟩)
  rw [hSA] at HX ⊢
  rw [hs0] at HX
  have HH := Lib.hid h
  have HB0 := Lib.hid hb0
  have HCO : Hid (∀ U, Below w.heap.size w U → Calls Tryd.prog 27 #[.pointer (some ⟨G.b, 0, none⟩), .agg SA] U fun e w' => e = .returned (.bool false) ∧ Below U.heap.size U w') := Lib.hid fun U hU => by
    have := counts_calls (h.below hU) s hvn
    rw [hc, hSA] at this; exact this
  obtain ⟨W1, hW1⟩ : ∃ W, W0.alloc (.cells SA 37) = W := ⟨_, rfl⟩
  rw [hW1] at HX
  have hx1 : Below w.heap.size w W1 := hb0.trans (HX.out.below.mono hb0.size)
  have HB1 := Lib.hid hx1
  have HL1 : Hid (W1.heap[w.heap.size]? = some (.cells #[.pointer (some ⟨G.b, 0, none⟩)] 24 (0, 0))) := Lib.hid ((Keep.of_below HX.out.below : Keep (fun _ => False) W0 W1).at HL0.out fun e => e)
  have l0 : W1.cell? ⟨w.heap.size, 0, none⟩ = some (.pointer (some ⟨G.b, 0, none⟩)) := by rw [cell_of_row _ _ _ _ _ _ HL1.out]; rfl
  have hs0' := hs0
  have HS0 := Lib.hid hs0
  clear h hvn hc hSA hCA hRA hb0 hx1 hs0'
  go_enter Tryd.func11, Tryd.ntmps11
  go_simp
  go_upto_region 1 with fail
  go_simp
  clear hW0 hW1 hs0
  go_cut [5, 6] from 9 to 12 (fun q5 q6 wx => ∃ Z5 Z6, q5 = .pointer (some ⟨Z5, 0, none⟩) ∧ q6 = .pointer (some ⟨Z6, 0, none⟩) ∧ Hid (FrAt W1 wx Z5 Z6 s))
  case first =>
    refine wp_region_G (fun U => U.rangeAt (w.heap.size + 1) 0 (cmdC s) ∧ U.rangeAt (w.heap.size + 1) 18 (resC s)) [7] (by kernel_rfl) ?_
    have HSS : Hid (∀ U, Below W1.heap.size W1 U → (U.rangeAt (w.heap.size + 1) 0 (cmdC s) ∧ U.rangeAt (w.heap.size + 1) 18 (resC s))) := Lib.hid fun U hU => by
      have h1 := HX.out.next hU
      exact ⟨h1.range, h1.rangeR⟩
    have hb0 : Below W1.heap.size W1 W1.drew := (Below.refl W1.heap.size W1).drew
    obtain ⟨wd, hwd⟩ : ∃ x, W1.drew = x := ⟨_, rfl⟩
    rw [hwd] at hb0 ⊢
    clear hwd
    have hS := HSS.out _ hb0
    refine wpAnyG_pure (i := 0) (v := ?vfa0) at0 (by kernel_rfl) (fun _ _ _ h => h) (Or.inl ⟨by rfl, ?hfa0⟩) (Or.inr (by assumption)) ?rfa0
    case hfa0 => (intro w hSw; (try dsimp only at hSw); go_simp; try with_reducible rfl)
    case' rfa0 => skip
    try simp only [Act.put, List.setIfInBounds_toArray, List.set_cons_zero, List.set_cons_succ]
    refine wpAnyG_take (ws := [1,3]) (i := 1) (v := .agg CA) at1 (by kernel_rfl) (fun _ _ _ h => h) (by rw [← HCA.out]; exact yieldsIf_load_mid rfl _ _ rfl _ _ rfl (cmdC s) _ (fun W hW => hW.1) Tryd.underlying31 rfl info_cmd) (by assumption) ?_
    try simp only [Act.put, List.setIfInBounds_toArray, List.set_cons_zero, List.set_cons_succ]
    refine wpAnyG_pure (i := 2) (v := ?vfb2) at2 (by kernel_rfl) (fun _ _ _ h => h) (Or.inl ⟨by rfl, ?hfb2⟩) (Or.inr (by assumption)) ?rfb2
    case hfb2 => (intro w hSw; (try dsimp only at hSw); go_simp; try with_reducible rfl)
    case' rfb2 => skip
    try simp only [Act.put, List.setIfInBounds_toArray, List.set_cons_zero, List.set_cons_succ]
    refine wpAnyG_take (ws := [1,3]) (i := 3) (v := .agg RA) at3 (by kernel_rfl) (fun _ _ _ h => h) (by rw [← HRA.out]; exact yieldsIf_load_mid rfl _ _ rfl _ _ rfl (resC s) _ (fun W hW => hW.2) Tryd.underlying35 rfl info_res) (by assumption) ?_
    try simp only [Act.put, List.setIfInBounds_toArray, List.set_cons_zero, List.set_cons_succ]
    refine wpAnyG_two 4 5 at4 at5 (by kernel_rfl) (fun Kn hK => ?_) (fun Kn hK => ?_)
    · skip
      go_simp
      obtain ⟨zc, hzc⟩ : ∃ z, wd.heap.size = z := ⟨_, rfl⟩
      obtain ⟨x1, hx1⟩ : ∃ x, wd.alloc (.cells #[.int .u8 0, .string ⟨#[]⟩, .string ⟨#[]⟩, .string ⟨#[]⟩, .string ⟨#[]⟩, .bool false, .string ⟨#[]⟩, .int .u64 0, .int .u8 0, .int .i64 0, .string ⟨#[]⟩, .string ⟨#[]⟩, .int .u8 0, .int .i64 0, .string ⟨#[]⟩, .string ⟨#[]⟩, .bool false, .int .i64 0] 31) = x := ⟨_, rfl⟩
      have ha1 : x1.heap[zc]? = some (.cells #[.int .u8 0, .string ⟨#[]⟩, .string ⟨#[]⟩, .string ⟨#[]⟩, .string ⟨#[]⟩, .bool false, .string ⟨#[]⟩, .int .u64 0, .int .u8 0, .int .i64 0, .string ⟨#[]⟩, .string ⟨#[]⟩, .int .u8 0, .int .i64 0, .string ⟨#[]⟩, .string ⟨#[]⟩, .bool false, .int .i64 0] 31 (0, 0)) := by rw [← hx1, ← hzc, get_alloc, if_pos rfl]
      have hq1 : Below wd.heap.size wd x1 := by rw [← hx1]; exact (Below.refl _ wd).alloc (Nat.le_refl _) _
      have HN1 : Hid (x1.heap.size = zc + 1) := Lib.hid (by rw [← hx1, size_alloc, hzc])
      rw [hx1, hzc]
      have hb1 := hb0.trans (hq1.mono hb0.size)
      have hl1 : W1.heap.size ≤ zc := by rw [← hzc]; exact hb0.size
      clear hS hx1 hzc hq1
      have hS := HSS.out _ hb1
      refine hK.out _ _ (Or.inr hS) ?_
      clear hK Kn
      try simp only [Act.put, List.setIfInBounds_toArray, List.set_cons_zero, List.set_cons_succ]
      refine wpAnyG_one 5 at5 (by kernel_rfl) (fun Kn hK => ?_)
      go_simp
      obtain ⟨zr, hzr⟩ : ∃ z, x1.heap.size = z := ⟨_, rfl⟩
      obtain ⟨x2, hx2⟩ : ∃ x, x1.alloc (.cells #[.int .i64 0, .string ⟨#[]⟩, .slice none 0 0, .int .u64 0, .int .i64 0] 35) = x := ⟨_, rfl⟩
      have hb22 : x2.heap[zr]? = some (.cells #[.int .i64 0, .string ⟨#[]⟩, .slice none 0 0, .int .u64 0, .int .i64 0] 35 (0, 0)) := by rw [← hx2, ← hzr, get_alloc, if_pos rfl]
      have hq2 : Below x1.heap.size x1 x2 := by rw [← hx2]; exact (Below.refl _ x1).alloc (Nat.le_refl _) _
      have ha2 := (Keep.of_below hq2 : Keep (fun _ => False) x1 x2).at ha1 fun e => e
      rw [hx2, hzr]
      have hb2 := hb1.trans (hq2.mono hb1.size)
      have hl2 : W1.heap.size ≤ zr := by rw [← hzr]; exact hb1.size
      have hne : zc ≠ zr := by rw [← hzr, HN1.out]; omega
      clear hS hx2 hzr hq2 ha1 HN1 hb1
      have hS := HSS.out _ hb2
      refine hK.out _ _ (Or.inr hS) ?_
      clear hK Kn
      try simp only [Act.put, List.setIfInBounds_toArray, List.set_cons_zero, List.set_cons_succ]
      have HB2 := Lib.hid hb2
      have HZ : Hid (W1.heap.size ≤ zc ∧ W1.heap.size ≤ zr ∧ zc ≠ zr) := Lib.hid ⟨by assumption, by assumption, by omega⟩
      clear hb2 hl1 hl2 hne
      refine wpAnyG_one 6 at6 (by kernel_rfl) (fun Kn hK => ?_)
      refine step_store_all rfl _ _ _ rfl rfl rfl _ _ ha2 HI1.out.1.1 HI1.out.1.2.1 HI1.out.1.2.2 ?_
      intro x3 h3 k3 s3
      have HB3 : Hid (Below W1.heap.size W1 x3) := Lib.hid (below_at HB2.out k3 HZ.out.1)
      have hr3 := k3.at hb22 (fun e => HZ.out.2.2 e.symm)
      have HC3 := Lib.hid h3
      clear hS ha2 hb22 k3 s3 h3
      have hS := HSS.out _ HB3.out
      refine hK.out _ _ (Or.inr hS) ?_
      clear hK Kn
      try simp only [Act.put, List.setIfInBounds_toArray, List.set_cons_zero, List.set_cons_succ]
      refine wpAnyG_one 7 at7 (by kernel_rfl) (fun Kn hK => ?_)
      refine step_store_all rfl _ _ _ rfl rfl rfl _ _ hr3 HI1.out.2.1.1 HI1.out.2.1.2.1 HI1.out.2.1.2.2 ?_
      intro x4 h4 k4 s4
      refine hK.out _ _ (Or.inl (by kernel_rfl)) ?_
      have HLEAF : Hid (FrAt W1 x4 zc zr s) := Lib.hid ⟨by rw [HCA.out]; exact k4.at HC3.out HZ.out.2.2, by rw [HRA.out]; exact h4, below_at HB3.out k4 HZ.out.2.1, HZ.out.1, HZ.out.2.1⟩
      clear hK Kn h4 k4 s4 hS hr3
      refine wpAnyG_done (by kernel_rfl) ?_
      try simp only [Act.put, List.setIfInBounds_toArray, List.set_cons_zero, List.set_cons_succ]
      go_wp2_with fail
      go_meet
      exact ⟨_, _, rfl, rfl, HLEAF⟩
    · skip
      go_simp
      obtain ⟨zr, hzr⟩ : ∃ z, wd.heap.size = z := ⟨_, rfl⟩
      obtain ⟨x1, hx1⟩ : ∃ x, wd.alloc (.cells #[.int .i64 0, .string ⟨#[]⟩, .slice none 0 0, .int .u64 0, .int .i64 0] 35) = x := ⟨_, rfl⟩
      have ha1 : x1.heap[zr]? = some (.cells #[.int .i64 0, .string ⟨#[]⟩, .slice none 0 0, .int .u64 0, .int .i64 0] 35 (0, 0)) := by rw [← hx1, ← hzr, get_alloc, if_pos rfl]
      have hq1 : Below wd.heap.size wd x1 := by rw [← hx1]; exact (Below.refl _ wd).alloc (Nat.le_refl _) _
      have HN1 : Hid (x1.heap.size = zr + 1) := Lib.hid (by rw [← hx1, size_alloc, hzr])
      rw [hx1, hzr]
      have hb1 := hb0.trans (hq1.mono hb0.size)
      have hl1 : W1.heap.size ≤ zr := by rw [← hzr]; exact hb0.size
      clear hS hx1 hzr hq1
      have hS := HSS.out _ hb1
      refine hK.out _ _ (Or.inr hS) ?_
      clear hK Kn
      try simp only [Act.put, List.setIfInBounds_toArray, List.set_cons_zero, List.set_cons_succ]
      refine wpAnyG_one 4 at4 (by kernel_rfl) (fun Kn hK => ?_)
      go_simp
      obtain ⟨zc, hzc⟩ : ∃ z, x1.heap.size = z := ⟨_, rfl⟩
      obtain ⟨x2, hx2⟩ : ∃ x, x1.alloc (.cells #[.int .u8 0, .string ⟨#[]⟩, .string ⟨#[]⟩, .string ⟨#[]⟩, .string ⟨#[]⟩, .bool false, .string ⟨#[]⟩, .int .u64 0, .int .u8 0, .int .i64 0, .string ⟨#[]⟩, .string ⟨#[]⟩, .int .u8 0, .int .i64 0, .string ⟨#[]⟩, .string ⟨#[]⟩, .bool false, .int .i64 0] 31) = x := ⟨_, rfl⟩
      have hb22 : x2.heap[zc]? = some (.cells #[.int .u8 0, .string ⟨#[]⟩, .string ⟨#[]⟩, .string ⟨#[]⟩, .string ⟨#[]⟩, .bool false, .string ⟨#[]⟩, .int .u64 0, .int .u8 0, .int .i64 0, .string ⟨#[]⟩, .string ⟨#[]⟩, .int .u8 0, .int .i64 0, .string ⟨#[]⟩, .string ⟨#[]⟩, .bool false, .int .i64 0] 31 (0, 0)) := by rw [← hx2, ← hzc, get_alloc, if_pos rfl]
      have hq2 : Below x1.heap.size x1 x2 := by rw [← hx2]; exact (Below.refl _ x1).alloc (Nat.le_refl _) _
      have ha2 := (Keep.of_below hq2 : Keep (fun _ => False) x1 x2).at ha1 fun e => e
      rw [hx2, hzc]
      have hb2 := hb1.trans (hq2.mono hb1.size)
      have hl2 : W1.heap.size ≤ zc := by rw [← hzc]; exact hb1.size
      have hne : zr ≠ zc := by rw [← hzc, HN1.out]; omega
      clear hS hx2 hzc hq2 ha1 HN1 hb1
      have hS := HSS.out _ hb2
      refine hK.out _ _ (Or.inr hS) ?_
      clear hK Kn
      try simp only [Act.put, List.setIfInBounds_toArray, List.set_cons_zero, List.set_cons_succ]
      have HB2 := Lib.hid hb2
      have HZ : Hid (W1.heap.size ≤ zc ∧ W1.heap.size ≤ zr ∧ zc ≠ zr) := Lib.hid ⟨by assumption, by assumption, by omega⟩
      clear hb2 hl1 hl2 hne
      refine wpAnyG_one 6 at6 (by kernel_rfl) (fun Kn hK => ?_)
      refine step_store_all rfl _ _ _ rfl rfl rfl _ _ hb22 HI1.out.1.1 HI1.out.1.2.1 HI1.out.1.2.2 ?_
      intro x3 h3 k3 s3
      have HB3 : Hid (Below W1.heap.size W1 x3) := Lib.hid (below_at HB2.out k3 HZ.out.1)
      have hr3 := k3.at ha2 (fun e => HZ.out.2.2 e.symm)
      have HC3 := Lib.hid h3
      clear hS ha2 hb22 k3 s3 h3
      have hS := HSS.out _ HB3.out
      refine hK.out _ _ (Or.inr hS) ?_
      clear hK Kn
      try simp only [Act.put, List.setIfInBounds_toArray, List.set_cons_zero, List.set_cons_succ]
      refine wpAnyG_one 7 at7 (by kernel_rfl) (fun Kn hK => ?_)
      refine step_store_all rfl _ _ _ rfl rfl rfl _ _ hr3 HI1.out.2.1.1 HI1.out.2.1.2.1 HI1.out.2.1.2.2 ?_
      intro x4 h4 k4 s4
      refine hK.out _ _ (Or.inl (by kernel_rfl)) ?_
      have HLEAF : Hid (FrAt W1 x4 zc zr s) := Lib.hid ⟨by rw [HCA.out]; exact k4.at HC3.out HZ.out.2.2, by rw [HRA.out]; exact h4, below_at HB3.out k4 HZ.out.2.1, HZ.out.1, HZ.out.2.1⟩
      clear hK Kn h4 k4 s4 hS hr3
      refine wpAnyG_done (by kernel_rfl) ?_
      try simp only [Act.put, List.setIfInBounds_toArray, List.set_cons_zero, List.set_cons_succ]
      go_wp2_with fail
      go_meet
      exact ⟨_, _, rfl, rfl, HLEAF⟩
  case rest =>
    obtain ⟨Z5, Z6, rfl, rfl, HF0⟩ := hcut
    obtain ⟨w5, hw5, HF⟩ : ∃ y, y = _ ∧ Hid (FrAt W1 y Z5 Z6 s) := ⟨_, rfl, HF0⟩
    subst hw5
    clear HF0 l0
    have l0 : w5.cell? ⟨w.heap.size, 0, none⟩ = some (.pointer (some ⟨G.b, 0, none⟩)) := by rw [cell_of_row _ _ _ _ _ _ ((Keep.of_below HF.out.below : Keep (fun _ => False) W1 w5).at HL1.out fun e => e)]; rfl
    have HB5 : Hid (Below w.heap.size w w5) := Lib.hid (HB1.out.trans (HF.out.below.mono HB1.out.size))
    have HX5 : Hid (w5.heap[w.heap.size + 1]? = some (.cells SA 37 (0, 0))) := Lib.hid (by rw [← HSA.out]; exact (Keep.of_below HF.out.below : Keep (fun _ => False) W1 w5).at HX.out.row fun e => e)
    go_wp2_with (with_reducible refine wp_stop_load (o := ⟨some 14, .load _ (.tmp 3), _, _, _, _⟩) _ _ rfl ?_)
    unfold Stop
    refine wpList_load_row rfl _ _ rfl _ rfl _ SA _ _ HX5.out Tryd.underlying37 rfl HI1.out.2.2 ?_
    go_wp2_with fail
    refine (HCO.out w5 HB5.out).mono ?_
    rintro e w6 ⟨rfl, hb6⟩
    have HB6 := Lib.hid (HB5.out.trans (hb6.mono HB5.out.size))
    clear hb6
    go_wp2_with fail
    go_ret
    exact ⟨rfl, HB6.out⟩
end Go.Proofs.YtgacfkenndhcnaaDoor
namespace Go.Proofs.YtgacfkenndhcnaaDoor
open Go.RowKit
set_option linter.unusedVariables false
set_option linter.unusedSimpArgs false

set_option maxRecDepth 100000 in
set_option maxHeartbeats 4000000 in
theorem real_off {w : World} (b : Nat) (s : StA) (hk : (s.kind == 114) = false) :
    Calls Tryd.prog 12 #[.pointer (some ⟨b, 0, none⟩), .agg (stepC s).toArray] w fun e w' => e = .returned (.bool true) ∧ Below w.heap.size w w' := by
  obtain ⟨W0, hW0⟩ : ∃ W, w.alloc (.cells #[.pointer (some ⟨b, 0, none⟩)] 24) = W := ⟨_, rfl⟩
  have hb0 : Below w.heap.size w W0 := by rw [← hW0]; exact (Below.refl _ w).alloc (Nat.le_refl _) _
  have hs0 : W0.heap.size = w.heap.size + 1 := by rw [← hW0, size_alloc]
  have hx := step_in W0 s
  obtain ⟨W1, hW1⟩ : ∃ W, W0.alloc (.cells (stepC s).toArray 37) = W := ⟨_, rfl⟩
  rw [hW1, hs0] at hx
  have k0 : W1.cell? ⟨w.heap.size + 1, 0, none⟩ = some (.int .u8 s.kind) := hx.cell 0 _ rfl
  have HB := Lib.hid (hb0.trans (hx.below.mono hb0.size))
  obtain ⟨SA, hSA⟩ : ∃ A, (stepC s).toArray = A := ⟨_, rfl⟩
  rw [hSA] at hW1 ⊢
  obtain ⟨kd, hkd⟩ : ∃ k, s.kind = k := ⟨_, rfl⟩
  rw [hkd] at hk k0
  have hk2 : (kd != 114) = true := by rw [bne, hk]; rfl
  clear hx hb0 hSA hkd
  go_enter Tryd.func12, Tryd.ntmps12
  go_wp2_with fail
  go_ret
  exact ⟨rfl, HB.out⟩
set_option maxRecDepth 100000 in
set_option maxHeartbeats 4000000 in
theorem exposed_off {w : World} {role : Nat → Role} {G : LedM} (h : IsLed w role G) (o f : ByteArray) (ep : Int) (ho : o.size ≤ 1000) (hf : f.size ≤ 1000) (hno : ∀ x, (G.lives (pathB o f)).getLast? = some x → x.gone = true) :
    Calls Tryd.prog 10 #[.pointer (some ⟨G.b, 0, none⟩), .string o, .string f, .int .i64 ep] w fun e w' => e = .returned (.bool false) ∧ Below w.heap.size w w' := by
  obtain ⟨W0, hW0⟩ : ∃ W, w.alloc (.cells #[.pointer (some ⟨G.b, 0, none⟩)] 24) = W := ⟨_, rfl⟩
  have hb0 : Below w.heap.size w W0 := by rw [← hW0]; exact (Below.refl _ w).alloc (Nat.le_refl _) _
  obtain ⟨W1, hW1⟩ : ∃ W, W0.alloc (.cells #[.int .i64 ep] 3) = W := ⟨_, rfl⟩
  have hb1 : Below W0.heap.size W0 W1 := by rw [← hW1]; exact (Below.refl _ W0).alloc (Nat.le_refl _) _
  have l0 : W1.cell? ⟨w.heap.size, 0, none⟩ = some (.pointer (some ⟨G.b, 0, none⟩)) := by
    refine (Keep.of_below hb1 : Keep (fun _ => False) W0 W1).cell ?_ fun e => e
    rw [← hW0, cell_of_row _ _ _ _ _ _ (MapKept.heap_alloc w _).1]; rfl
  have HB := Lib.hid (hb0.trans (hb1.mono hb0.size))
  have HI := Lib.hid (h.below HB.out)
  have HNO := Lib.hid hno
  have HON := Lib.hid (on_calls HI.out o f ho hf)
  clear h ho hf hno hb0 hb1
  go_enter Tryd.func10, Tryd.ntmps10
  go_wp2_with fail
  refine HON.out.mono ?_
  rintro e w4 ⟨hon, hw4⟩
  obtain rfl : w4 = W1 := hw4
  rcases hon with ⟨rfl, _⟩ | ⟨g, n, c, xs, x, hk, hn, hx, hxg, rfl⟩
  · clear hW1
    go_wp2_with fail
    go_ret
    exact ⟨rfl, HB.out⟩
  · have := HNO.out x (by rw [lives_of hk, List.getLast?_eq_getElem?, hn]; exact hx)
    rw [hxg] at this; cases this

/-! ### light -/
def lightB (s : StA) : Bool := decide (s.who.size + s.owner.size + s.file.size + s.user.size + s.text.size + s.rtext.size ≤ 600)
def sizesOk (s : StA) : Prop := s.who.size ≤ 140737488355328 ∧ s.owner.size ≤ 140737488355328 ∧ s.file.size ≤ 140737488355328 ∧ s.user.size ≤ 140737488355328 ∧ s.text.size ≤ 140737488355328 ∧ s.rtext.size ≤ 140737488355328
set_option maxRecDepth 100000 in
set_option maxHeartbeats 4000000 in
theorem light_calls (w : World) (s : StA) (hs : sizesOk s) :
    Calls Tryd.prog 6 #[.agg (stepC s).toArray] w fun e w' => e = .returned (.bool (lightB s)) ∧ Below w.heap.size w w' := by
  have HX := Lib.hid (step_in w s)
  obtain ⟨SA, hSA⟩ : ∃ A, (stepC s).toArray = A := ⟨_, rfl⟩
  obtain ⟨CA, hCA⟩ : ∃ A, (cmdC s).toArray = A := ⟨_, rfl⟩
  have HCA := Lib.hid hCA
  have HC1 : Hid ((Tryd.prog.info? 31).map (·.size) = some CA.size ∧ CA.size = 18 ∧ CA.all (·.oneCell') = true) := Lib.hid (by rw [← hCA]; exact ⟨info_cmd, rfl, by simp [cmdC, Value.oneCell']⟩)
  rw [hSA] at HX ⊢
  obtain ⟨W1, hW1⟩ : ∃ W, w.alloc (.cells SA 37) = W := ⟨_, rfl⟩
  rw [hW1] at HX
  have HS1 : Hid (W1.heap.size = w.heap.size + 1) := Lib.hid (by rw [← hW1, size_alloc])
  have HL : Hid (lightB s = decide ((s.who.size : Int) + s.owner.size + s.file.size + s.user.size + s.text.size + s.rtext.size ≤ 600)) := Lib.hid (by unfold lightB; congr 1; apply propext; omega)
  unfold sizesOk at hs
  obtain ⟨q1, q2, q3, q4, q5, q6⟩ := hs
  clear hSA hCA
  go_enter Tryd.func6, Tryd.ntmps6
  go_wp2_with (with_reducible refine wp_stop_load (o := ⟨some 5, .load _ (.tmp 4), _, _, _, _⟩) _ _ rfl ?_)
  unfold Stop
  refine wpList_load_mid rfl _ _ rfl _ _ rfl (cmdC s) _ HX.out.range Tryd.underlying31 rfl info_cmd ?_
  rw [HCA.out]
  go_wp2_with (with_reducible refine wp_stop_store (o := ⟨none, .store _ (.tmp 3) _, _, _, _, _⟩) _ _ _ rfl ?_)
  unfold Stop
  refine wp_store_all rfl _ _ _ rfl rfl rfl _ _ ((get_alloc _ _ _).trans (if_pos rfl)) HC1.out.1 HC1.out.2.1 HC1.out.2.2 ?_
  intro W2 h2 k2 s2
  have hb2 : Below W1.heap.size W1 W2 := below_keep ((Below.refl W1.heap.size W1).alloc (Nat.le_refl _) _) k2
  have HX2 := Lib.hid (HX.out.next hb2)
  have HY2 : Hid (CmdIn w W2 W1.heap.size s) := Lib.hid ⟨by rw [HCA.out]; exact h2, by rw [HS1.out]; exact Nat.le_succ _⟩
  rw [HS1.out] at HY2 ⊢
  clear h2 k2 s2 hb2 hW1
  have c1 := HY2.out.cell 1 _ rfl
  have c2 := HY2.out.cell 2 _ rfl
  have c3 := HY2.out.cell 3 _ rfl
  have c4 := HY2.out.cell 4 _ rfl
  have c6 := HY2.out.cell 6 _ rfl
  have d19 := HX2.out.cell 19 _ rfl
  go_wp2_with fail
  go_ret
  exact ⟨by rw [HL.out]; rfl, HX2.out.below⟩
end Go.Proofs.YtgacfkenndhcnaaDoor
namespace Go.Proofs.YtgacfkenndhcnaaDoor
open Go.RowKit
set_option linter.unusedVariables false
set_option linter.unusedSimpArgs false

def annaA : ByteArray := ⟨#[97, 110, 110, 97]⟩
def notesA : ByteArray := ⟨#[110, 111, 116, 101, 115]⟩
def stA0 : StA := ⟨99, annaA, ⟨#[]⟩, notesA, ⟨#[]⟩, false, ⟨#[]⟩, 0, ⟨0, 0, ⟨#[]⟩, ⟨#[]⟩⟩, ⟨0, 0, ⟨#[]⟩, ⟨#[]⟩⟩, false, 0, 0, ⟨#[]⟩, .slice none 0 0, 0, 0⟩
def stA1 : StA := ⟨0, ⟨#[]⟩, ⟨#[]⟩, ⟨#[]⟩, ⟨#[]⟩, false, ⟨#[]⟩, 0, ⟨0, 0, ⟨#[]⟩, ⟨#[]⟩⟩, ⟨0, 0, ⟨#[]⟩, ⟨#[]⟩⟩, false, 0, 0, ⟨#[]⟩, .slice none 0 0, 0, 0⟩
theorem shown_one : (PLed.at (noteP ⟨0, [], []⟩ stA0).P (pathB annaA notesA)).length = 1 := by decide +kernel
theorem pok_nil : POk 0 [] := fun k ls h => by cases h
def zeroStep : Array Value := #[.int .u8 0, .string ⟨#[]⟩, .string ⟨#[]⟩, .string ⟨#[]⟩, .string ⟨#[]⟩, .bool false, .string ⟨#[]⟩, .int .u64 0, .int .u8 0, .int .i64 0, .string ⟨#[]⟩, .string ⟨#[]⟩, .int .u8 0, .int .i64 0, .string ⟨#[]⟩, .string ⟨#[]⟩, .bool false, .int .i64 0, .int .i64 0, .string ⟨#[]⟩, .slice none 0 0, .int .u64 0, .int .i64 0]
set_option maxRecDepth 100000 in
set_option maxHeartbeats 4000000 in
theorem shown20_calls (w : World) (hT : Tabs w) : Calls Tryd.prog 4 #[] w fun e w' => e = .returned (.bool true) ∧ Below w.heap.size w w' := by
  have HT := Lib.hid hT
  have HNW := Lib.hid (newled_calls w 1)
  clear hT
  go_enter Tryd.func4, Tryd.ntmps4
  go_wp2_with fail
  refine HNW.out.mono ?_
  rintro e w1 ⟨role0, rfl, hI1, hb1, hlo⟩
  have HI1 := Lib.hid hI1
  have HB1 := Lib.hid hb1
  have HLO := Lib.hid hlo
  have HEX := Lib.hid (exposed_off hI1 annaA notesA 0 (by decide) (by decide) (fun x hx => by cases hx))
  clear hI1 hb1 hlo
  go_wp2_with fail
  refine HEX.out.mono ?_
  rintro e w2 ⟨rfl, hb2⟩
  have HB2 := Lib.hid (HB1.out.trans (hb2.mono HB1.out.size))
  have HI2 := Lib.hid (HI1.out.below hb2)
  have hnt := note_calls HI2.out stA0 rfl (by decide) pok_nil (by decide) (Nat.zero_le _) (HT.out.below HB2.out)
  have HNT := Lib.hid hnt
  clear hb2 hnt
  go_wp2_with fail
  refine HNT.out.mono ?_
  rintro e w3 ⟨rfl, hl3⟩
  obtain ⟨role1, G1, hI3, hgb, hgo, hgn, hgc, hgp, hk3, hr3⟩ := hl3
  have hb3 : Below w.heap.size w w3 := by
    refine (((Keep.of_below HB2.out : Keep (fun q => w.heap.size ≤ q) w w2)).trans hk3 fun q hq => Or.inl ?_).new
    by_cases hql : q < w.heap.size
    · exact absurd (HLO.out q hql) hq
    · omega
  have HB3 := Lib.hid hb3
  have HI3 := Lib.hid hI3
  have hpk : POk 2 G1.pure := by rw [hgp]; exact pok_nil.note stA0
  have hone : (G1.lives (pathB annaA notesA)).length = 1 := by
    have := shown_one
    rw [show (noteP ⟨0, [], []⟩ stA0).P = G1.pure from hgp.symm, pure_at_k, List.length_map] at this
    exact this
  have hlv := lives_calls hI3 annaA notesA (by decide) (by decide) hpk (by decide)
  have hfr := fun U (hU : Below w3.heap.size w3 U) => fresh_off (hI3.below hU) stA1 rfl rfl
  rw [hgb] at hlv
  rw [hgb] at hfr
  have HLV := Lib.hid hlv
  have HFR := Lib.hid hfr
  have HON := Lib.hid hone
  clear hI3 hgb hgo hgn hgc hgp hk3 hr3 hb3 hpk hone hlv hfr
  go_wp2_with fail
  refine HLV.out.mono ?_
  rintro e w4 ⟨A, c, ys, rfl, _, _, htold, hb4⟩
  have hy1 : ys.length = 1 := by have := congrArg List.length htold; rw [List.length_map, List.length_map, HON.out] at this; exact this
  rw [hy1]
  have HB4 := Lib.hid hb4
  have HR4 := Lib.hid (fun U => real_off (w := U) (w.heap.size + 1) stA1 rfl)
  clear htold hb4 hy1
  go_wp2_with fail
  refine (HFR.out w4 HB4.out).mono ?_
  rintro e w5 ⟨rfl, hb5⟩
  have HB5 := Lib.hid (HB4.out.trans (hb5.mono HB4.out.size))
  clear hb5
  go_wp2_with fail
  refine (HR4.out w5).mono ?_
  rintro e w6 ⟨rfl, hb6⟩
  have HB6 := Lib.hid (HB3.out.trans ((HB5.out.trans (hb6.mono HB5.out.size)).mono HB3.out.size))
  clear hb6
  go_wp2_with fail
  go_ret
  exact ⟨rfl, HB6.out⟩
end Go.Proofs.YtgacfkenndhcnaaDoor
namespace Go.Proofs.YtgacfkenndhcnaaDoor
open Go.RowKit
set_option linter.unusedVariables false
set_option linter.unusedSimpArgs false

/-! ### paths -/
theorem path_inj {a b o f : ByteArray} (ho : nameR o = true) (hf : nameR f = true) (h : pathB a b = pathB o f) : a = o ∧ b = f := by
  have h1 : a.data.toList ++ 47 :: b.data.toList = o.data.toList ++ 47 :: f.data.toList := by
    have := congrArg (fun x : ByteArray => x.data.toList) h
    simpa [pathB, slash, ByteArray.data_append] using this
  have no := nameR_free ho
  have nf := nameR_free hf
  have key : a.data.toList = o.data.toList ∧ b.data.toList = f.data.toList := by
    rcases List.append_eq_append_iff.1 h1 with ⟨c, e1, e2⟩ | ⟨c, e1, e2⟩
    · cases c with
      | nil => simp at e1 e2; exact ⟨by rw [e1], by rw [e2]⟩
      | cons y c =>
        simp at e2
        rw [e1, ← e2.1] at no
        exact absurd (by simp) no
    · cases c with
      | nil => simp at e1 e2; exact ⟨by rw [e1], by rw [e2]⟩
      | cons y c =>
        simp at e2
        rw [e2.2] at nf
        exact absurd (by simp) nf
  exact ⟨by rw [ByteArray.ext_iff]; exact Array.ext' key.1, by rw [ByteArray.ext_iff]; exact Array.ext' key.2⟩
theorem path_prefix (who f : ByteArray) : Lib.hasPrefix (pathB who f).data.toList (who ++ slash).data.toList = true := by
  unfold Lib.hasPrefix pathB
  rw [List.isPrefixOf_iff_prefix, ByteArray.data_append, Array.toList_append]
  exact List.prefix_append _ _

/-! ### marks, one behind another -/
def endT (t : Int) (ms : List Mark) : Int := (ms.getLast?.map (·.t)).getD t
def endV (v : Int) (ms : List Mark) : Int := (ms.getLast?.map (·.v)).getD v
def markGood (o f : ByteArray) (t v : Int) (m : Mark) : Prop := t ≤ m.t ∧ v ≤ m.v ∧ m.v ≤ v + 1 ∧ m.r.owner = o ∧ m.r.file = f ∧ m.r.epoch ≤ 7
def marksAll (o f : ByteArray) (ms : List Mark) : Prop := ∀ k m, ms[k]? = some m → markGood o f (endT 0 (ms.take k)) (endV 0 (ms.take k)) m
theorem endT_snoc (t : Int) (ms : List Mark) (m : Mark) : endT t (ms ++ [m]) = m.t := by unfold endT; simp
theorem endV_snoc (t : Int) (ms : List Mark) (m : Mark) : endV t (ms ++ [m]) = m.v := by unfold endV; simp
theorem marksAll_snoc {o f : ByteArray} {ms : List Mark} {m : Mark} (h : marksAll o f ms) (hm : markGood o f (endT 0 ms) (endV 0 ms) m) : marksAll o f (ms ++ [m]) := by
  intro k x hx
  by_cases hk : k < ms.length
  · rw [List.getElem?_append_left hk] at hx
    rw [List.take_append_of_le_length (by omega)]
    exact h k x hx
  · rw [List.getElem?_append_right (by omega)] at hx
    have hk0 : k = ms.length := by
      have := (List.getElem?_eq_some_iff.1 hx).1
      simp at this; omega
    subst hk0
    simp at hx
    subst hx
    rw [List.take_append_of_le_length (Nat.le_refl _), List.take_length]; exact hm
def Fl (ls : List Life) : List Mark := ls.flatMap (·.marks)
theorem Fl_app (a b : List Life) : Fl (a ++ b) = Fl a ++ Fl b := by unfold Fl; rw [List.flatMap_append]
theorem Fl_one (x : Life) : Fl [x] = x.marks := by unfold Fl; simp

/-! ### what holds of the lives of a path -/
structure LInv (now N : Int) (o f : ByteArray) (pend : Bool) (ls : List Life) : Prop where
  all : marksAll o f (Fl ls)
  time : endT 0 (Fl ls) ≤ now
  ne : ∀ i x, ls[i]? = some x → x.marks = [] → pend = true ∧ i + 1 = ls.length
  hd : ∀ i x m, ls[i]? = some x → x.marks.head? = some m → m.v = endV 0 (Fl (ls.take i)) + 1
  gone : ∀ i x, ls[i]? = some x → i + 1 < ls.length → x.gone = true
  last : ∀ x, ls.getLast? = some x → (pend = true → x.gone = false ∧ x.ver = endV 0 (Fl ls) + 1) ∧ (pend = false → x.ver = endV 0 (Fl ls)) ∧ x.r.owner = o ∧ x.r.file = f ∧ x.r.right = true
  low : 0 ≤ endV 0 (Fl ls) ∧ endV 0 (Fl ls) ≤ N
theorem LInv.later {now now' N N' : Int} {o f : ByteArray} {pend : Bool} {ls : List Life} (h : LInv now N o f pend ls) (hn : now ≤ now') (hN : N ≤ N') : LInv now' N' o f pend ls :=
  ⟨h.all, Int.le_trans h.time hn, h.ne, h.hd, h.gone, h.last, h.low.1, Int.le_trans h.low.2 hN⟩
theorem last_split {ls : List Life} {x : Life} (h : ls.getLast? = some x) : ∃ xs, ls = xs ++ [x] := by
  exact List.getLast?_eq_some_iff.1 h
theorem set_last (xs : List Life) (x y : Life) : (xs ++ [x]).set ((xs ++ [x]).length - 1) y = xs ++ [y] := by
  rw [List.length_append, List.length_singleton, Nat.add_sub_cancel, List.set_append_right _ _ (Nat.le_refl _), Nat.sub_self, List.set_cons_zero]
theorem get_last {xs : List Life} {y z : Life} {i : Nat} (h : (xs ++ [y])[i]? = some z) : (i < xs.length ∧ xs[i]? = some z) ∨ (i = xs.length ∧ z = y) := by
  by_cases hi : i < xs.length
  · rw [List.getElem?_append_left hi] at h; exact Or.inl ⟨hi, h⟩
  · rw [List.getElem?_append_right (by omega)] at h
    have h0 := (List.getElem?_eq_some_iff.1 h).1
    simp at h0
    have : i = xs.length := by omega
    subst this
    simp at h
    exact Or.inr ⟨rfl, h.symm⟩
/-- the last life is another one, with the same marks -/
theorem LInv.swap {now N : Int} {o f : ByteArray} {pend pend' : Bool} {xs : List Life} {x y : Life} (h : LInv now N o f pend (xs ++ [x])) (hm : y.marks = x.marks) (hp : x.marks = [] → pend' = true) (hl : (pend' = true → y.gone = false ∧ y.ver = endV 0 (Fl (xs ++ [x])) + 1) ∧ (pend' = false → y.ver = endV 0 (Fl (xs ++ [x]))) ∧ y.r.owner = o ∧ y.r.file = f ∧ y.r.right = true) : LInv now N o f pend' (xs ++ [y]) := by
  have hF : Fl (xs ++ [y]) = Fl (xs ++ [x]) := by rw [Fl_app, Fl_app, Fl_one, Fl_one, hm]
  refine ⟨by rw [hF]; exact h.all, by rw [hF]; exact h.time, fun i z hz he => ?_, fun i z m hz he => ?_, fun i z hz hi => ?_, fun z hz => ?_, by rw [hF]; exact h.low⟩
  · rcases get_last hz with ⟨hi, hz⟩ | ⟨rfl, rfl⟩
    · have := (h.ne i z (by rw [List.getElem?_append_left hi]; exact hz) he).2
      rw [List.length_append, List.length_singleton] at this; omega
    · exact ⟨hp (by rw [← hm]; exact he), by rw [List.length_append]; rfl⟩
  · rcases get_last hz with ⟨hi, hz⟩ | ⟨rfl, rfl⟩
    · have := h.hd i z m (by rw [List.getElem?_append_left hi]; exact hz) he
      rw [List.take_append_of_le_length (by omega)] at this ⊢
      exact this
    · have := h.hd xs.length x m (by simp) (by rw [← hm]; exact he)
      rw [List.take_append_of_le_length (Nat.le_refl _)] at this ⊢
      exact this
  · rcases get_last hz with ⟨hi', hz⟩ | ⟨rfl, rfl⟩
    · exact h.gone i z (by rw [List.getElem?_append_left hi']; exact hz) (by rw [List.length_append] at hi ⊢; simpa using hi)
    · rw [List.length_append] at hi; simp at hi
  · rw [List.getLast?_concat] at hz
    cases hz
    rw [hF]; exact hl
/-- a mark more -/
theorem LInv.marked {now N : Int} {o f : ByteArray} {pend : Bool} {xs : List Life} {x : Life} (h : LInv now N o f pend (xs ++ [x])) : LInv now (N + 1) o f false (xs ++ [addMark now x]) := by
  obtain ⟨hl1, hl2, hl3, hl4, hl5⟩ := h.last x (by simp)
  have hF : Fl (xs ++ [addMark now x]) = Fl (xs ++ [x]) ++ [⟨now, x.ver, x.r⟩] := by rw [Fl_app, Fl_app, Fl_one, Fl_one, List.append_assoc]; rfl
  have hv : endV 0 (Fl (xs ++ [x])) ≤ x.ver ∧ x.ver ≤ endV 0 (Fl (xs ++ [x])) + 1 := by
    cases pend with
    | true => have := (hl1 rfl).2; omega
    | false => have := hl2 rfl; omega
  have hep : x.r.epoch ≤ 7 := by have := (Rt.right_iff.1 hl5).1.2.2.2.1; omega
  refine ⟨?_, by rw [hF, endT_snoc]; exact Int.le_refl _, fun i z hz he => ?_, fun i z m hz he => ?_, fun i z hz hi => ?_, fun z hz => ?_, ?_⟩
  · rw [hF]; exact marksAll_snoc h.all ⟨h.time, hv.1, hv.2, hl3, hl4, hep⟩
  · rcases get_last hz with ⟨hi, hz⟩ | ⟨rfl, rfl⟩
    · have := (h.ne i z (by rw [List.getElem?_append_left hi]; exact hz) he).2
      rw [List.length_append, List.length_singleton] at this; omega
    · have : x.marks ++ [(⟨now, x.ver, x.r⟩ : Mark)] = [] := he
      simp at this
  · rcases get_last hz with ⟨hi, hz⟩ | ⟨rfl, rfl⟩
    · have := h.hd i z m (by rw [List.getElem?_append_left hi]; exact hz) he
      rw [List.take_append_of_le_length (by omega)] at this ⊢
      exact this
    · rw [List.take_append_of_le_length (Nat.le_refl _), List.take_length]
      have he' : (x.marks ++ [(⟨now, x.ver, x.r⟩ : Mark)]).head? = some m := he
      cases hxm : x.marks with
      | nil =>
        rw [hxm] at he'
        cases he'
        have hp := (h.ne xs.length x (by simp) hxm).1
        have := (hl1 hp).2
        rw [Fl_app, Fl_one, hxm, List.append_nil] at this
        exact this
      | cons m0 ms =>
        rw [hxm] at he'
        simp at he'
        have := h.hd xs.length x m (by simp) (by rw [hxm, ← he']; rfl)
        rw [List.take_append_of_le_length (Nat.le_refl _), List.take_length] at this
        exact this
  · rcases get_last hz with ⟨hi', hz⟩ | ⟨rfl, rfl⟩
    · exact h.gone i z (by rw [List.getElem?_append_left hi']; exact hz) (by rw [List.length_append] at hi ⊢; simpa using hi)
    · rw [List.length_append] at hi; simp at hi
  · rw [List.getLast?_concat] at hz
    cases hz
    rw [hF, endV_snoc]
    exact ⟨(fun e => by cases e), fun _ => rfl, hl3, hl4, hl5⟩
  · rw [hF, endV_snoc]
    have := h.low; show 0 ≤ x.ver ∧ x.ver ≤ N + 1; omega
theorem LInv.mark {now N : Int} {o f : ByteArray} {pend : Bool} {ls : List Life} (h : LInv now N o f pend ls) (hne : ls ≠ []) : LInv now (N + 1) o f false (markLast now ls) := by
  unfold markLast
  cases hl : ls.getLast? with
  | none => exact absurd (List.getLast?_eq_none_iff.1 hl) hne
  | some x =>
    obtain ⟨xs, rfl⟩ := last_split hl
    dsimp only
    cases hg : x.gone with
    | true =>
      rw [if_pos rfl]
      cases hp : pend with
      | true => have := ((h.last x hl).1 hp).1; rw [hg] at this; cases this
      | false => rw [hp] at h; exact h.later (Int.le_refl _) (by omega)
    | false =>
      rw [if_neg (by decide), set_last]
      exact h.marked
/-- a life more -/
theorem LInv.begin {now N : Int} {o f : ByteArray} {ls : List Life} (h : LInv now N o f false ls) (hon : lifeOn ls = none) (hn : ls ≠ []) (ho : nameR o = true) (hf : nameR f = true) (hN : N + 1 < 18446744073709551616) : LInv now N o f true (ls ++ [⟨[], [], false, ⟨o, f, 0, [], []⟩, nextVer ls⟩]) := by
  cases hl : ls.getLast? with
  | none => exact absurd (List.getLast?_eq_none_iff.1 hl) hn
  | some y =>
    have hgy : y.gone = true := by
      unfold lifeOn at hon
      rw [hl] at hon
      dsimp only at hon
      cases hg : y.gone with
      | true => rfl
      | false => rw [hg, if_neg (by decide)] at hon; cases hon
    obtain ⟨xs, rfl⟩ := last_split hl
    have hyv : y.ver = endV 0 (Fl (xs ++ [y])) := ((h.last y hl).2.1) rfl
    have hnv : nextVer (xs ++ [y]) = endV 0 (Fl (xs ++ [y])) + 1 := by
      unfold nextVer
      rw [hl]
      dsimp only
      rw [hyv, IntKind.wrap_u64]
      have := h.low; omega
    have hF : Fl ((xs ++ [y]) ++ [⟨[], [], false, ⟨o, f, 0, [], []⟩, nextVer (xs ++ [y])⟩]) = Fl (xs ++ [y]) := by rw [Fl_app, Fl_one, List.append_nil]
    refine ⟨by rw [hF]; exact h.all, by rw [hF]; exact h.time, fun i z hz he => ?_, fun i z m hz he => ?_, fun i z hz hi => ?_, fun z hz => ?_, by rw [hF]; exact h.low⟩
    · rcases get_last hz with ⟨hi, hz⟩ | ⟨rfl, rfl⟩
      · exact absurd (h.ne i z hz he).1 (by decide)
      · exact ⟨rfl, by simp⟩
    · rcases get_last hz with ⟨hi, hz⟩ | ⟨rfl, rfl⟩
      · have := h.hd i z m hz he
        rw [List.take_append_of_le_length (by omega)]
        exact this
      · cases he
    · rcases get_last hz with ⟨hi', hz⟩ | ⟨rfl, rfl⟩
      · by_cases hlt : i + 1 < (xs ++ [y]).length
        · exact h.gone i z hz hlt
        · have : i = xs.length := by rw [List.length_append, List.length_singleton] at hlt hi'; omega
          subst this
          rw [List.getElem?_append_right (Nat.le_refl _), Nat.sub_self] at hz
          cases hz; exact hgy
      · rw [List.length_append] at hi; simp at hi
    · rw [List.getLast?_concat] at hz
      cases hz
      rw [hF]
      exact ⟨fun _ => ⟨rfl, hnv⟩, (fun e => by cases e), rfl, rfl, right_new ho hf⟩
theorem LInv.first (now N : Int) (o f : ByteArray) (ho : nameR o = true) (hf : nameR f = true) (hn : 0 ≤ now) (hN : 0 ≤ N) : LInv now N o f true [⟨[], [], false, ⟨o, f, 0, [], []⟩, 1⟩] := by
  refine ⟨(fun k m h => by cases h), hn, fun i z hz he => ?_, fun i z m hz he => ?_, fun i z hz hi => ?_, fun z hz => ?_, Int.le_refl _, hN⟩
  · have := (List.getElem?_eq_some_iff.1 hz).1
    exact ⟨rfl, by simp at this; rw [this]; rfl⟩
  · have h0 := (List.getElem?_eq_some_iff.1 hz).1
    simp at h0; subst h0; cases hz; cases he
  · simp at hi
  · cases hz
    exact ⟨fun _ => ⟨rfl, rfl⟩, (fun e => by cases e), rfl, rfl, right_new ho hf⟩
/-- words do not count -/
def Life.core (x : Life) : Life := { x with words := [] }
theorem Fl_core (ls : List Life) : Fl (ls.map Life.core) = Fl ls := by unfold Fl; rw [List.flatMap_map]; rfl
theorem LInv.core_iff {now N : Int} {o f : ByteArray} {pend : Bool} {ls : List Life} : LInv now N o f pend (ls.map Life.core) ↔ LInv now N o f pend ls := by
  have hg : ∀ (i : Nat) (x : Life), ls[i]? = some x → (ls.map Life.core)[i]? = some x.core := fun i x h => by rw [List.getElem?_map, h]; rfl
  have hg' : ∀ (i : Nat) (y : Life), (ls.map Life.core)[i]? = some y → ∃ x : Life, ls[i]? = some x ∧ y = x.core := fun i y h => by
    rw [List.getElem?_map] at h
    cases hx : ls[i]? with
    | none => rw [hx] at h; cases h
    | some x => rw [hx] at h; cases h; exact ⟨x, rfl, rfl⟩
  constructor
  · rintro ⟨a, b, c, d, e, g, l⟩
    rw [Fl_core] at a b l
    refine ⟨a, b, fun i x hx hm => ?_, fun i x m hx hm => ?_, fun i x hx hi => ?_, fun x hx => ?_, l⟩
    · have := c i x.core (hg i x hx) hm; rwa [List.length_map] at this
    · have := d i x.core m (hg i x hx) hm; rwa [← List.map_take, Fl_core] at this
    · exact e i x.core (hg i x hx) (by rwa [List.length_map])
    · have := g x.core (by rw [List.getLast?_map, hx]; rfl); rwa [Fl_core] at this
  · rintro ⟨a, b, c, d, e, g, l⟩
    refine ⟨by rwa [Fl_core], by rwa [Fl_core], fun i y hy hm => ?_, fun i y m hy hm => ?_, fun i y hy hi => ?_, fun y hy => ?_, by rwa [Fl_core]⟩
    · obtain ⟨x, hx, rfl⟩ := hg' i y hy
      have := c i x hx hm; rwa [List.length_map]
    · obtain ⟨x, hx, rfl⟩ := hg' i y hy
      have := d i x m hx hm; rwa [← List.map_take, Fl_core]
    · obtain ⟨x, hx, rfl⟩ := hg' i y hy
      exact e i x hx (by rwa [List.length_map] at hi)
    · rw [List.getLast?_map] at hy
      cases hx : ls.getLast? with
      | none => rw [hx] at hy; cases hy
      | some x => rw [hx] at hy; cases hy; rw [Fl_core]; exact g x hx

/-! ### a ledger -/
def PInv (now N : Int) (P : PLed) : Prop := ∀ k ls, aget P k = some ls → ∃ o f, k = pathB o f ∧ nameR o = true ∧ nameR f = true ∧ ls ≠ [] ∧ LInv now N o f false ls
def PInv' (now N : Int) (K : ByteArray) (P : PLed) : Prop := ∀ k ls, aget P k = some ls → ∃ o f pend, k = pathB o f ∧ nameR o = true ∧ nameR f = true ∧ ls ≠ [] ∧ LInv now N o f pend ls ∧ (pend = true → k = K)
theorem PInv.later {now now' N N' : Int} {P : PLed} (h : PInv now N P) (hn : now ≤ now') (hN : N ≤ N') : PInv now' N' P := fun k ls hk => by
  obtain ⟨o, f, a, b, c, d, e⟩ := h k ls hk
  exact ⟨o, f, a, b, c, d, e.later hn hN⟩
theorem PInv.pend {now N : Int} {P : PLed} (h : PInv now N P) (K : ByteArray) : PInv' now N K P := fun k ls hk => by
  obtain ⟨o, f, a, b, c, d, e⟩ := h k ls hk
  exact ⟨o, f, false, a, b, c, d, e, fun e => by cases e⟩
theorem PInv'.put {now N : Int} {K : ByteArray} {P : PLed} (h : PInv' now N K P) {ls : List Life} {o f : ByteArray} {pend : Bool} (hK : K = pathB o f) (ho : nameR o = true) (hf : nameR f = true) (hne : ls ≠ []) (hi : LInv now N o f pend ls) : PInv' now N K (aput P K ls) := by
  intro k l hk
  rw [aget_aput] at hk
  by_cases e : k = K
  · rw [if_pos e] at hk
    cases hk
    exact ⟨o, f, pend, e.trans hK, ho, hf, hne, hi, fun _ => e⟩
  · rw [if_neg e] at hk
    exact h k l hk
theorem PInv'.mark {now N : Int} {who file : ByteArray} {P : PLed} (h : PInv' now N (pathB who file) P) : PInv now (N + 1) (markP now who P) := by
  intro k ls hk
  rw [aget_markP] at hk
  cases hp : aget P k with
  | none => rw [hp] at hk; cases hk
  | some l =>
    rw [hp] at hk
    cases hk
    obtain ⟨o, f, pend, a, b, c, d, e, g⟩ := h k l hp
    refine ⟨o, f, a, b, c, ?_, ?_⟩
    · unfold markIn
      split
      · unfold markLast
        cases hl : l.getLast? with
        | none => exact d
        | some x =>
          dsimp only
          split
          · exact d
          · intro e0
            have := congrArg List.length e0
            rw [List.length_set] at this
            exact d (List.eq_nil_of_length_eq_zero this)
      · exact d
    · unfold markIn
      by_cases hpre : Lib.hasPrefix k.data.toList (who ++ slash).data.toList = true
      · rw [if_pos hpre]; exact e.mark d
      · rw [if_neg hpre]
        cases hpd : pend with
        | true =>
          have := g hpd
          rw [this] at hpre
          exact absurd (path_prefix who file) hpre
        | false => rw [hpd] at e; exact e.later (Int.le_refl _) (by omega)
theorem PLed.at_some {P : PLed} {k : ByteArray} {ls : List Life} (h : aget P k = some ls) : P.at k = ls := by unfold PLed.at; rw [h]; rfl
theorem PLed.at_none {P : PLed} {k : ByteArray} (h : aget P k = none) : P.at k = [] := by unfold PLed.at; rw [h]; rfl
theorem PInv.begin {now N : Int} {P : PLed} (h : PInv now N P) (o f : ByteArray) (hn : 0 ≤ now) (h0 : 0 ≤ N) (hN : N + 1 < 18446744073709551616) : PInv' now N (pathB o f) (beginP P o f) := by
  unfold beginP
  split
  · rename_i hc
    obtain ⟨h1, h2, h3⟩ := newR_ok hc.1
    rw [h3]
    refine (h.pend _).put rfl h1 h2 (by simp) (pend := true) ?_
    cases hk : aget P (pathB o f) with
    | none =>
      rw [PLed.at_none hk]
      exact LInv.first now N o f h1 h2 hn h0
    | some ls =>
      have hon := hc.2
      rw [PLed.at_some hk] at hon ⊢
      obtain ⟨o', f', a, b, c, d, e⟩ := h _ ls hk
      obtain ⟨rfl, rfl⟩ := path_inj b c a
      exact e.begin hon d h1 h2 hN
  · exact h.pend _
theorem PInv.swap {now N : Int} {P : PLed} (h : PInv now N P) {k : ByteArray} {x y : Life} (hon : lifeOn (P.at k) = some x) (hm : y.marks = x.marks) (pend : Bool) (hl : ∀ o f, x.ver = endV 0 (Fl (P.at k)) → x.r.owner = o → x.r.file = f → x.r.right = true → 0 ≤ endV 0 (Fl (P.at k)) ∧ endV 0 (Fl (P.at k)) ≤ N → (pend = true → y.gone = false ∧ y.ver = endV 0 (Fl (P.at k)) + 1) ∧ (pend = false → y.ver = endV 0 (Fl (P.at k))) ∧ y.r.owner = o ∧ y.r.file = f ∧ y.r.right = true) : PInv' now N k (aput P k ((P.at k).set ((P.at k).length - 1) y)) := by
  obtain ⟨hlast, hgone⟩ := lifeOn_last hon
  cases hk : aget P k with
  | none => rw [PLed.at_none hk] at hlast; cases hlast
  | some ls =>
    rw [PLed.at_some hk] at hlast hl ⊢
    obtain ⟨o, f, a, b, c, d, e⟩ := h k ls hk
    obtain ⟨q1, q2, q3, q4, q5⟩ := e.last x hlast
    have hh := hl o f (q2 rfl) q3 q4 q5 e.low
    obtain ⟨xs, rfl⟩ := last_split hlast
    rw [set_last]
    refine (h.pend k).put a b c (by simp) (pend := pend) (e.swap hm (fun hx => ?_) hh)
    exact absurd (e.ne xs.length x (by simp) hx).1 (by decide)
theorem PInv.change {now N : Int} {P : PLed} (h : PInv now N P) (s : StA) (hN : N + 1 < 18446744073709551616) : PInv' now N (pathB s.who s.file) (changeP P s) := by
  unfold changeP
  cases hon : lifeOn (P.at (pathB s.who s.file)) with
  | none => exact h.pend _
  | some x =>
    dsimp only
    split
    · rename_i hc
      obtain ⟨r1, r2, r3⟩ := rtDo_ok hc
      refine h.swap hon rfl true fun o f hv ho hf hr hlow => ⟨fun _ => ⟨(lifeOn_last hon).2, ?_⟩, (fun e => by cases e), r2.trans ho, r3.trans hf, r1⟩
      show IntKind.u64.wrap (x.ver + 1) = _
      rw [hv, IntKind.wrap_u64]; omega
    · exact h.pend _
theorem PInv.goneP {now N : Int} {P : PLed} (h : PInv now N P) (k : ByteArray) : PInv' now N k (goneP P k) := by
  unfold Go.Proofs.YtgacfkenndhcnaaDoor.goneP
  cases hon : lifeOn (P.at k) with
  | none => exact h.pend _
  | some x => exact h.swap hon rfl false fun o f hv ho hf hr hlow => ⟨(fun e => by cases e), fun _ => hv, ho, hf, hr⟩
theorem PInv.words {now N : Int} {P : PLed} (h : PInv now N P) (s : StA) : PInv now N (wordsP P s) := by
  unfold wordsP
  cases hi : (P.at (pathB s.owner s.file)).findIdx? (fun x => lifeHas x s.ver) with
  | none => exact h
  | some i =>
    dsimp only
    cases hk : aget P (pathB s.owner s.file) with
    | none => rw [PLed.at_none hk] at hi; cases hi
    | some ls =>
      rw [PLed.at_some hk]
      obtain ⟨o, f, a, b, c, d, e⟩ := h _ ls hk
      intro k l hl
      rw [aget_aput] at hl
      by_cases ek : k = pathB s.owner s.file
      · rw [if_pos ek] at hl
        cases hl
        refine ⟨o, f, ek.trans a, b, c, fun e0 => ?_, ?_⟩
        · have := congrArg List.length e0
          rw [List.length_modify] at this
          exact d (List.eq_nil_of_length_eq_zero this)
        · rw [← LInv.core_iff]
          have : (ls.modify i fun x => { x with words := x.words ++ [⟨s.who, s.text, s.epoch⟩] }).map Life.core = ls.map Life.core := by
            apply List.ext_getElem?
            intro j
            rw [List.getElem?_map, List.getElem?_modify, List.getElem?_map]
            cases ls[j]? with
            | none => rfl
            | some x =>
              simp only [Option.map_some]
              split <;> rfl
          rw [this, LInv.core_iff]; exact e
      · rw [if_neg ek] at hl; exact h k l hl
/-- a step, written down -/
structure NoteOk (S : PS) (N : Nat) (total : Int) : Prop where
  inv : PInv S.now N S.P
  low : 0 ≤ S.now
  top : S.now ≤ total
theorem NoteOk.step {S : PS} {N : Nat} {total : Int} (h : NoteOk S N total) (s : StA) (hN : N ≤ 1000) (ht : total + s.n < 18446744073709551616) : NoteOk (noteP S s) (N + 1) (total + s.n) := by
  have htop := h.top
  have hlow := h.low
  have hst : NoteOk S (N + 1) (total + s.n) := ⟨h.inv.later (Int.le_refl _) (by omega), hlow, by omega⟩
  unfold noteP
  split
  · exact hst
  split
  · have e : IntKind.u64.wrap (S.now + s.n) = S.now + s.n := by rw [IntKind.wrap_u64]; omega
    refine ⟨?_, ?_, ?_⟩ <;> dsimp only <;> rw [e]
    · exact h.inv.later (by omega) (by omega)
    · omega
    · omega
  split
  · exact ⟨hst.inv, hst.low, hst.top⟩
  split
  · exact ⟨hst.inv.words s, hst.low, hst.top⟩
  split
  · exact ⟨by have := (h.inv.begin s.who s.file hlow (by omega) (by omega)).mark; simpa using this, hst.low, hst.top⟩
  split
  · exact ⟨by have := (h.inv.change s (by omega)).mark; simpa using this, hst.low, hst.top⟩
  split
  · exact ⟨by have := (h.inv.goneP (pathB s.who s.file)).mark; simpa using this, hst.low, hst.top⟩
  split
  · exact ⟨by have := (h.inv.pend (pathB s.who s.file)).mark; simpa using this, hst.low, hst.top⟩
  · exact hst
theorem noteOk_new : NoteOk ⟨0, [], []⟩ 0 0 := ⟨fun k ls h => (by cases h), Int.le_refl _, Int.le_refl _⟩
/-- what AuditLives asks -/
theorem lives_law {S : PS} {N : Nat} {total : Int} (h : NoteOk S N total) (o f : ByteArray) : marksAll o f (Fl (S.P.at (pathB o f))) ∧ endT 0 (Fl (S.P.at (pathB o f))) ≤ S.now ∧ (∀ i x, (S.P.at (pathB o f))[i]? = some x → x.marks ≠ [] ∧ (∀ m, x.marks.head? = some m → m.v = endV 0 (Fl ((S.P.at (pathB o f)).take i)) + 1) ∧ (i + 1 < (S.P.at (pathB o f)).length → x.gone = true)) ∧ 0 ≤ endV 0 (Fl (S.P.at (pathB o f))) ∧ endV 0 (Fl (S.P.at (pathB o f))) ≤ N := by
  cases hk : aget S.P (pathB o f) with
  | none =>
    rw [PLed.at_none hk]
    exact ⟨(fun k m h => by cases h), h.low, (fun i x hx => by cases hx), Int.le_refl _, (by show (0 : Int) ≤ N; omega)⟩
  | some ls =>
    rw [PLed.at_some hk]
    obtain ⟨o', f', a, b, c, d, e⟩ := h.inv _ ls hk
    obtain ⟨rfl, rfl⟩ := path_inj b c a
    exact ⟨e.all, e.time, fun i x hx => ⟨fun hm => absurd (e.ne i x hx hm).1 (by decide), fun m hm => e.hd i x m hx hm, fun hi => e.gone i x hx hi⟩, e.low⟩
end Go.Proofs.YtgacfkenndhcnaaDoor
