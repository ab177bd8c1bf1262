/- meta: Take. -/
import Derived.Test.YtckblcfkajpofaaGreatDoorZC3
import Derived.Test.YtckblcfkajpofaaGreatDoorZA1
import Derived.Test.YtckblcfkajpofaaGreatDoorZA5
import Derived.Test.YtckblcfkajpofaaGreatDoorZA8
namespace Go.Proofs.YtckblcfkajpofaaGreatDoor
open Go.RowKit Go.Sort
set_option linter.unusedVariables false
set_option linter.unusedSimpArgs false

theorem info_mt : (Tryz.prog.info? 42).map (·.size) = some 9 := by kernel_rfl
theorem two_rows {l : List (List UInt8)} (h : l.length = 2) : l = [nthL l 0, nthL l 1] := by
  match l, h with
  | [a, b], _ => rfl
theorem four_rows {l : List (List UInt8)} (h : l.length = 4) : l = [nthL l 0, nthL l 1, nthL l 2, nthL l 3] := by
  match l, h with
  | [a, b, c, d], _ => rfl
abbrev zero9 : Array Value := #[.string ⟨#[]⟩, .string ⟨#[]⟩, .int .i64 0, .slice none 0 0, .slice none 0 0, .int .u64 0, .slice none 0 0, .slice none 0 0, .string ⟨#[]⟩]
def MTakeOut (w : World) (s : List UInt8) (e : Ending) (w' : World) : Prop := (match takeM s with
  | none => e = .returned (.tuple #[.agg zero9, .int .i64 2])
  | some m => ∃ vr vw vv vb, e = .returned (.tuple #[agM m vr vw vv vb, .int .i64 0]) ∧ MLists w' m vr vw vv vb) ∧ Below w.heap.size w w'
theorem strs.keep3 {F : Nat → Prop} {w w' : World} {v : Value} {l : List ByteArray} (h : strs w v l) (k : Keep F w w') (hn : l ≠ [] → ∀ b, v.ownBlock = some b → ¬ F b) : strs w' v l := by
  by_cases h0 : l = []
  · subst h0; obtain ⟨A, c, rfl, h1, h2, h3⟩ := h; exact ⟨A, c, rfl, h1, h2, fun h => absurd h (Nat.lt_irrefl 0)⟩
  · exact h.keep k (hn h0)
theorem strs.lt {w : World} {v : Value} {l : List ByteArray} (h : strs w v l) (h0 : l ≠ []) : ∀ g, v.ownBlock = some g → g < w.heap.size := fun g hg => by
  obtain ⟨A, c, rfl, h1, h2, h3⟩ := h
  obtain ⟨b, off, rfl, hc⟩ := h3 (List.length_pos_iff.2 h0)
  obtain ⟨x, hx⟩ : ∃ x, l[0]? = some x := ⟨_, List.getElem?_eq_getElem (List.length_pos_iff.2 h0)⟩
  have := World.block_lt_of_cell? w _ (hc 0 x hx)
  have e : b = g := Option.some.inj hg
  rw [← e]; exact this
/-- in Take's loop: what is taken so far -/
structure TkSt (w wr : World) (R Z Bs : Nat) (m : Mt) (vr vw vv vl : Value) (L : List ByteArray) (o : List (ByteArray × ByteArray)) (vb : Value) : Prop where
  res : wr.heap[R]? = some (.cells zero9 42 (0, 0))
  row : wr.heap[Z]? = some (.cells (mtCells { m with bl := o } vr vw vv vb) 42 (0, 0))
  rt : Lists wr m.r vr vw
  vf : strs wr vv m.vf
  ls : strs wr vl L
  own : wr.ownsRow Bs 93 2 vb o.length (pairV o)
  below : Below w.heap.size w wr
  ne : ∀ g, (vr.ownBlock = some g ∨ vw.ownBlock = some g ∨ vv.ownBlock = some g ∨ vl.ownBlock = some g) → g ≠ Z ∧ g ≠ R
  l1 : m.r.rd ≠ [] → ∀ g, vr.ownBlock = some g → g < Bs
  l2 : m.r.wr ≠ [] → ∀ g, vw.ownBlock = some g → g < Bs
  l3 : m.vf ≠ [] → ∀ g, vv.ownBlock = some g → g < Bs
  l4 : L ≠ [] → ∀ g, vl.ownBlock = some g → g < Bs
  zb : w.heap.size ≤ R ∧ R < Z ∧ Z < Bs ∧ Bs ≤ wr.heap.size
theorem TkSt.next {w wr w' : World} {R Z Bs : Nat} {m : Mt} {vr vw vv vl vb : Value} {L : List ByteArray} {o : List (ByteArray × ByteArray)} (h : TkSt w wr R Z Bs m vr vw vv vl L o vb) (k : Below wr.heap.size wr w') : TkSt w w' R Z Bs m vr vw vv vl L o vb :=
  ⟨(Keep.of_below k : Keep (fun _ => False) wr w').at h.res fun e => e, (Keep.of_below k : Keep (fun _ => False) wr w').at h.row fun e => e, h.rt.below k, h.vf.below k, h.ls.below k, own_below h.own k, h.below.trans (k.mono h.below.size), h.ne, h.l1, h.l2, h.l3, h.l4, ⟨h.zb.1, h.zb.2.1, h.zb.2.2.1, Nat.le_trans h.zb.2.2.2 k.size⟩⟩
theorem TkSt.push {w wr w' : World} {R Z Bs : Nat} {m : Mt} {vr vw vv vl vb v' : Value} {L : List ByteArray} {o o' : List (ByteArray × ByteArray)} (h : TkSt w wr R Z Bs m vr vw vv vl L o vb) (k : Keep (fun i => vb.ownBlock = some i) wr w') (ho : w'.ownsRow Bs 93 2 v' o'.length (pairV o')) :
    w'.heap[Z]? = some (.cells (mtCells { m with bl := o } vr vw vv vb) 42 (0, 0)) ∧ TkSt w (w'.setCell ⟨Z, 7, none⟩ v') R Z Bs m vr vw vv vl L o' v' := by
  obtain ⟨z1, z2, z3, z4⟩ := h.zb
  have hn : ∀ g, g < Bs → ¬ vb.ownBlock = some g := fun g hg e => by have := own_new h.own g e; omega
  have k2 : Keep (fun i => i = Z) w' (w'.setCell ⟨Z, 7, none⟩ v') := Keep.setCell (fun i => i = Z) w' (p := ⟨Z, 7, none⟩) rfl _
  have hz := k.at h.row (hn Z z3)
  refine ⟨hz, k2.at (k.at h.res (hn R (by omega))) (by omega), ?_, ⟨(h.rt.rd.keep3 k fun h0 g hg => hn g (h.l1 h0 g hg)).keep k2 fun g hg => (h.ne g (Or.inl hg)).1, (h.rt.wr.keep3 k fun h0 g hg => hn g (h.l2 h0 g hg)).keep k2 fun g hg => (h.ne g (Or.inr (Or.inl hg))).1⟩,
    (h.vf.keep3 k fun h0 g hg => hn g (h.l3 h0 g hg)).keep k2 fun g hg => (h.ne g (Or.inr (Or.inr (Or.inl hg)))).1, (h.ls.keep3 k fun h0 g hg => hn g (h.l4 h0 g hg)).keep k2 fun g hg => (h.ne g (Or.inr (Or.inr (Or.inr hg)))).1,
    k2.own ho (fun g hg e => by have := own_new ho g hg; omega), ?_, h.ne, h.l1, h.l2, h.l3, h.l4, ⟨z1, z2, z3, Nat.le_trans z4 (Nat.le_trans k.size k2.size)⟩⟩
  · rw [set_at hz]; rfl
  · exact (((Keep.of_below h.below : Keep (fun i => w.heap.size ≤ i) w wr).same (k.mono fun i hi => by have := own_new h.own i hi; omega)).same (k2.mono fun i hi => by have e : i = Z := hi; omega)).new
set_option maxRecDepth 100000 in
set_option maxHeartbeats 8000000 in
theorem mtake_calls (s : ByteArray) (w : World) (hs : s.size ≤ 1000000000) (hT : Tabs w) :
    Calls Tryz.prog 57 #[.string s] w (MTakeOut w (toL s)) := by
  have hwf := candM_wf (toL s)
  have hs2 := rowsL_small (toL s) 2
  have h2 := two_rows (rowsL_len (toL s) 2)
  obtain ⟨M, hM⟩ : ∃ M, candM (toL s) = M := ⟨_, rfl⟩
  have hTM : takeM (toL s) = if rightM M = true ∧ putM M = toL s then some M else none := by rw [← hM]; rfl
  obtain ⟨p0, hp0⟩ : ∃ p, nthL (rowsL (toL s) 2) 0 = p := ⟨_, rfl⟩
  obtain ⟨p1, hp1⟩ : ∃ p, nthL (rowsL (toL s) 2) 1 = p := ⟨_, rfl⟩
  have hs4 := rowsL_small p0 4
  have h4 := four_rows (rowsL_len p0 4)
  have eM : candM (toL s) = ⟨(takeR (nthL (rowsL p0 4) 0)).getD zeroRt, numOf (nthL (rowsL p0 4) 1), exL (wtakeAll (nthL (rowsL p0 4) 2) 8 90000), (exL (wtakeAll (nthL (rowsL p0 4) 3) 5 90000)).map fun row => blkOf (toL row), mkB p1⟩ := by rw [← hp0, ← hp1]; rfl
  obtain ⟨i0, hi0⟩ : ∃ p, nthL (rowsL p0 4) 0 = p := ⟨_, rfl⟩
  obtain ⟨i1, hi1⟩ : ∃ p, nthL (rowsL p0 4) 1 = p := ⟨_, rfl⟩
  obtain ⟨i2, hi2⟩ : ∃ p, nthL (rowsL p0 4) 2 = p := ⟨_, rfl⟩
  obtain ⟨i3, hi3⟩ : ∃ p, nthL (rowsL p0 4) 3 = p := ⟨_, rfl⟩
  rw [hp0, hp1] at h2
  rw [hi0, hi1, hi2, hi3] at h4 eM
  rw [h2] at hs2
  rw [h4] at hs4
  have hz0 : (mkB p0).size ≤ 90000 := by rw [mkB_size]; exact hs2 _ (by simp)
  have hy0 : (mkB i0).size ≤ 90000 := by rw [mkB_size]; exact hs4 _ (by simp)
  have hy1 : (mkB i1).size ≤ 90000 := by rw [mkB_size]; exact hs4 _ (by simp)
  have hy2 : (mkB i2).size ≤ 90000 := by rw [mkB_size]; exact hs4 _ (by simp)
  have hy3 : (mkB i3).size ≤ 90000 := by rw [mkB_size]; exact hs4 _ (by simp)
  have hC1 := fun W => mrows_calls s 2 W hs (by omega) (by omega)
  rw [h2] at hC1
  have hC2 := fun W => mrows_calls (mkB p0) 4 W (by omega) (by omega) (by omega)
  rw [toL_mkB, h4] at hC2
  have hC3 := fun W (h : Tabs W) => rtake_calls (mkB i0) W (by omega) h
  have hC4 := fun W => wtake_calls (mkB i1) W (by omega)
  have hC5 := fun W => takeall_calls (mkB i2) 8 90000 W (by omega) (by omega) (by omega)
  have hC6 := fun W => takeall_calls (mkB i3) 5 90000 W (by omega) (by omega) (by omega)
  rw [toL_mkB] at hC3 hC4 hC5 hC6
  obtain ⟨rc, ec, htv⟩ := takeV_form i1
  rw [htv] at hC4
  have hx2 := exL_small i2 8 90000 (by omega) (by omega)
  have hx3 := exL_small i3 5 90000 (by omega) (by omega)
  obtain ⟨VF, hVF⟩ : ∃ l, exL (wtakeAll i2 8 90000) = l := ⟨_, rfl⟩
  obtain ⟨L, hL⟩ : ∃ l, exL (wtakeAll i3 5 90000) = l := ⟨_, rfl⟩
  rw [hVF] at hC5 eM hx2
  rw [hL] at hC6 eM hx3
  obtain ⟨nv, hnv⟩ : ∃ n, numOf i1 = n := ⟨_, rfl⟩
  rw [hnv] at hC4 eM
  obtain ⟨rr, hrr⟩ : ∃ r, (takeR i0).getD zeroRt = r := ⟨_, rfl⟩
  rw [hrr] at eM
  rw [hM] at eM hwf
  have hC3' : ∀ W, Tabs W → Calls Tryz.prog 165 #[.string (mkB i0)] W fun e w' => (∃ vr vw er, e = .returned (.tuple #[agR rr vr vw, .int .i64 er]) ∧ Lists w' rr vr vw ∧ ∀ g, (vr.ownBlock = some g ∨ vw.ownBlock = some g) → W.heap.size ≤ g) ∧ Below W.heap.size W w' := fun W h => (hC3 W h).mono fun e w' ⟨h1, h2⟩ => by
    refine ⟨?_, h2⟩
    cases ht : takeR i0 with
    | none =>
      rw [ht] at h1 hrr
      subst hrr
      exact ⟨.slice none 0 0, .slice none 0 0, 2, h1, ⟨strs_nil _, strs_nil _⟩, fun g hg => by simp [Value.ownBlock] at hg⟩
    | some r =>
      rw [ht] at h1 hrr
      obtain ⟨vr, vw, e1, e2, e3⟩ := h1
      have hrr' : r = rr := hrr
      subst hrr'
      exact ⟨vr, vw, 0, e1, e2, e3⟩
  have H1 := Lib.hid hC1
  have H2 := Lib.hid hC2
  have H3 := Lib.hid hC3'
  have H4 := Lib.hid hC4
  have H5 := Lib.hid hC5
  have H6 := Lib.hid hC6
  have HT := Lib.hid hT
  have HTM := Lib.hid hTM
  have EM := Lib.hid eM
  have HWF := Lib.hid hwf
  have HX3 := Lib.hid hx3
  obtain ⟨P0, hP0⟩ : ∃ P, mkB p0 = P := ⟨_, rfl⟩
  obtain ⟨P1, hP1⟩ : ∃ P, mkB p1 = P := ⟨_, rfl⟩
  obtain ⟨I0, hI0⟩ : ∃ P, mkB i0 = P := ⟨_, rfl⟩
  obtain ⟨I1, hI1⟩ : ∃ P, mkB i1 = P := ⟨_, rfl⟩
  obtain ⟨I2, hI2⟩ : ∃ P, mkB i2 = P := ⟨_, rfl⟩
  obtain ⟨I3, hI3⟩ : ∃ P, mkB i3 = P := ⟨_, rfl⟩
  simp only [List.map_cons, List.map_nil, hP0, hP1] at H1
  simp only [List.map_cons, List.map_nil, hP0, hI0, hI1, hI2, hI3] at H2
  rw [hI0] at H3
  rw [hI1] at H4
  rw [hI2] at H5
  rw [hI3] at H6
  rw [hP1] at EM
  obtain ⟨R, hR⟩ : ∃ R, w.heap.size = R := ⟨_, rfl⟩
  obtain ⟨W0, hW0⟩ : ∃ W0, w.alloc (.cells zero9 42) = W0 := ⟨_, rfl⟩
  have hb0 : Below w.heap.size w W0 := by rw [← hW0]; exact (Below.refl _ w).alloc (Nat.le_refl _) _
  have hr0 : W0.heap[R]? = some (.cells zero9 42 (0, 0)) := by rw [← hW0, ← hR, get_alloc, if_pos rfl]
  have HRW := Lib.hid hR
  have HB0 := Lib.hid hb0
  have HR0 := Lib.hid hr0
  clear hwf hs2 h2 hM hTM hp0 hp1 hs4 h4 eM hi0 hi1 hi2 hi3 hz0 hy0 hy1 hy2 hy3 hC1 hC2 hC3 hC3' hC4 hC5 hC6 htv hx2 hx3 hVF hL hnv hrr hP0 hP1 hI0 hI1 hI2 hI3 hb0 hr0 hT
  go_enter Tryz.func57, Tryz.ntmps57
  go_wp2_with fail
  refine (H1.out _).mono ?_
  rintro e w1 ⟨v1, rfl, ho1, hb1⟩
  obtain ⟨g1, k1, rfl, _, hc1⟩ := own_block ho1 (by omega)
  have a0 := (hc1 0 _ rfl).1
  have a1 := (hc1 1 _ rfl).1
  have HO1 := Lib.hid ho1
  have HB1 := Lib.hid (HB0.out.trans (hb1.mono HB0.out.size))
  have HR1 := Lib.hid ((Keep.of_below hb1 : Keep (fun _ => False) W0 w1).at HR0.out fun e => e)
  clear ho1 hb1 hc1
  go_wp2_with fail
  refine (H2.out _).mono ?_
  rintro e w2 ⟨v2, rfl, ho2, hb2⟩
  have hgl2 := own_block ho2 (by omega)
  obtain ⟨g2, k2, rfl, _, _⟩ := hgl2
  have ho1 := own_below HO1.out hb2
  clear a0 a1
  obtain ⟨g1', k1', e1, _, hc1⟩ := own_block ho1 (by omega)
  cases e1
  have a1 := (hc1 1 _ rfl).1
  have HO2 := Lib.hid ho2
  have HB2 := Lib.hid (HB1.out.trans (hb2.mono HB1.out.size))
  have HR2 := Lib.hid ((Keep.of_below hb2 : Keep (fun _ => False) w1 w2).at HR1.out fun e => e)
  clear ho2 hb2 hc1 ho1
  go_wp2_with (with_reducible refine wp_stop_store (o := ⟨none, .store _ (.tmp 6) _, _, _, _, _⟩) _ _ _ rfl ?_)
  unfold Stop
  refine wp_store_all rfl _ _ _ rfl rfl rfl _ _ ((get_alloc _ _ _).trans (if_pos rfl)) info_mt rfl (by simp [Value.oneCell']) ?_
  intro w3 h3 k3 s3
  obtain ⟨Z, hZ⟩ : ∃ Z, w2.heap.size = Z := ⟨_, rfl⟩
  have hb23 : Below w2.heap.size w2 w3 := below_at ((Below.refl _ w2).alloc (Nat.le_refl _) _) k3 (Nat.le_refl _)
  have HB3 := Lib.hid (HB2.out.trans (hb23.mono HB2.out.size))
  have HR3 := Lib.hid ((Keep.of_below hb23 : Keep (fun _ => False) w2 w3).at HR2.out fun e => e)
  have HO3 := Lib.hid (own_below HO2.out hb23)
  have hzr : R < Z := by rw [← hZ]; exact (Array.getElem?_eq_some_iff.1 HR2.out).1
  have hz3 : Z < w3.heap.size := by rw [← hZ]; exact (Array.getElem?_eq_some_iff.1 h3).1
  rw [hZ] at h3 ⊢
  have HZ3 := Lib.hid h3
  clear hb23 h3 k3 s3 a1
  obtain ⟨g2x, k2x, e2, _, hc2⟩ := own_block HO3.out (by omega)
  cases e2
  have a0 := (hc2 0 _ rfl).1
  clear hc2
  go_wp2_with fail
  refine (H3.out _ (HT.out.below HB3.out)).mono ?_
  rintro e w4 ⟨⟨vr, vw, er, rfl, hl4, hn4⟩, hb4⟩
  obtain ⟨A4, ca4, rfl, _, _⟩ := hl4.rd.form
  obtain ⟨C4, cb4, rfl, _, _⟩ := hl4.wr.form
  have HB4 := Lib.hid (HB3.out.trans (hb4.mono HB3.out.size))
  have HR4 := Lib.hid ((Keep.of_below hb4 : Keep (fun _ => False) _ w4).at HR3.out fun e => e)
  have HO4 := Lib.hid (own_below HO3.out hb4)
  have HZ4 := Lib.hid ((Keep.of_below hb4 : Keep (fun _ => False) _ w4).at HZ3.out fun e => e)
  have HL4 := Lib.hid hl4
  have HN4 : Hid (∀ g, ((Value.slice A4 rr.rd.length ca4).ownBlock = some g ∨ (Value.slice C4 rr.wr.length cb4).ownBlock = some g) → w3.heap.size ≤ g ∧ ¬ g = Z) := Lib.hid (fun g hg => ⟨hn4 g hg, by have := hn4 g hg; omega⟩)
  have HM4 : Hid (∀ g, ((Value.slice A4 rr.rd.length ca4).ownBlock = some g ∨ (Value.slice C4 rr.wr.length cb4).ownBlock = some g) → True) := Lib.hid (fun _ _ => trivial)
  clear hl4 hn4 hb4 a0
  go_wp2_with (with_reducible refine wp_stop_store (o := ⟨none, .store _ (.tmp 31) _, _, _, _, _⟩) _ _ _ rfl ?_)
  unfold Stop
  refine wp_store_row rfl _ _ _ rfl rfl rfl _ _ HZ4.out info_rt (by simp) (by simp [Value.oneCell']) ?_
  intro w5 h5 k5 s5
  have HZ5 : Hid (w5.heap[Z]? = some (.cells #[.string rr.owner, .string rr.file, .int .i64 rr.epoch, .slice A4 rr.rd.length ca4, .slice C4 rr.wr.length cb4, .int .u64 0, .slice none 0 0, .slice none 0 0, .string P1] 42 (0, 0))) := Lib.hid h5
  have HR5 := Lib.hid (k5.at HR4.out (by omega))
  have HO5 := Lib.hid (k5.own HO4.out fun g hg => own_ne_type HO4.out HZ4.out (by decide) hg)
  have HL5 : Hid (Lists w5 rr _ _) := Lib.hid ⟨HL4.out.rd.keep k5 fun g hg => (HN4.out g (Or.inl hg)).2, HL4.out.wr.keep k5 fun g hg => (HN4.out g (Or.inr hg)).2⟩
  have HB5 : Hid (Below w.heap.size w w5) := Lib.hid (((Keep.of_below HB4.out : Keep (fun i => w.heap.size ≤ i) w w4).same (k5.mono fun i hi => by have e : i = Z := hi; omega)).new)
  clear h5 k5 s5
  obtain ⟨g2x, k2x, e2, _, hc2⟩ := own_block HO5.out (by omega)
  cases e2
  have a1 := (hc2 1 _ rfl).1
  clear hc2
  go_wp2_with fail
  refine (H4.out _).mono ?_
  rintro e w6 ⟨rfl, hb6⟩
  have HB6 := Lib.hid (HB5.out.trans (hb6.mono HB5.out.size))
  have HR6 := Lib.hid ((Keep.of_below hb6 : Keep (fun _ => False) _ w6).at HR5.out fun e => e)
  have HO6 := Lib.hid (own_below HO5.out hb6)
  have HZ6 := Lib.hid ((Keep.of_below hb6 : Keep (fun _ => False) _ w6).at HZ5.out fun e => e)
  have HL6 : Hid (Lists w6 rr _ _) := Lib.hid (HL5.out.below hb6)
  clear hb6 a1
  have hf6 := frozen_of_row HZ6.out 5
  have hq6 : w6.cell? ⟨Z, 5, none⟩ = some (.int .u64 0) := by rw [cell_of_row _ _ _ _ _ _ HZ6.out]; rfl
  obtain ⟨w7, hw7⟩ : ∃ W, w6.setCell ⟨Z, 5, none⟩ (.int .u64 (nv : Int)) = W := ⟨_, rfl⟩
  have k7 : Keep (fun i => i = Z) w6 w7 := by rw [← hw7]; exact Keep.setCell (fun i => i = Z) w6 (p := ⟨Z, 5, none⟩) rfl _
  have HZ7 : Hid (w7.heap[Z]? = some (.cells #[.string rr.owner, .string rr.file, .int .i64 rr.epoch, .slice A4 rr.rd.length ca4, .slice C4 rr.wr.length cb4, .int .u64 (nv : Int), .slice none 0 0, .slice none 0 0, .string P1] 42 (0, 0))) := Lib.hid (by rw [← hw7, set_at HZ6.out]; rfl)
  have HR7 := Lib.hid (k7.at HR6.out (by omega))
  have HO7 := Lib.hid (k7.own HO6.out fun g hg => own_ne_type HO6.out HZ6.out (by decide) hg)
  have HL7 : Hid (Lists w7 rr _ _) := Lib.hid ⟨HL6.out.rd.keep k7 fun g hg => (HN4.out g (Or.inl hg)).2, HL6.out.wr.keep k7 fun g hg => (HN4.out g (Or.inr hg)).2⟩
  have HB7 : Hid (Below w.heap.size w w7) := Lib.hid (((Keep.of_below HB6.out : Keep (fun i => w.heap.size ≤ i) w w6).same (k7.mono fun i hi => by have e : i = Z := hi; omega)).new)
  have HS7 : Hid (w6.heap.size ≤ w7.heap.size) := Lib.hid k7.size
  clear k7
  obtain ⟨g2x, k2x, e2, _, hc2⟩ := own_block HO7.out (by omega)
  cases e2
  have a2 := (hc2 2 _ rfl).1
  clear hc2
  go_wp2_with fail
  refine (H5.out _).mono ?_
  rintro e w8 ⟨v8, rfl, ho8, hb8⟩
  obtain ⟨A8, ca8, rfl, _, _⟩ := own_slice ho8
  have HB8 := Lib.hid (HB7.out.trans (hb8.mono HB7.out.size))
  have HR8 := Lib.hid ((Keep.of_below hb8 : Keep (fun _ => False) _ w8).at HR7.out fun e => e)
  have HO8 := Lib.hid (own_below HO7.out hb8)
  have HZ8 := Lib.hid ((Keep.of_below hb8 : Keep (fun _ => False) _ w8).at HZ7.out fun e => e)
  have HL8 : Hid (Lists w8 rr _ _) := Lib.hid (HL7.out.below hb8)
  have HV8 := Lib.hid ho8
  clear hb8 ho8 a2 hw7 hf6 hq6
  have hf8 := frozen_of_row HZ8.out 6
  have hq8 : w8.cell? ⟨Z, 6, none⟩ = some (.slice none 0 0) := by rw [cell_of_row _ _ _ _ _ _ HZ8.out]; rfl
  obtain ⟨w9, hw9⟩ : ∃ W, w8.setCell ⟨Z, 6, none⟩ (.slice A8 VF.length ca8) = W := ⟨_, rfl⟩
  have k9 : Keep (fun i => i = Z) w8 w9 := by rw [← hw9]; exact Keep.setCell (fun i => i = Z) w8 (p := ⟨Z, 6, none⟩) rfl _
  have HZ9 : Hid (w9.heap[Z]? = some (.cells #[.string rr.owner, .string rr.file, .int .i64 rr.epoch, .slice A4 rr.rd.length ca4, .slice C4 rr.wr.length cb4, .int .u64 (nv : Int), .slice A8 VF.length ca8, .slice none 0 0, .string P1] 42 (0, 0))) := Lib.hid (by rw [← hw9, set_at HZ8.out]; rfl)
  have HR9 := Lib.hid (k9.at HR8.out (by omega))
  have HO9 := Lib.hid (k9.own HO8.out fun g hg => own_ne_type HO8.out HZ8.out (by decide) hg)
  have HL9 : Hid (Lists w9 rr _ _) := Lib.hid ⟨HL8.out.rd.keep k9 fun g hg => (HN4.out g (Or.inl hg)).2, HL8.out.wr.keep k9 fun g hg => (HN4.out g (Or.inr hg)).2⟩
  have HB9 : Hid (Below w.heap.size w w9) := Lib.hid (((Keep.of_below HB8.out : Keep (fun i => w.heap.size ≤ i) w w8).same (k9.mono fun i hi => by have e : i = Z := hi; omega)).new)
  have HS9 : Hid (w8.heap.size ≤ w9.heap.size) := Lib.hid k9.size
  have HV9 := Lib.hid (k9.own HV8.out fun g hg => own_ne_type HV8.out HZ8.out (by decide) hg)
  clear k9
  obtain ⟨g2x, k2x, e2, _, hc2⟩ := own_block HO9.out (by omega)
  cases e2
  have a3 := (hc2 3 _ rfl).1
  clear hc2
  go_wp2_with fail
  refine (H6.out _).mono ?_
  rintro e w10 ⟨v10, rfl, ho10, hb10⟩
  obtain ⟨A10, ca10, rfl, _, _⟩ := own_slice ho10
  have HB10 := Lib.hid (HB9.out.trans (hb10.mono HB9.out.size))
  have HR10 := Lib.hid ((Keep.of_below hb10 : Keep (fun _ => False) _ w10).at HR9.out fun e => e)
  have HO10 := Lib.hid (own_below HO9.out hb10)
  have HZ10 := Lib.hid ((Keep.of_below hb10 : Keep (fun _ => False) _ w10).at HZ9.out fun e => e)
  have HL10 : Hid (Lists w10 rr _ _) := Lib.hid (HL9.out.below hb10)
  have HV10 := Lib.hid (own_below HV9.out hb10)
  have HW10 := Lib.hid ho10
  have hneZ : ∀ g, ((Value.slice A4 rr.rd.length ca4).ownBlock = some g ∨ (Value.slice C4 rr.wr.length cb4).ownBlock = some g ∨ (Value.slice A8 VF.length ca8).ownBlock = some g ∨ (Value.slice A10 L.length ca10).ownBlock = some g) → g ≠ Z ∧ g ≠ R := fun g hg => by
    rcases hg with hg | hg | hg | hg
    · exact ⟨(HN4.out g (Or.inl hg)).2, by have := (HN4.out g (Or.inl hg)).1; omega⟩
    · exact ⟨(HN4.out g (Or.inr hg)).2, by have := (HN4.out g (Or.inr hg)).1; omega⟩
    · exact ⟨own_ne_type HV10.out HZ10.out (by decide) hg, own_ne_type HV10.out HR10.out (by decide) hg⟩
    · exact ⟨own_ne_type HW10.out HZ10.out (by decide) hg, own_ne_type HW10.out HR10.out (by decide) hg⟩
  have hvf10 := strs_own HV10.out
  have hls10 := strs_own HW10.out
  have hzz : Z < w10.heap.size := (Array.getElem?_eq_some_iff.1 HZ10.out).1
  have hst : TkSt w w10 R Z w10.heap.size M (.slice A4 rr.rd.length ca4) (.slice C4 rr.wr.length cb4) (.slice A8 VF.length ca8) (.slice A10 L.length ca10) L [] (.slice none 0 0) := by
    have hrt := HL10.out
    have hrow := HZ10.out
    rw [EM.out]
    exact ⟨HR10.out, hrow, hrt, hvf10, hls10, World.ownsRow_nil _ _ _ _, HB10.out, hneZ, fun h0 => hrt.rd.lt h0, fun h0 => hrt.wr.lt h0, fun h0 => hvf10.lt h0, fun h0 => hls10.lt h0, ⟨Nat.le_of_eq HRW.out, hzr, hzz, Nat.le_refl _⟩⟩
  have HST := Lib.hid hst
  have HBL : Hid (M.bl = L.map fun row => blkOf (toL row)) := Lib.hid (by rw [EM.out])
  obtain ⟨n, hn⟩ : ∃ n, L.length = n := ⟨_, rfl⟩
  have hn5 : n ≤ 5 := by have := HX3.out.1; omega
  have HLN := Lib.hid hn
  obtain ⟨Bs, hBs⟩ : ∃ B, w10.heap.size = B := ⟨_, rfl⟩
  rw [hBs] at HST
  clear hb10 ho10 a3 hw9 hf8 hq8 hneZ hvf10 hls10 hst hBs hzz
  rw [hn] at HST HW10 ⊢
  clear hn
  go_wp2_with fail
  go_loopw [58] (fun i wr => ∃ (k : Nat) (o : List (ByteArray × ByteArray)) (vb : Value), k ≤ n ∧ i = .int .i64 k ∧ o.length = k ∧ Hid (o = (L.take k).map fun row => blkOf (toL row)) ∧ Hid (TkSt w wr R Z Bs M (.slice A4 rr.rd.length ca4) (.slice C4 rr.wr.length cb4) (.slice A8 VF.length ca8) (.slice A10 n ca10) L o vb)) (fun i _ => n - (intOf i).toNat)
  case atStart => exact ⟨0, [], _, Nat.zero_le _, rfl, rfl, Lib.hid rfl, HST⟩
  case round =>
    obtain ⟨k, o, vb, hk, rfl, hol, HE, HK⟩ := hrel
    by_cases hlt : k < n
    · obtain ⟨x, hx⟩ : ∃ x, L[k]? = some x := ⟨_, List.getElem?_eq_getElem (by rw [HLN.out]; exact hlt)⟩
      obtain ⟨g3, off3, c3, hv3, _, _, hcx⟩ := HK.out.ls.cell hx
      obtain ⟨rfl, hnn, rfl⟩ : A10 = some ⟨g3, off3, none⟩ ∧ n = L.length ∧ ca10 = c3 := by cases hv3; exact ⟨rfl, rfl, rfl⟩
      clear hv3 hnn
      have hxs := HX3.out.2 x (List.mem_of_getElem? hx)
      have hcp := fun W => mrows_calls x 2 W (by omega) (by omega) (by omega)
      rw [two_rows (rowsL_len (toL x) 2)] at hcp
      have hE2 : o ++ [blkOf (toL x)] = (L.take (k + 1)).map fun row => blkOf (toL row) := by rw [HE.out, List.take_add_one, hx]; simp
      have hblk : blkOf (toL x) = (mkB (nthL (rowsL (toL x) 2) 0), mkB (nthL (rowsL (toL x) 2) 1)) := rfl
      obtain ⟨X0, hX0⟩ : ∃ X, mkB (nthL (rowsL (toL x) 2) 0) = X := ⟨_, rfl⟩
      obtain ⟨X1, hX1⟩ : ∃ X, mkB (nthL (rowsL (toL x) 2) 1) = X := ⟨_, rfl⟩
      simp only [List.map_cons, List.map_nil, hX0, hX1] at hcp
      rw [hX0, hX1] at hblk
      rw [hblk] at hE2
      have HCP := Lib.hid hcp
      have HE2 := Lib.hid hE2
      clear hcp hE2 hblk hX0 hX1 hx hxs
      go_wp2_with fail
      refine (HCP.out _).mono ?_
      rintro e w11 ⟨vp, rfl, hop, hbp⟩
      obtain ⟨gp, kp, rfl, _, hcp⟩ := own_block hop (by omega)
      have hp0 := (hcp 0 _ rfl).1
      have hp1 := (hcp 1 _ rfl).1
      have HK11 := Lib.hid (HK.out.next hbp)
      obtain ⟨AB, cB, rfl, _, _⟩ := own_slice HK.out.own
      have HNP : Hid (¬ (Value.slice AB o.length cB).ownBlock = some gp) := Lib.hid (fun e => by
        rcases HK11.out.own.2 with ⟨e2, _⟩ | ⟨g', cap', cur', e2, _, hg', _⟩
        · rw [e2] at e; cases e
        · rw [e2] at e
          exact own_ne_type hop hg' (by decide) rfl (Option.some.inj e).symm)
      clear hcp hop hbp hcx
      go_wp2_with fail
      refine wp_region_G (fun W => W.cell? ⟨Z, 7, none⟩ = some (.slice AB o.length cB) ∧ W.cell? ⟨gp, 0, none⟩ = some (.string X0) ∧ W.cell? ⟨gp, 1, none⟩ = some (.string X1)) [12] (by kernel_rfl) ?_
      have HKd := Lib.hid (HK11.out.next (Below.refl _ w11).drew)
      obtain ⟨wd, hwd⟩ : ∃ x, w11.drew = x := ⟨_, rfl⟩
      have hS : (fun W : World => W.cell? ⟨Z, 7, none⟩ = some (.slice AB o.length cB) ∧ W.cell? ⟨gp, 0, none⟩ = some (.string X0) ∧ W.cell? ⟨gp, 1, none⟩ = some (.string X1)) w11.drew := ⟨by rw [cell_of_row _ _ _ _ _ _ HKd.out.row]; rfl, hp0, hp1⟩
      rw [hwd] at HKd hS ⊢
      obtain ⟨v', w13, hrun, ho13, hk13, hn13⟩ := append_pair Tryz.underlying40 info_blk HKd.out.own (X0, X1) (by omega) HKd.out.zb.2.2.2
      obtain ⟨A', c', rfl, _, _⟩ := own_slice ho13
      have hpush := HKd.out.push hk13 ho13
      have hS13 : w13.cell? ⟨Z, 7, none⟩ = some (.slice AB o.length cB) ∧ w13.cell? ⟨gp, 0, none⟩ = some (.string X0) ∧ w13.cell? ⟨gp, 1, none⟩ = some (.string X1) := ⟨by rw [cell_of_row _ _ _ _ _ _ hpush.1]; rfl, hk13.cell hS.2.1 HNP.out, hk13.cell hS.2.2 HNP.out⟩
      have hSa : ∀ ob, (wd.alloc ob).cell? ⟨Z, 7, none⟩ = some (.slice AB o.length cB) ∧ (wd.alloc ob).cell? ⟨gp, 0, none⟩ = some (.string X0) ∧ (wd.alloc ob).cell? ⟨gp, 1, none⟩ = some (.string X1) := fun ob => ⟨(Keep.alloc (fun _ => False) wd ob).cell hS.1 fun e => e, (Keep.alloc (fun _ => False) wd ob).cell hS.2.1 fun e => e, (Keep.alloc (fun _ => False) wd ob).cell hS.2.2 fun e => e⟩
      have hf13 := frozen_of_row hpush.1 7
      have HP := Lib.hid hpush.2
      have HSA := Lib.hid hSa
      dsimp only at hrun
      obtain ⟨pl, hpl⟩ : ∃ pl, (o ++ [(X0, X1)]).length = pl := ⟨_, rfl⟩
      have hpl2 : pl = k + 1 := by rw [← hpl, List.length_append, hol]; rfl
      rw [hpl] at hrun HP
      subst hpl2
      have HPLX := Lib.hid hpl
      rw [hol] at hrun hS hS13 HSA ⊢
      clear hpush ho13 hk13 hn13 hSa hp0 hp1 hpl
      refine wpAnyG_pure (i := 0) (v := ?va0) at0 (by kernel_rfl) (fun _ _ _ h => h) (Or.inl ⟨by rfl, ?ha0⟩) (Or.inr (by assumption)) ?ra0
      case ha0 => (intro w hSw; (try dsimp only at hSw); go_simp; try with_reducible rfl)
      case' ra0 => skip
      try simp only [Act.put, List.setIfInBounds_toArray, List.set_cons_zero, List.set_cons_succ]
      refine wpAnyG_take (ws := [1,4,7,8]) (i := 1) (v := ?va1) at1 (by kernel_rfl) (fun _ _ _ h => h) (Or.inl ⟨by rfl, ?ha1⟩) (by assumption) ?ra1
      case ha1 => (intro w hSw; (try dsimp only at hSw); go_simp; try with_reducible rfl)
      case' ra1 => skip
      try simp only [Act.put, List.setIfInBounds_toArray, List.set_cons_zero, List.set_cons_succ]
      refine wpAnyG_pure (i := 2) (v := ?va2) at2 (by kernel_rfl) (fun _ _ _ h => h) (Or.inl ⟨by rfl, ?ha2⟩) (Or.inr (by assumption)) ?ra2
      case ha2 => (intro w hSw; (try dsimp only at hSw); go_simp; try with_reducible rfl)
      case' ra2 => skip
      try simp only [Act.put, List.setIfInBounds_toArray, List.set_cons_zero, List.set_cons_succ]
      refine wpAnyG_pure (i := 3) (v := ?va3) at3 (by kernel_rfl) (fun _ _ _ h => h) (Or.inl ⟨by rfl, ?ha3⟩) (Or.inr (by assumption)) ?ra3
      case ha3 => (intro w hSw; (try dsimp only at hSw); go_simp; try with_reducible rfl)
      case' ra3 => skip
      try simp only [Act.put, List.setIfInBounds_toArray, List.set_cons_zero, List.set_cons_succ]
      refine wpAnyG_take (ws := [1,4,7,8]) (i := 4) (v := ?va4) at4 (by kernel_rfl) (fun _ _ _ h => h) (Or.inl ⟨by rfl, ?ha4⟩) (by assumption) ?ra4
      case ha4 => (intro w hSw; (try dsimp only at hSw); go_simp; try with_reducible rfl)
      case' ra4 => skip
      try simp only [Act.put, List.setIfInBounds_toArray, List.set_cons_zero, List.set_cons_succ]
      refine wpAnyG_pure (i := 5) (v := ?va5) at5 (by kernel_rfl) (fun _ _ _ h => h) (Or.inl ⟨by rfl, ?ha5⟩) (Or.inr (by assumption)) ?ra5
      case ha5 => (intro w hSw; (try dsimp only at hSw); go_simp; try with_reducible rfl)
      case' ra5 => skip
      try simp only [Act.put, List.setIfInBounds_toArray, List.set_cons_zero, List.set_cons_succ]
      refine wpAnyG_pure (i := 6) (v := ?va6) at6 (by kernel_rfl) (fun _ _ _ h => h) (Or.inl ⟨by rfl, ?ha6⟩) (Or.inr (by assumption)) ?ra6
      case ha6 => (intro w hSw; (try dsimp only at hSw); go_simp; try with_reducible rfl)
      case' ra6 => skip
      try simp only [Act.put, List.setIfInBounds_toArray, List.set_cons_zero, List.set_cons_succ]
      refine wpAnyG_take (ws := [1,4,7,8]) (i := 7) (v := ?va7) at7 (by kernel_rfl) (fun _ _ _ h => h) (Or.inl ⟨by rfl, ?ha7⟩) (by assumption) ?ra7
      case ha7 => (intro w hSw; (try dsimp only at hSw); go_simp; try with_reducible rfl)
      case' ra7 => skip
      try simp only [Act.put, List.setIfInBounds_toArray, List.set_cons_zero, List.set_cons_succ]
      refine wpAnyG_pure (i := 8) (v := ?va8) at8 (by kernel_rfl) (fun _ _ _ h => h) (Or.inl ⟨by rfl, ?ha8⟩) (Or.inr (by assumption)) ?ra8
      case ha8 => (intro w hSw; (try dsimp only at hSw); go_simp; try with_reducible rfl)
      case' ra8 => skip
      try simp only [Act.put, List.setIfInBounds_toArray, List.set_cons_zero, List.set_cons_succ]
      refine wpAnyG_one 9 at9 (by kernel_rfl) (fun Kn hK => ?_)
      go_simp
      refine hK.out _ _ (Or.inr (HSA.out _)) ?_
      clear hK Kn hS
      try simp only [Act.put, List.setIfInBounds_toArray, List.set_cons_zero, List.set_cons_succ]
      refine wpAnyG_one 10 at10 (by kernel_rfl) (fun Kn hK => ?_)
      refine step_append_run rfl _ _ _ rfl rfl rfl hrun ?_
      refine hK.out _ _ (Or.inr hS13) ?_
      clear hK Kn hrun
      try simp only [Act.put, List.setIfInBounds_toArray, List.set_cons_zero, List.set_cons_succ]
      have hS := hS13
      refine wpAnyG_pure (i := 11) (v := ?vb11) at11 (by kernel_rfl) (fun _ _ _ h => h) (Or.inl ⟨by rfl, ?hb11⟩) (Or.inr (by assumption)) ?rb11
      case hb11 => (intro w hSw; (try dsimp only at hSw); go_simp; try with_reducible rfl)
      case' rb11 => skip
      try simp only [Act.put, List.setIfInBounds_toArray, List.set_cons_zero, List.set_cons_succ]
      refine wpAnyG_one 12 at12 (by kernel_rfl) (fun Kn hK => ?_)
      go_simp
      refine hK.out _ _ (Or.inl (by kernel_rfl)) ?_
      clear hK Kn hS hS13 hf13
      refine wpAnyG_done (by kernel_rfl) ?_
      try simp only [Act.put, List.setIfInBounds_toArray, List.set_cons_zero, List.set_cons_succ]
      go_wp2_with fail
      go_roundw
      case rel => exact ⟨k + 1, o ++ [(X0, X1)], .slice A' (k + 1) c', by omega, by go_num, HPLX.out, HE2, HP⟩
      case measure => simp [intOf]; omega
    · obtain rfl : k = n := by omega
      have hob : o = M.bl := by rw [HE.out, List.take_of_length_le (by rw [HLN.out]; exact Nat.le_refl _), HBL.out]
      subst hob
      clear hol
      have hrow : wr.heap[Z]? = some (.cells (mtCells M (.slice A4 rr.rd.length ca4) (.slice C4 rr.wr.length cb4) (.slice A8 VF.length ca8) vb) 42 (0, 0)) := HK.out.row
      have hml : MLists wr M (.slice A4 rr.rd.length ca4) (.slice C4 rr.wr.length cb4) (.slice A8 VF.length ca8) vb := ⟨HK.out.rt, HK.out.vf, rows_own HK.out.own⟩
      have hP := Put_calls wr M _ _ _ _ hml (HT.out.below HK.out.below) HWF.out
      have HPU := Lib.hid hP
      have HROW := Lib.hid hrow
      have hpv : putMV M = if rightM M then .tuple #[.string (mkB (putM M)), .int .i64 0] else .tuple #[.string ⟨#[]⟩, .int .i64 1] := rfl
      obtain ⟨AB, cB, rfl, _, _⟩ := own_slice HK.out.own
      have hnR : ∀ g, ((Value.slice A4 rr.rd.length ca4).ownBlock = some g ∨ (Value.slice C4 rr.wr.length cb4).ownBlock = some g ∨ (Value.slice A8 VF.length ca8).ownBlock = some g ∨ (Value.slice AB M.bl.length cB).ownBlock = some g) → ¬ g = R := fun g hg => by
        rcases hg with hg | hg | hg | hg
        · exact (HK.out.ne g (Or.inl hg)).2
        · exact (HK.out.ne g (Or.inr (Or.inl hg))).2
        · exact (HK.out.ne g (Or.inr (Or.inr (Or.inl hg)))).2
        · have := own_new HK.out.own g hg; have := HK.out.zb; omega
      have HNR := Lib.hid hnR
      have hZc := MtAt.cells (w := w) (w' := wr) (b := Z) (m := M) ⟨hrow, hml, HT.out.below HK.out.below, HK.out.below⟩
      have HML := Lib.hid hml
      have hMr : M.r = rr := by rw [EM.out]
      have hMvf : M.vf = VF := by rw [EM.out]
      clear hP hrow hml hnR
      unfold agM at HPU
      rw [hpv] at HPU
      have hMr' := Lib.hid hMr
      obtain ⟨⟨c0, c1, c2, c3, c4⟩, c5, c6, c7, c8⟩ := hZc
      have HRES := Lib.hid (fun W (hb : Below wr.heap.size wr W) => (Keep.of_below hb : Keep (fun _ => False) wr W).at HK.out.res fun e => e)
      have bad : takeM (toL s) = none → ∀ w9, w9.heap[R]? = some (.cells zero9 42 (0, 0)) → Below w.heap.size w w9 → MTakeOut w (toL s) (.returned (.tuple #[.agg zero9, .int .i64 2])) w9 := fun h w9 _ hb => by
        unfold MTakeOut; rw [h]; exact ⟨rfl, hb⟩
      have HBAD := Lib.hid bad
      clear bad hpv hMr hMvf
      cases hrm : rightM M with
      | false =>
        rw [hrm] at HPU
        simp only [Bool.false_eq_true, if_false] at HPU
        have HN0 : Hid (takeM (toL s) = none) := Lib.hid (by rw [HTM.out, if_neg (by rw [hrm]; simp)])
        clear hrm
        go_wp2_with fail
        refine HPU.out.mono ?_
        rintro e w11 ⟨rfl, hb11⟩
        have HB11 := Lib.hid (HK.out.below.trans (hb11.mono HK.out.below.size))
        have hres := HRES.out _ hb11
        clear hb11 c0 c1 c2 c3 c4 c5 c6 c7 c8
        go_wp2_with (with_reducible refine wp_stop_store (o := ⟨none, .store _ (.tmp 2) _, _, _, _, _⟩) _ _ _ rfl ?_)
        unfold Stop
        refine wp_store_all rfl _ _ _ rfl rfl rfl _ _ hres info_mt rfl (by simp [Value.oneCell']) ?_
        intro w12 h12 k12 s12
        have HO12 := Lib.hid (HBAD.out HN0.out w12 h12 (below_at HB11.out k12 (Nat.le_of_eq HRW.out)))
        obtain ⟨d0, d1, d2, d3, d4, d5, d6, d7, d8⟩ := row9 h12
        clear h12 k12 s12 hres
        go_wp2_with fail
        exact bodyPost_ret (v := .tuple #[.agg zero9, .int .i64 2]) (by simp [results, Tryz.results57, go_sem, d0, d1, d2, d3, d4, d5, d6, d7, d8]) rfl HO12.out
      | true =>
        rw [hrm] at HPU
        simp only [if_true] at HPU
        obtain ⟨X, hX⟩ : ∃ X, mkB (putM M) = X := ⟨_, rfl⟩
        rw [hX] at HPU
        by_cases hps : putM M = toL s
        · have HS0 : Hid (takeM (toL s) = some M) := Lib.hid (by rw [HTM.out, if_pos ⟨hrm, hps⟩])
          have hXs : X = s := by rw [← hX, hps]; exact list_mkB s
          subst hXs
          have f1 : (X.toList == X.toList) = true := by simp
          have f2 : (X.toList != X.toList) = false := by simp
          clear hrm hps hX
          go_wp2_with fail
          refine HPU.out.mono ?_
          rintro e w11 ⟨rfl, hb11⟩
          have HB11 := Lib.hid (HK.out.below.trans (hb11.mono HK.out.below.size))
          have hres := HRES.out _ hb11
          have hrow := (Keep.of_below hb11 : Keep (fun _ => False) wr w11).at HROW.out fun e => e
          have HML11 := Lib.hid (HML.out.below hb11)
          clear c0 c1 c2 c3 c4 c5 c6 c7 c8
          obtain ⟨⟨c0, c1, c2, c3, c4⟩, c5, c6, c7, c8⟩ := MtAt.cells (w := w) (w' := w11) (b := Z) (m := M) ⟨hrow, HML11.out, HT.out.below HB11.out, HB11.out⟩
          clear hb11 hrow
          go_wp2_with (with_reducible refine wp_stop_store (o := ⟨none, .store _ (.tmp 2) _, _, _, _, _⟩) _ _ _ rfl ?_)
          unfold Stop
          refine wp_store_all rfl _ _ _ rfl rfl rfl _ _ hres info_mt rfl (by simp [Value.oneCell']) ?_
          intro w12 h12 k12 s12
          have hml12 : MLists w12 M (.slice A4 rr.rd.length ca4) (.slice C4 rr.wr.length cb4) (.slice A8 VF.length ca8) (.slice AB M.bl.length cB) := ⟨⟨HML11.out.rt.rd.keep k12 fun g hg => HNR.out g (Or.inl hg), HML11.out.rt.wr.keep k12 fun g hg => HNR.out g (Or.inr (Or.inl hg))⟩, HML11.out.vf.keep k12 fun g hg => HNR.out g (Or.inr (Or.inr (Or.inl hg))), HML11.out.bl.keep k12 fun g hg => HNR.out g (Or.inr (Or.inr (Or.inr hg)))⟩
          have HO12 : Hid (MTakeOut w (toL X) (.returned (.tuple #[agM M (.slice A4 rr.rd.length ca4) (.slice C4 rr.wr.length cb4) (.slice A8 VF.length ca8) (.slice AB M.bl.length cB), .int .i64 0])) w12) := Lib.hid (by
            unfold MTakeOut
            rw [HS0.out]
            exact ⟨⟨_, _, _, _, rfl, hml12⟩, below_at HB11.out k12 (Nat.le_of_eq HRW.out)⟩)
          obtain ⟨d0, d1, d2, d3, d4, d5, d6, d7, d8⟩ := row9 h12
          clear h12 k12 s12 hres hml12 c0 c1 c2 c3 c4 c5 c6 c7 c8
          go_wp2_with fail
          exact bodyPost_ret (v := .tuple #[agM M (.slice A4 rr.rd.length ca4) (.slice C4 rr.wr.length cb4) (.slice A8 VF.length ca8) (.slice AB M.bl.length cB), .int .i64 0]) (by simp [results, Tryz.results57, go_sem, d0, d1, d2, d3, d4, d5, d6, d7, d8]) rfl HO12.out
        · have HN0 : Hid (takeM (toL s) = none) := Lib.hid (by rw [HTM.out, if_neg (fun h => hps h.2)])
          have f1 : (X.toList == s.toList) = false := by
            rw [beq_eq_false_iff_ne]; exact fun e => hps (by rw [← blist_inj e, ← hX]; exact (mkB_list _).symm)
          have f2 : (X.toList != s.toList) = true := by simp only [bne, f1]; rfl
          clear hrm hps hX
          go_wp2_with fail
          refine HPU.out.mono ?_
          rintro e w11 ⟨rfl, hb11⟩
          have HB11 := Lib.hid (HK.out.below.trans (hb11.mono HK.out.below.size))
          have hres := HRES.out _ hb11
          clear hb11 c0 c1 c2 c3 c4 c5 c6 c7 c8
          go_wp2_with (with_reducible refine wp_stop_store (o := ⟨none, .store _ (.tmp 2) _, _, _, _, _⟩) _ _ _ rfl ?_)
          unfold Stop
          refine wp_store_all rfl _ _ _ rfl rfl rfl _ _ hres info_mt rfl (by simp [Value.oneCell']) ?_
          intro w12 h12 k12 s12
          have HO12 := Lib.hid (HBAD.out HN0.out w12 h12 (below_at HB11.out k12 (Nat.le_of_eq HRW.out)))
          obtain ⟨d0, d1, d2, d3, d4, d5, d6, d7, d8⟩ := row9 h12
          clear h12 k12 s12 hres
          go_wp2_with fail
          exact bodyPost_ret (v := .tuple #[.agg zero9, .int .i64 2]) (by simp [results, Tryz.results57, go_sem, d0, d1, d2, d3, d4, d5, d6, d7, d8]) rfl HO12.out
end Go.Proofs.YtckblcfkajpofaaGreatDoor
