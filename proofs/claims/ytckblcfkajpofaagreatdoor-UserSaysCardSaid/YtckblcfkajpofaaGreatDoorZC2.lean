/- meta: body. meta: Right. meta: Body, Put, rows. meta: Check, Open. -/
import Derived.Test.YtckblcfkajpofaaGreatDoorZC1
import Derived.Test.YtckblcfkajpofaaGreatDoorZA4
namespace Go.Proofs.YtckblcfkajpofaaGreatDoor
open Go.RowKit
set_option linter.unusedVariables false
set_option linter.unusedSimpArgs false

structure Mt where
  r : Rt
  ver : Nat
  vf : List ByteArray
  bl : List (ByteArray × ByteArray)
  sig : ByteArray
/-- a block as bytes -/
def blkL (b : ByteArray × ByteArray) : List UInt8 := wall [toL b.1, toL b.2]
def bodyM (m : Mt) : List UInt8 := wall [putR m.r, wput m.ver, wall (m.vf.map toL), wall (m.bl.map blkL)]
/-- the lists of a meta, somewhere -/
structure MLists (w : World) (m : Mt) (vr vw vv vb : Value) : Prop where
  rt : Lists w m.r vr vw
  vf : strs w vv m.vf
  bl : rowsOf 2 twoV w vb m.bl
theorem MLists.below {w w' : World} {m : Mt} {vr vw vv vb : Value} (h : MLists w m vr vw vv vb) (k : Below w.heap.size w w') : MLists w' m vr vw vv vb := ⟨h.rt.below k, h.vf.below k, h.bl.below k⟩
abbrev agM (m : Mt) (vr vw vv vb : Value) : Value := .agg #[.string m.r.owner, .string m.r.file, .int .i64 m.r.epoch, vr, vw, .int .u64 m.ver, vv, vb, .string m.sig]
def mtCells (m : Mt) (vr vw vv vb : Value) : Array Value := #[.string m.r.owner, .string m.r.file, .int .i64 m.r.epoch, vr, vw, .int .u64 m.ver, vv, vb, .string m.sig]
/-- a meta in a block of its own, and all that was there as it was -/
structure MtAt (w w' : World) (b : Nat) (m : Mt) (vr vw vv vb : Value) : Prop where
  row : w'.heap[b]? = some (.cells (mtCells m vr vw vv vb) 42 (0, 0))
  lists : MLists w' m vr vw vv vb
  tabs : Tabs w'
  below : Below w.heap.size w w'
theorem MtAt.next {w w' w2 : World} {b : Nat} {m : Mt} {vr vw vv vb : Value} (h : MtAt w w' b m vr vw vv vb) (k : Below w'.heap.size w' w2) : MtAt w w2 b m vr vw vv vb :=
  ⟨(Keep.of_below k (F := fun _ => False)).at h.row fun e => e, h.lists.below k, h.tabs.below k, h.below.trans (k.mono h.below.size)⟩
theorem MtAt.cells {w w' : World} {b : Nat} {m : Mt} {vr vw vv vb : Value} (h : MtAt w w' b m vr vw vv vb) :
    (w'.cell? ⟨b, 0, none⟩ = some (.string m.r.owner) ∧ w'.cell? ⟨b, 1, none⟩ = some (.string m.r.file) ∧ w'.cell? ⟨b, 2, none⟩ = some (.int .i64 m.r.epoch) ∧ w'.cell? ⟨b, 3, none⟩ = some vr ∧ w'.cell? ⟨b, 4, none⟩ = some vw) ∧
    w'.cell? ⟨b, 5, none⟩ = some (.int .u64 m.ver) ∧ w'.cell? ⟨b, 6, none⟩ = some vv ∧ w'.cell? ⟨b, 7, none⟩ = some vb ∧ w'.cell? ⟨b, 8, none⟩ = some (.string m.sig) := by
  refine ⟨⟨?_, ?_, ?_, ?_, ?_⟩, ?_, ?_, ?_, ?_⟩ <;> (rw [cell_of_row _ _ _ _ _ _ h.row]; rfl)
theorem MtAt.alloc {w w' : World} {b : Nat} {m : Mt} {vr vw vv vb : Value} (h : MtAt w w' b m vr vw vv vb) (o : Obj) : MtAt w (w'.alloc o) b m vr vw vv vb := h.next ((Below.refl _ _).alloc (Nat.le_refl _) o)
theorem MtAt.drew {w w' : World} {b : Nat} {m : Mt} {vr vw vv vb : Value} (h : MtAt w w' b m vr vw vv vb) : MtAt w w'.drew b m vr vw vv vb := h.next (Below.refl _ _).drew
theorem mt_box {w : World} {m : Mt} {vr vw vv vb : Value} (hl : MLists w m vr vw vv vb) (hT : Tabs w) : MtAt w (w.alloc (.cells (mtCells m vr vw vv vb) 42)) w.heap.size m vr vw vv vb :=
  ⟨(MapKept.heap_alloc w _).1, hl.below ((Below.refl _ w).alloc (Nat.le_refl _) _), hT.below ((Below.refl _ w).alloc (Nat.le_refl _) _), (Below.refl _ w).alloc (Nat.le_refl _) _⟩
theorem rowsOf.belowF {w w' : World} {v : Value} {l : List (ByteArray × ByteArray)} (h : rowsOf 2 twoV w v l) (k : Below w.heap.size w w') : rowsOf 2 twoV w' v l := h.below k
theorem blk_mem {m : Mt} {b : ByteArray × ByteArray} (h : b ∈ m.bl) : (blkL b).length ≤ (bodyM m).length := by
  have h1 : (blkL b).length ≤ (wall (m.bl.map blkL)).length := wall_item_le (List.mem_map_of_mem h)
  have h2 : (wall (m.bl.map blkL)).length ≤ (bodyM m).length := wall_item_le (by simp)
  omega
theorem wall_two (a b : ByteArray) : wall ([a, b].map toL) = wall [toL a, toL b] := rfl
set_option maxRecDepth 100000 in
set_option maxHeartbeats 4000000 in
theorem body_calls (w : World) (m : Mt) (vr vw vv vb : Value) (hl : MLists w m vr vw vv vb) (hT : Tabs w) (hR : m.r.right = true) (hver : m.ver < 18446744073709551616) (hnv : m.vf.length ≤ 1000000) (hnb : m.bl.length ≤ 1000000) (hB : (bodyM m).length ≤ 1000000000) :
    Calls Tryz.prog 157 #[agM m vr vw vv vb] w fun e w' => e = .returned (.string (mkB (bodyM m))) ∧ Below w.heap.size w w' := by
  have HX := Lib.hid (mt_box hl hT)
  obtain ⟨A, ca, rfl, a1, a2, _⟩ := hl.rt.rd
  obtain ⟨C, cb, rfl, b1, b2, _⟩ := hl.rt.wr
  obtain ⟨D, cd, rfl, d1, d2⟩ := hl.vf.form
  obtain ⟨E, ce, rfl, e1, e2⟩ := hl.bl.form
  have hPR := fun w' (h : MtAt w w' w.heap.size m (.slice A m.r.rd.length ca) (.slice C m.r.wr.length cb) (.slice D m.vf.length cd) (.slice E m.bl.length ce)) => rput_calls w' m.r _ _ h.lists.rt h.tabs (Rt.right_good hR).wf
  have hPV : putRV m.r = .tuple #[.string (mkB (putR m.r)), .int .i64 0] := by unfold putRV; rw [if_pos hR]
  simp only [hPV] at hPR
  have hVL : (wall (m.vf.map toL)).length ≤ 1000000000 := Nat.le_trans (wall_item_le (by simp [bodyM])) hB
  have hBL : (wall (m.bl.map blkL)).length ≤ 1000000000 := Nat.le_trans (wall_item_le (by simp [bodyM])) hB
  have HV := Lib.hid (fun w' (h : MtAt w w' w.heap.size m (.slice A m.r.rd.length ca) (.slice C m.r.wr.length cb) (.slice D m.vf.length cd) (.slice E m.bl.length ce)) => putall_calls w' _ m.vf h.lists.vf hnv (by omega))
  have HPW := Lib.hid (fun w' => wput_calls m.ver w' hver)
  have HMEM := Lib.hid (fun b (h : b ∈ m.bl) => Nat.le_trans (blk_mem h) hB)
  have HBL := Lib.hid hBL
  have HBD : Hid (wall ([mkB (putR m.r), mkB (wput m.ver), mkB (wall (m.vf.map toL)), mkB (wall (m.bl.map blkL))].map toL) = bodyM m) := Lib.hid (by unfold bodyM; simp [mkB_list])
  have HBS := Lib.hid hB
  obtain ⟨⟨ow, fi, ep, rd, wr'⟩, ver, vf, bl, sig⟩ := m
  dsimp only [mtCells, agM, agR] at *
  have HPR := Lib.hid hPR
  clear hl hT hR hPR hPV hVL hBL hB
  obtain ⟨⟨c0, c1, c2, c3, c4⟩, c5, c6, c7, c8⟩ := HX.out.cells
  dsimp only at c0 c1 c2 c3 c4 c5 c6 c7 c8
  go_enter Tryz.func157, Tryz.ntmps157
  go_wp2_with fail
  refine (HPR.out _ HX.out).mono ?_
  rintro e w1 ⟨rfl, hb⟩
  have X1 := Lib.hid (HX.out.next hb)
  clear hb c0 c1 c2 c3 c4 c5 c6 c7 c8
  obtain ⟨⟨c0, c1, c2, c3, c4⟩, c5, c6, c7, c8⟩ := X1.out.cells
  dsimp only at c0 c1 c2 c3 c4 c5 c6 c7 c8
  go_wp2_with fail
  clear c0 c1 c2 c3 c4 c5 c6 c7 c8
  obtain ⟨PR, hPR⟩ : ∃ PR, mkB (putR ⟨ow, fi, ep, rd, wr'⟩) = PR := ⟨_, rfl⟩
  rw [hPR] at HBD ⊢
  clear hPR
  go_loopw [5, 17] (fun o i wr => ∃ k : Nat, k ≤ bl.length ∧ i = .int .i64 k ∧ Hid (wr.ownsRow w1.heap.size 9 1 o ((bl.take k).map fun b => mkB (blkL b)).length (strV ((bl.take k).map fun b => mkB (blkL b))) ∧ Below w1.heap.size w1 wr)) (fun _ i _ => bl.length - (intOf i).toNat)
  case atStart => exact ⟨0, Nat.zero_le _, rfl, own_nil _ _ _ _, Below.refl _ _⟩
  case round =>
    obtain ⟨k, hk, rfl, HO⟩ := hrel
    by_cases hlt : k < bl.length
    · obtain ⟨⟨u, x⟩, hx⟩ : ∃ x, bl[k]? = some x := ⟨_, List.getElem?_eq_getElem hlt⟩
      obtain ⟨b, off, c', hv', _, _, d0, d1⟩ := (X1.out.lists.bl.belowF HO.out.2).cell2 hx
      cases hv'
      have hbl := World.block_lt_of_cell? wr _ d0
      have hm := HMEM.out _ (List.mem_of_getElem? hx)
      have hpa := putall_calls _ _ _ (strs_lit (wr.alloc (.cells #[.string u, .string x] 93)) 9 [u, x] (by simp)) (by simp) (by rw [wall_two]; exact Nat.le_trans hm (by omega))
      rw [size_alloc] at hpa
      have hbk : mkB (wall ([u, x].map toL)) = mkB (blkL (u, x)) := rfl
      rw [hbk] at hpa
      have HPA := Lib.hid hpa
      have hst : (bl.take (k + 1)).map (fun b => mkB (blkL b)) = (bl.take k).map (fun b => mkB (blkL b)) ++ [mkB (blkL (u, x))] := by rw [take_succ_get2 hx]; simp
      have HST := Lib.hid hst
      have hkl : ((bl.take k).map fun b => mkB (blkL b)).length ≤ 1000000 := by rw [List.length_map, List.length_take]; omega
      obtain ⟨BX, hBX⟩ : ∃ BX, mkB (blkL (u, x)) = BX := ⟨_, rfl⟩
      rw [hBX] at HST
      rw [hBX] at HPA
      have HX0 := Lib.hid hx
      clear hpa hbk hst hm hBX hx
      go_wp2_with fail
      refine HPA.out.mono ?_
      rintro e w2 ⟨rfl, hb⟩
      have hb2 : Below wr.heap.size wr w2 := (((Below.refl _ wr).alloc (Nat.le_refl _) _).alloc (by rw [size_alloc]; omega) _).trans (hb.mono (by show wr.heap.size ≤ (World.alloc _ _).heap.size; rw [size_alloc, size_alloc]; omega))
      have hown := own_below HO.out.1 hb2
      obtain ⟨p', w3, hrun, ho3, hk3⟩ := append_str hown BX (by omega) (Nat.le_trans HO.out.2.size hb2.size)
      have HN : Hid (w3.ownsRow w1.heap.size 9 1 p' ((bl.take (k + 1)).map fun b => mkB (blkL b)).length (strV ((bl.take (k + 1)).map fun b => mkB (blkL b))) ∧ Below w1.heap.size w1 w3) := Lib.hid (by
        rw [HST.out]
        exact ⟨ho3, below_own (HO.out.2.trans (hb2.mono HO.out.2.size)) hown hk3⟩)
      clear hb hb2 hown ho3 hk3 d0 d1
      go_wp2_with (at_builtin; refine wp_append_run rfl _ _ _ rfl rfl rfl hrun ?_)
      clear hrun
      go_wp2_with fail
      go_roundw
      case rel => exact ⟨k + 1, by omega, by go_num, HN⟩
      case measure => simp [intOf]; omega
    · obtain rfl : k = bl.length := by omega
      have ho := HO.out.1
      rw [List.take_length] at ho
      have hs := strs_own ho
      obtain ⟨F, cf, rfl, _, _⟩ := own_slice ho
      have hmap : (bl.map fun b => mkB (blkL b)).map toL = bl.map blkL := by
        rw [List.map_map]; apply List.map_congr_left; intro b _; exact mkB_list _
      have X2 := Lib.hid (X1.out.next HO.out.2)
      have HS := Lib.hid hs
      have HPL := Lib.hid (fun W (h : Below wr.heap.size wr W) => putall_calls W _ _ (hs.below h) (by rw [List.length_map]; omega) (by rw [hmap]; have := HBL.out; omega))
      simp only [hmap] at HPL
      obtain ⟨fl, hfl⟩ : ∃ fl, (List.map (fun b => mkB (blkL b)) bl).length = fl := ⟨_, rfl⟩
      rw [hfl] at HS HPL ⊢
      have HP4 := Lib.hid (fun W => putall_calls _ _ _ (strs_lit W 9 [PR, mkB (wput ver), mkB (wall (vf.map toL)), mkB (wall (bl.map blkL))] (by simp)) (by simp) (by rw [HBD.out]; have := HBS.out; omega))
      simp only [HBD.out] at HP4
      obtain ⟨V1, hV1⟩ : ∃ V1, mkB (wput ver) = V1 := ⟨_, rfl⟩
      obtain ⟨V2, hV2⟩ : ∃ V2, mkB (wall (vf.map toL)) = V2 := ⟨_, rfl⟩
      obtain ⟨V3, hV3⟩ : ∃ V3, mkB (wall (bl.map blkL)) = V3 := ⟨_, rfl⟩
      simp only [hV1] at HPW HP4
      simp only [hV2] at HV HP4
      simp only [hV3] at HPL HP4
      obtain ⟨BM, hBM⟩ : ∃ BM, mkB (bodyM ⟨⟨ow, fi, ep, rd, wr'⟩, ver, vf, bl, sig⟩) = BM := ⟨_, rfl⟩
      simp only [hBM] at HP4
      have HBM := Lib.hid hBM
      clear ho hs hmap hfl hV1 hV2 hV3 hBM
      go_wp2_with fail
      have hb0 := Lib.hid (Below.refl wr.heap.size wr)
      refine wp_region_G (fun w' => w'.cell? ⟨w.heap.size, 5, none⟩ = some (.int .u64 ver) ∧ w'.cell? ⟨w.heap.size, 6, none⟩ = some (.slice D vf.length cd)) [11] (by kernel_rfl) ?_
      have X3 := Lib.hid X2.out.drew
      obtain ⟨_, q5, q6, _⟩ := X3.out.cells
      have hS := And.intro q5 q6
      dsimp only at hS
      clear q5 q6
      refine wpAnyG_pure (i := 0) (v := ?va0) at0 (by kernel_rfl) (fun _ _ _ h => h) (Or.inl ⟨by rfl, ?ha0⟩) (Or.inr (by assumption)) ?ra0
      case ha0 => (intro w hSw; (try dsimp only at hSw); go_simp; try with_reducible rfl)
      case' ra0 => skip
      try simp only [Act.put, List.setIfInBounds_toArray, List.set_cons_zero, List.set_cons_succ]
      refine wpAnyG_pure (i := 1) (v := ?va1) at1 (by kernel_rfl) (fun _ _ _ h => h) (Or.inl ⟨by rfl, ?ha1⟩) (Or.inr (by assumption)) ?ra1
      case ha1 => (intro w hSw; (try dsimp only at hSw); go_simp; try with_reducible rfl)
      case' ra1 => skip
      try simp only [Act.put, List.setIfInBounds_toArray, List.set_cons_zero, List.set_cons_succ]
      refine wpAnyG_take (ws := [0,1,2,3,4,5,6,7,8,9,10]) (i := 2) (v := ?va2) at2 (by kernel_rfl) (fun _ _ _ h => h) (Or.inl ⟨by rfl, ?ha2⟩) (by assumption) ?ra2
      case ha2 => (intro w hSw; (try dsimp only at hSw); go_simp; try with_reducible rfl)
      case' ra2 => skip
      try simp only [Act.put, List.setIfInBounds_toArray, List.set_cons_zero, List.set_cons_succ]
      refine wpAnyG_pure (i := 4) (v := ?va4) at4 (by kernel_rfl) (fun _ _ _ h => h) (Or.inl ⟨by rfl, ?ha4⟩) (Or.inr (by assumption)) ?ra4
      case ha4 => (intro w hSw; (try dsimp only at hSw); go_simp; try with_reducible rfl)
      case' ra4 => skip
      try simp only [Act.put, List.setIfInBounds_toArray, List.set_cons_zero, List.set_cons_succ]
      refine wpAnyG_take (ws := [0,1,2,3,4,5,6,7,8,9,10]) (i := 5) (v := ?va5) at5 (by kernel_rfl) (fun _ _ _ h => h) (Or.inl ⟨by rfl, ?ha5⟩) (by assumption) ?ra5
      case ha5 => (intro w hSw; (try dsimp only at hSw); go_simp; try with_reducible rfl)
      case' ra5 => skip
      try simp only [Act.put, List.setIfInBounds_toArray, List.set_cons_zero, List.set_cons_succ]
      refine wpAnyG_pure (i := 7) (v := ?va7) at7 (by kernel_rfl) (fun _ _ _ h => h) (Or.inl ⟨by rfl, ?ha7⟩) (Or.inr (by assumption)) ?ra7
      case ha7 => (intro w hSw; (try dsimp only at hSw); go_simp; try with_reducible rfl)
      case' ra7 => skip
      try simp only [Act.put, List.setIfInBounds_toArray, List.set_cons_zero, List.set_cons_succ]
      refine wpAnyG_one 3 at3 (by kernel_rfl) (fun Kn hK => ?_)
      go_simp
      refine (HPW.out _).mono ?_
      rintro e w2 ⟨rfl, hb⟩
      have X4 := Lib.hid (X3.out.next hb)
      have B4 := Lib.hid ((Below.refl wr.heap.size wr).drew.trans hb)
      obtain ⟨_, q5, q6, _⟩ := X4.out.cells
      refine hK.out _ _ (Or.inr ⟨q5, q6⟩) ?_
      clear hb hS hK Kn q5 q6
      try simp only [Act.put, List.setIfInBounds_toArray, List.set_cons_zero, List.set_cons_succ]
      refine wpAnyG_one 6 at6 (by kernel_rfl) (fun Kn hK => ?_)
      go_simp
      refine (HV.out _ X4.out).mono ?_
      rintro e w3 ⟨rfl, hb⟩
      have X5 := Lib.hid (X4.out.next hb)
      have B5 := Lib.hid (B4.out.trans (hb.mono B4.out.size))
      obtain ⟨_, q5, q6, _⟩ := X5.out.cells
      refine hK.out _ _ (Or.inr ⟨q5, q6⟩) ?_
      clear hb hK Kn q5 q6
      try simp only [Act.put, List.setIfInBounds_toArray, List.set_cons_zero, List.set_cons_succ]
      refine wpAnyG_one 8 at8 (by kernel_rfl) (fun Kn hK => ?_)
      go_simp
      refine (HPL.out _ B5.out).mono ?_
      rintro e w4 ⟨rfl, hb⟩
      have X6 := Lib.hid (X5.out.next hb)
      obtain ⟨_, q5, q6, _⟩ := X6.out.cells
      refine hK.out _ _ (Or.inr ⟨q5, q6⟩) ?_
      clear hb hK Kn q5 q6
      try simp only [Act.put, List.setIfInBounds_toArray, List.set_cons_zero, List.set_cons_succ]
      refine wpAnyG_one 9 at9 (by kernel_rfl) (fun Kn hK => ?_)
      go_simp
      have X7 := Lib.hid (X6.out.alloc (.cells #[.string PR, .string V1, .string V2, .string V3] 9))
      obtain ⟨_, q5, q6, _⟩ := X7.out.cells
      refine hK.out _ _ (Or.inr ⟨q5, q6⟩) ?_
      clear hK Kn q5 q6
      try simp only [Act.put, List.setIfInBounds_toArray, List.set_cons_zero, List.set_cons_succ]
      refine wpAnyG_one 10 at10 (by kernel_rfl) (fun Kn hK => ?_)
      go_simp
      refine (HP4.out _).mono ?_
      rintro e w5 ⟨rfl, hb⟩
      have X8 := Lib.hid (X7.out.next hb)
      obtain ⟨_, q5, q6, _⟩ := X8.out.cells
      refine hK.out _ _ (Or.inr ⟨q5, q6⟩) ?_
      clear hb hK Kn q5 q6
      try simp only [Act.put, List.setIfInBounds_toArray, List.set_cons_zero, List.set_cons_succ]
      refine wpAnyG_one 11 at11 (by kernel_rfl) (fun Kn hK => ?_)
      go_simp
      refine hK.out _ _ (Or.inl (by kernel_rfl)) ?_
      clear hK Kn
      refine wpAnyG_done (by kernel_rfl) ?_
      go_wp2_with fail
      go_ret
      exact ⟨by rw [HBM.out]; rfl, X8.out.below⟩
end Go.Proofs.YtckblcfkajpofaaGreatDoor
namespace Go.Proofs.YtckblcfkajpofaaGreatDoor
open Go.RowKit
set_option linter.unusedVariables false
set_option linter.unusedSimpArgs false

def goodB (s : ByteArray) (b : ByteArray × ByteArray) : Bool := decide (s = b.1) && (kindL (toL b.2) == 98)
def eqBlk (l : List ByteArray) (bl : List (ByteArray × ByteArray)) : Bool := decide (l.length = bl.length) && (l.zip bl).all fun p => goodB p.1 p.2
set_option maxRecDepth 100000 in
set_option maxHeartbeats 1000000 in
theorem right1_calls (s : ByteArray) (b : ByteArray × ByteArray) (w : World) (hb : b.2.size ≤ 9223372036854775807) : Calls Tryz.prog 168 #[.string s, .agg #[.string b.1, .string b.2]] w fun e w' => e = .returned (.bool (goodB s b)) ∧ Below w.heap.size w w' := by
  obtain ⟨u, x⟩ := b
  have hG : goodB s (u, x) = (decide (s = u) && (kindL (toL x) == 98)) := rfl
  have HK := Lib.hid (fun w' => mkind_calls x 98 w' hb)
  have hb0 : Below w.heap.size w (w.alloc (.cells #[.string u, .string x] 93)) := (Below.refl _ w).alloc (Nat.le_refl _) _
  have HB0 := Lib.hid hb0
  clear hb0
  by_cases hsu : s = u
  · subst hsu
    rw [decide_eq_true rfl, Bool.true_and] at hG
    have HG := Lib.hid hG
    clear hG
    go_enter Tryz.func168, Tryz.ntmps168
    go_wp2_with fail
    refine (HK.out _).mono ?_
    rintro e w1 ⟨rfl, hb⟩
    have HB := Lib.hid (HB0.out.trans (hb.mono HB0.out.size))
    clear hb
    go_wp2_with fail
    go_ret
    exact ⟨by first | (rw [HG.out]; rfl) | (rw [← HG.out]; rfl), HB.out⟩
  · have f1 : (s.toList == u.toList) = false := by rw [beq_str]; simp [hsu]
    rw [decide_eq_false hsu, Bool.false_and] at hG
    have HG := Lib.hid hG
    clear hG hsu
    go_enter Tryz.func168, Tryz.ntmps168
    go_wp2_with fail
    go_ret
    exact ⟨by rw [HG.out]; rfl, HB0.out⟩
theorem enters_right1 : ∀ args w, (callFunc 168 args).run Tryz.prog w = .ok (.enter 168 args) w := enters_of Tryz.func168 (by kernel_rfl) rfl
theorem all_take_succ {α : Type} {p : α → Bool} {l : List α} {k : Nat} {x : α} (h : l[k]? = some x) : (l.take (k + 1)).all p = ((l.take k).all p && p x) := by rw [take_succ_get2 h]; simp
theorem all_not {α : Type} {p : α → Bool} {l : List α} {k : Nat} {x : α} (h : l[k]? = some x) (hp : p x = false) : l.all p = false := by
  rw [List.all_eq_false]; exact ⟨x, List.mem_of_getElem? h, by rw [hp]; simp⟩
set_option maxRecDepth 100000 in
set_option maxHeartbeats 2000000 in
theorem eqblk_calls (w : World) (vl vb : Value) (l : List ByteArray) (bl : List (ByteArray × ByteArray)) (hl : strs w vl l) (hb : rowsOf 2 twoV w vb bl) (hsz : ∀ b ∈ bl, b.2.size ≤ 9223372036854775807) :
    Calls Tryz.prog 167 #[vl, vb, .func (.func 168) #[] #[]] w fun e w' => e = .returned (.bool (eqBlk l bl)) ∧ Below w.heap.size w w' := by
  have HL := Lib.hid hl
  have HBL := Lib.hid hb
  have HSZ := Lib.hid hsz
  obtain ⟨A, c, rfl, a1, a2⟩ := hl.form
  obtain ⟨A2, c2, rfl, b1, b2⟩ := hb.form
  obtain ⟨G, hG⟩ : ∃ G, eqBlk l bl = G := ⟨_, rfl⟩
  rw [hG]
  have HG := Lib.hid hG
  clear hl hb hsz hG
  by_cases hlen : l.length = bl.length
  · have HLN := Lib.hid hlen
    have hle : bl.length ≤ l.length := by omega
    have f0 : ((l.length : Int) != (bl.length : Int)) = false := by rw [hlen]; simp
    have f0' : ((l.length : Int) == (bl.length : Int)) = true := by rw [hlen]; simp
    have HGG : Hid (G = (l.zip bl).all fun p => goodB p.1 p.2) := Lib.hid (by rw [← HG.out]; unfold eqBlk; rw [decide_eq_true hlen, Bool.true_and])
    clear hlen
    go_enter Tryz.func167, Tryz.ntmps167
    go_wp2_with fail
    go_loopw [17] (fun i wr => ∃ k : Nat, k ≤ l.length ∧ i = .int .i64 k ∧ Hid (((l.zip bl).take k).all (fun p => goodB p.1 p.2) = true ∧ Below w.heap.size w wr)) (fun i _ => l.length - (intOf i).toNat)
    case atStart => exact ⟨0, Nat.zero_le _, rfl, by simp, Below.refl _ _⟩
    case round =>
      obtain ⟨k, hk, rfl, HO⟩ := hrel
      by_cases hlt : k < l.length
      · obtain ⟨s, hs⟩ : ∃ x, l[k]? = some x := ⟨_, List.getElem?_eq_getElem hlt⟩
        obtain ⟨⟨u, x⟩, hx⟩ : ∃ x, bl[k]? = some x := ⟨_, List.getElem?_eq_getElem (by have := HLN.out; omega)⟩
        have hz : (l.zip bl)[k]? = some (s, (u, x)) := by rw [List.getElem?_zip_eq_some]; exact ⟨hs, hx⟩
        obtain ⟨g, off, c', hv', _, _, hcell⟩ := (HL.out.below HO.out.2).cell hs
        cases hv'
        obtain ⟨g2, off2, c2', hv2, _, _, d0, d1⟩ := (HBL.out.belowF HO.out.2).cell2 hx
        cases hv2
        have hkb : k < bl.length := (List.getElem?_eq_some_iff.1 hx).1
        have hr := fun W => right1_calls s (u, x) W (HSZ.out _ (List.mem_of_getElem? hx))
        have HZ := Lib.hid hz
        cases hq : goodB s (u, x) with
        | true =>
          rw [hq] at hr
          have HR := Lib.hid hr
          have HN : Hid (((l.zip bl).take (k + 1)).all (fun p => goodB p.1 p.2) = true) := Lib.hid (by rw [all_take_succ hz, HO.out.1, hq]; rfl)
          clear hs hx hz hr hq
          go_wp2_with fail
          refine (HR.out _).mono ?_
          rintro e w2 ⟨rfl, hb⟩
          have HB2 := Lib.hid ((HO.out.2.alloc HO.out.2.size _).trans (hb.mono (HO.out.2.alloc HO.out.2.size _).size))
          clear hb
          go_wp2_with fail
          go_roundw
          case rel => exact ⟨k + 1, by omega, by go_num, HN.out, HB2.out⟩
          case measure => simp [intOf]; omega
        | false =>
          rw [hq] at hr
          have HR := Lib.hid hr
          have HE : Hid (G = false) := Lib.hid (by rw [HGG.out]; exact all_not hz hq)
          clear hs hx hz hr hq
          go_wp2_with fail
          refine (HR.out _).mono ?_
          rintro e w2 ⟨rfl, hb⟩
          have HB2 := Lib.hid ((HO.out.2.alloc HO.out.2.size _).trans (hb.mono (HO.out.2.alloc HO.out.2.size _).size))
          clear hb
          go_wp2_with fail
          go_ret
          exact ⟨by rw [HE.out]; rfl, HB2.out⟩
      · obtain rfl : k = l.length := by omega
        have HE : Hid (G = true) := Lib.hid (by
          rw [HGG.out]
          have h1 := HO.out.1
          rwa [List.take_of_length_le (by rw [List.length_zip]; omega)] at h1)
        go_wp2_with fail
        go_ret
        exact ⟨by rw [HE.out]; rfl, HO.out.2⟩
  · have f0 : ((l.length : Int) == (bl.length : Int)) = false := by simp; omega
    have f0' : ((l.length : Int) != (bl.length : Int)) = true := by simp only [bne, f0]; rfl
    have HE : Hid (G = false) := Lib.hid (by rw [← HG.out]; unfold eqBlk; rw [decide_eq_false hlen]; rfl)
    clear hlen
    go_enter Tryz.func167, Tryz.ntmps167
    go_wp2_with fail
    go_ret
    exact ⟨by rw [HE.out]; rfl, Below.refl _ _⟩

def rightM (m : Mt) : Bool := m.r.right && (decide ((m.vf.length : Int) = m.r.epoch + 1) && ((kindL (toL m.sig) == 103) && (m.vf.all (fun v => kindL (toL v) == 117) && eqBlk (others m.r) m.bl)))
/-- what texts can be -/
structure Mt.wf (m : Mt) : Prop where
  r : m.r.wf
  ver : m.ver < 18446744073709551616
  sig : m.sig.size ≤ 9223372036854775807
  vf : ∀ s ∈ m.vf, s.size ≤ 9223372036854775807
  bl : ∀ b ∈ m.bl, b.1.size ≤ 9223372036854775807 ∧ b.2.size ≤ 9223372036854775807
set_option maxRecDepth 100000 in
set_option maxHeartbeats 4000000 in
theorem mright_calls (w : World) (m : Mt) (vr vw vv vb : Value) (hl : MLists w m vr vw vv vb) (hT : Tabs w) (hw : m.wf) :
    Calls Tryz.prog 58 #[agM m vr vw vv vb] w fun e w' => e = .returned (.bool (rightM m)) ∧ Below w.heap.size w w' := by
  have HX := Lib.hid (mt_box hl hT)
  obtain ⟨A, ca, rfl, a1, a2, _⟩ := hl.rt.rd
  obtain ⟨C, cb, rfl, b1, b2, _⟩ := hl.rt.wr
  obtain ⟨D, cd, rfl, d1, d2⟩ := hl.vf.form
  obtain ⟨E, ce, rfl, e1, e2⟩ := hl.bl.form
  have HRT := Lib.hid (fun w' (h : MtAt w w' w.heap.size m (.slice A m.r.rd.length ca) (.slice C m.r.wr.length cb) (.slice D m.vf.length cd) (.slice E m.bl.length ce)) => rright_calls w' m.r _ _ h.lists.rt h.tabs hw.r)
  have HOT := Lib.hid (fun w' (h : MtAt w w' w.heap.size m (.slice A m.r.rd.length ca) (.slice C m.r.wr.length cb) (.slice D m.vf.length cd) (.slice E m.bl.length ce)) (hn : m.r.rd.length + m.r.wr.length ≤ 100000) => others_calls w' m.r _ _ h.lists.rt hn)
  have HKS := Lib.hid (fun w' => mkind_calls m.sig 103 w' hw.sig)
  have HVF := Lib.hid hw.vf
  have HWB := Lib.hid (fun b (hb : b ∈ m.bl) => (hw.bl b hb).2)
  have hRG : m.r.right = true → m.r.good := Rt.right_good
  have hRM : rightM m = (m.r.right && (decide ((m.vf.length : Int) = m.r.epoch + 1) && ((kindL (toL m.sig) == 103) && (m.vf.all (fun v => kindL (toL v) == 117) && eqBlk (others m.r) m.bl)))) := rfl
  obtain ⟨G, hG⟩ : ∃ G, rightM m = G := ⟨_, rfl⟩
  rw [hG] at hRM ⊢
  obtain ⟨⟨ow, fi, ep, rd, wr'⟩, ver, vf, bl, sig⟩ := m
  dsimp only [mtCells, agM, agR] at *
  have HRM := Lib.hid hRM
  clear hl hT hw hRM hG
  obtain ⟨⟨c0, c1, c2, c3, c4⟩, c5, c6, c7, c8⟩ := HX.out.cells
  dsimp only at c0 c1 c2 c3 c4 c5 c6 c7 c8
  cases hrr : Rt.right ⟨ow, fi, ep, rd, wr'⟩ with
  | false =>
    have HE : Hid (G = false) := Lib.hid (by rw [HRM.out, hrr]; rfl)
    rw [hrr] at HRT
    clear hrr hRG
    go_enter Tryz.func58, Tryz.ntmps58
    go_wp2_with fail
    refine (HRT.out _ HX.out).mono ?_
    rintro e w1 ⟨rfl, hb⟩
    have X1 := Lib.hid (HX.out.next hb)
    clear hb
    go_wp2_with fail
    go_ret
    exact ⟨by rw [HE.out]; rfl, X1.out.below⟩
  | true =>
    have hg := hRG hrr
    have hep0 : 0 ≤ ep := hg.lo
    have hep7 : ep ≤ 7 := hg.hi
    have hn5 : rd.length + wr'.length ≤ 5 := hg.len
    have hR1 := HRM.out
    rw [hrr, Bool.true_and] at hR1
    rw [hrr] at HRT
    by_cases hvl : (vf.length : Int) = ep + 1
    · rw [decide_eq_true hvl, Bool.true_and] at hR1
      have g1 : ((vf.length : Int) == ep + 1) = true := by simpa using hvl
      have g2 : ((vf.length : Int) != ep + 1) = false := by simp only [bne, g1]; rfl
      cases hks : (kindL (toL sig) == 103) with
      | false =>
        rw [hks] at HKS hR1
        have HE : Hid (G = false) := Lib.hid hR1
        clear hrr hRG hg hvl hks hR1
        go_enter Tryz.func58, Tryz.ntmps58
        go_wp2_with fail
        refine (HRT.out _ HX.out).mono ?_
        rintro e w1 ⟨rfl, hb⟩
        have X1 := Lib.hid (HX.out.next hb)
        clear hb c0 c1 c2 c3 c4 c5 c6 c7 c8
        obtain ⟨⟨c0, c1, c2, c3, c4⟩, c5, c6, c7, c8⟩ := X1.out.cells
        dsimp only at c0 c1 c2 c3 c4 c5 c6 c7 c8
        go_wp2_with fail
        refine (HKS.out _).mono ?_
        rintro e w2 ⟨rfl, hb⟩
        have X2 := Lib.hid (X1.out.next hb)
        clear hb
        go_wp2_with fail
        go_ret
        exact ⟨by rw [HE.out]; rfl, X2.out.below⟩
      | true =>
        rw [hks, Bool.true_and] at hR1
        rw [hks] at HKS
        have HR2 := Lib.hid hR1
        clear hrr hRG hg hvl hks hR1
        go_enter Tryz.func58, Tryz.ntmps58
        go_wp2_with fail
        refine (HRT.out _ HX.out).mono ?_
        rintro e w1 ⟨rfl, hb⟩
        have X1 := Lib.hid (HX.out.next hb)
        clear hb c0 c1 c2 c3 c4 c5 c6 c7 c8
        obtain ⟨⟨c0, c1, c2, c3, c4⟩, c5, c6, c7, c8⟩ := X1.out.cells
        dsimp only at c0 c1 c2 c3 c4 c5 c6 c7 c8
        go_wp2_with fail
        refine (HKS.out _).mono ?_
        rintro e w2 ⟨rfl, hb⟩
        have X2 := Lib.hid (X1.out.next hb)
        clear hb c0 c1 c2 c3 c4 c5 c6 c7 c8
        obtain ⟨⟨c0, c1, c2, c3, c4⟩, c5, c6, c7, c8⟩ := X2.out.cells
        dsimp only at c0 c1 c2 c3 c4 c5 c6 c7 c8
        go_wp2_with fail
        clear c0 c1 c2 c3 c4 c5 c6 c7 c8
        go_loopw [29] (fun i wr => ∃ k : Nat, k ≤ vf.length ∧ i = .int .i64 k ∧ Hid ((vf.take k).all (fun v => kindL (toL v) == 117) = true ∧ MtAt w wr w.heap.size ⟨⟨ow, fi, ep, rd, wr'⟩, ver, vf, bl, sig⟩ (.slice A rd.length ca) (.slice C wr'.length cb) (.slice D vf.length cd) (.slice E bl.length ce))) (fun i _ => vf.length - (intOf i).toNat)
        case atStart => exact ⟨0, Nat.zero_le _, rfl, by simp, X2.out⟩
        case round =>
          obtain ⟨k, hk, rfl, HO⟩ := hrel
          by_cases hlt : k < vf.length
          · obtain ⟨x, hx⟩ : ∃ x, vf[k]? = some x := ⟨_, List.getElem?_eq_getElem hlt⟩
            obtain ⟨g, off, c', hv', _, _, hcell⟩ := HO.out.2.lists.vf.cell hx
            cases hv'
            have hkk := mkind_calls x 117 wr (HVF.out x (List.mem_of_getElem? hx))
            cases hq : (kindL (toL x) == 117) with
            | true =>
              rw [hq] at hkk
              have HKK := Lib.hid hkk
              have HN : Hid ((vf.take (k + 1)).all (fun v => kindL (toL v) == 117) = true) := Lib.hid (by rw [all_take_succ hx, HO.out.1, hq]; rfl)
              clear hx hkk hq
              go_wp2_with fail
              refine HKK.out.mono ?_
              rintro e w3 ⟨rfl, hb⟩
              have X3 := Lib.hid (HO.out.2.next hb)
              clear hb
              go_wp2_with fail
              go_roundw
              case rel => exact ⟨k + 1, by omega, by go_num, HN.out, X3.out⟩
              case measure => simp [intOf]; omega
            | false =>
              rw [hq] at hkk
              have HKK := Lib.hid hkk
              have HE : Hid (G = false) := Lib.hid (by rw [HR2.out, all_not hx hq]; rfl)
              clear hx hkk hq
              go_wp2_with fail
              refine HKK.out.mono ?_
              rintro e w3 ⟨rfl, hb⟩
              have X3 := Lib.hid (HO.out.2.next hb)
              clear hb
              go_wp2_with fail
              go_ret
              exact ⟨by rw [HE.out]; rfl, X3.out.below⟩
          · obtain rfl : k = vf.length := by omega
            have hall := HO.out.1
            rw [List.take_length] at hall
            have HE : Hid (G = eqBlk (others ⟨ow, fi, ep, rd, wr'⟩) bl) := Lib.hid (by rw [HR2.out, hall]; rfl)
            clear hall
            obtain ⟨⟨c0, c1, c2, c3, c4⟩, c5, c6, c7, c8⟩ := HO.out.2.cells
            dsimp only at c0 c1 c2 c3 c4 c5 c6 c7 c8
            go_wp2_with fail
            refine (HOT.out _ HO.out.2 (by omega)).mono ?_
            rintro e w3 ⟨v, rfl, hown, hb⟩
            have X3 := Lib.hid (HO.out.2.next hb)
            have HEQ := Lib.hid (eqblk_calls w3 v _ _ bl (strs_own hown) X3.out.lists.bl HWB.out)
            obtain ⟨F, cf, rfl, _, _⟩ := own_slice hown
            clear hb hown c0 c1 c2 c3 c4 c5 c6 c7 c8
            obtain ⟨⟨c0, c1, c2, c3, c4⟩, c5, c6, c7, c8⟩ := X3.out.cells
            dsimp only at c0 c1 c2 c3 c4 c5 c6 c7 c8
            go_wp2_with fail
            refine HEQ.out.mono ?_
            rintro e w4 ⟨rfl, hb⟩
            have X4 := Lib.hid (X3.out.next hb)
            clear hb
            go_wp2_with fail
            go_ret
            exact ⟨by rw [HE.out]; rfl, X4.out.below⟩
    · rw [decide_eq_false hvl, Bool.false_and] at hR1
      have HE := Lib.hid hR1
      have g1 : ((vf.length : Int) == ep + 1) = false := by simpa using hvl
      have g2 : ((vf.length : Int) != ep + 1) = true := by simp only [bne, g1]; rfl
      clear hrr hRG hg hvl hR1
      go_enter Tryz.func58, Tryz.ntmps58
      go_wp2_with fail
      refine (HRT.out _ HX.out).mono ?_
      rintro e w1 ⟨rfl, hb⟩
      have X1 := Lib.hid (HX.out.next hb)
      clear hb c0 c1 c2 c3 c4 c5 c6 c7 c8
      obtain ⟨⟨c0, c1, c2, c3, c4⟩, c5, c6, c7, c8⟩ := X1.out.cells
      dsimp only at c0 c1 c2 c3 c4 c5 c6 c7 c8
      go_wp2_with fail
      go_ret
      exact ⟨by rw [HE.out]; rfl, X1.out.below⟩
end Go.Proofs.YtckblcfkajpofaaGreatDoor
namespace Go.Proofs.YtckblcfkajpofaaGreatDoor
open Go.RowKit
set_option linter.unusedVariables false
set_option linter.unusedSimpArgs false

theorem kind_len {s : List UInt8} {k : UInt8} (h : kindL s = k) (hk : k ≠ 0) : s.length ≤ 4000 := by
  have : rightT s = true := by
    cases hr : rightT s with
    | true => rfl
    | false => exact absurd (h.symm.trans ((kindL_right s).2 hr)) hk
  exact right_len this
theorem eqBlk_fst {l : List ByteArray} {bl : List (ByteArray × ByteArray)} (h : eqBlk l bl = true) : bl.map (·.1) = l ∧ ∀ b ∈ bl, kindL (toL b.2) = 98 := by
  unfold eqBlk at h
  rw [Bool.and_eq_true, decide_eq_true_eq] at h
  obtain ⟨h1, h2⟩ := h
  induction l generalizing bl with
  | nil =>
    have : bl = [] := List.eq_nil_of_length_eq_zero (by simpa using h1.symm)
    subst this; simp
  | cons s l ih =>
    cases bl with
    | nil => simp at h1
    | cons b bl =>
      simp only [List.zip_cons_cons, List.all_cons, Bool.and_eq_true] at h2
      obtain ⟨h3, h4⟩ := ih (by simpa using h1) h2.2
      have h5 := h2.1
      unfold goodB at h5
      rw [Bool.and_eq_true, decide_eq_true_eq, beq_iff_eq] at h5
      refine ⟨by simp [h3, h5.1], fun c hc => ?_⟩
      rcases List.mem_cons.1 hc with rfl | hc
      · exact h5.2
      · exact h4 c hc
structure Mt.good (m : Mt) : Prop where
  r : m.r.right = true
  nv : (m.vf.length : Int) = m.r.epoch + 1
  sig : kindL (toL m.sig) = 103
  vf : ∀ v ∈ m.vf, kindL (toL v) = 117
  fst : m.bl.map (·.1) = others m.r
  bl : ∀ b ∈ m.bl, kindL (toL b.2) = 98
theorem rightM_good {m : Mt} (h : rightM m = true) : m.good := by
  unfold rightM at h
  simp only [Bool.and_eq_true, decide_eq_true_eq, beq_iff_eq] at h
  obtain ⟨h1, h2, h3, h4, h5⟩ := h
  obtain ⟨h6, h7⟩ := eqBlk_fst h5
  exact ⟨h1, h2, h3, fun v hv => by simpa using List.all_eq_true.1 h4 v hv, h6, h7⟩
theorem good_rightM {m : Mt} (h : m.good) : rightM m = true := by
  unfold rightM
  have h5 : eqBlk (others m.r) m.bl = true := by
    unfold eqBlk
    rw [← h.fst, Bool.and_eq_true, decide_eq_true_eq]
    refine ⟨by simp, ?_⟩
    rw [List.all_eq_true]
    intro p hp
    have hb := h.bl
    generalize m.bl = bl at hp hb
    induction bl with
    | nil => simp at hp
    | cons b bl ih =>
      simp only [List.map_cons, List.zip_cons_cons, List.mem_cons] at hp
      rcases hp with rfl | hp
      · unfold goodB
        have := hb b List.mem_cons_self
        simp [this]
      · exact ih hp fun c hc => hb c (List.mem_cons_of_mem _ hc)
  simp only [Bool.and_eq_true, decide_eq_true_eq, beq_iff_eq]
  exact ⟨h.r, h.nv, h.sig, List.all_eq_true.2 fun v hv => by simpa using h.vf v hv, h5⟩
theorem Mt.good.names {m : Mt} (h : m.good) : ∀ b ∈ m.bl, b.1.size ≤ 128 := by
  intro b hb
  have hg := Rt.right_good h.r
  have : b.1 ∈ others m.r := by rw [← h.fst]; exact List.mem_map_of_mem hb
  have h2 := (sortB_perm (m.r.rd ++ m.r.wr)).mem_iff.1 this
  rcases List.mem_append.1 h2 with h2 | h2
  · exact hg.rd _ h2
  · exact hg.wr _ h2
theorem Mt.good.nb {m : Mt} (h : m.good) : m.bl.length ≤ 5 := by
  have h1 : (m.bl.map (·.1)).length = (others m.r).length := by rw [h.fst]
  rw [List.length_map] at h1
  have h2 : (others m.r).length = m.r.rd.length + m.r.wr.length := by unfold others; rw [sortB_length, List.length_append]
  have := (Rt.right_good h.r).len
  omega
theorem Mt.good.nv8 {m : Mt} (h : m.good) : m.vf.length ≤ 8 := by
  have := (Rt.right_good h.r).hi
  have := h.nv
  omega
theorem toL_len (s : ByteArray) : (toL s).length = s.size := list_size s
theorem Mt.good.blk {m : Mt} (h : m.good) : ∀ b ∈ m.bl, (blkL b).length ≤ 8100 := by
  intro b hb
  have h1 := h.names b hb
  have h2 := kind_len (h.bl b hb) (by decide)
  have := wall_len_le [toL b.1, toL b.2] 4000 (by omega) (by simp) (fun t ht => by
    simp only [List.mem_cons, List.not_mem_nil, or_false] at ht
    rcases ht with rfl | rfl
    · rw [toL_len]; omega
    · exact h2)
  simp only [List.length_cons, List.length_nil] at this
  unfold blkL
  omega
theorem Mt.good.parts {m : Mt} (h : m.good) (hv : m.ver < 18446744073709551616) : ∀ t ∈ [putR m.r, wput m.ver, wall (m.vf.map toL), wall (m.bl.map blkL)], t.length ≤ 41000 := by
  intro t ht
  have h1 := (Rt.right_good h.r).size
  have h2 := wput_len_le hv
  have h3 := wall_len_le (m.vf.map toL) 4000 (by omega) (by rw [List.length_map]; have := h.nv8; omega) (fun t ht => by
    obtain ⟨v, hv, rfl⟩ := List.mem_map.1 ht
    exact kind_len (h.vf v hv) (by decide))
  have h4 := wall_len_le (m.bl.map blkL) 8100 (by omega) (by rw [List.length_map]; have := h.nb; omega) (fun t ht => by
    obtain ⟨b, hb, rfl⟩ := List.mem_map.1 ht
    exact h.blk b hb)
  rw [List.length_map] at h3 h4
  have h5 : m.vf.length * (9 + 4000) ≤ 8 * (9 + 4000) := Nat.mul_le_mul_right _ h.nv8
  have h6 : m.bl.length * (9 + 8100) ≤ 5 * (9 + 8100) := Nat.mul_le_mul_right _ h.nb
  simp only [List.mem_cons, List.not_mem_nil, or_false] at ht
  rcases ht with rfl | rfl | rfl | rfl <;> omega
theorem Mt.good.size {m : Mt} (h : m.good) (hv : m.ver < 18446744073709551616) : (bodyM m).length ≤ 170000 := by
  have := wall_len_le _ 41000 (by omega) (by simp) (h.parts hv)
  unfold bodyM
  simp only [List.length_cons, List.length_nil] at this
  omega
theorem Mt.good.wf {m : Mt} (h : m.good) (hv : m.ver < 18446744073709551616) : m.wf := by
  refine ⟨(Rt.right_good h.r).wf, hv, ?_, fun s hs => ?_, fun b hb => ⟨?_, ?_⟩⟩
  · have := kind_len h.sig (by decide); rw [toL_len] at this; omega
  · have := kind_len (h.vf s hs) (by decide); rw [toL_len] at this; omega
  · have := h.names b hb; omega
  · have := kind_len (h.bl b hb) (by decide); rw [toL_len] at this; omega

def bodyV (m : Mt) : Value := if rightM m then .tuple #[.string (mkB (bodyM m)), .int .i64 0] else .tuple #[.string ⟨#[]⟩, .int .i64 1]
set_option maxRecDepth 100000 in
set_option maxHeartbeats 1000000 in
theorem Body_calls (w : World) (m : Mt) (vr vw vv vb : Value) (hl : MLists w m vr vw vv vb) (hT : Tabs w) (hw : m.wf) :
    Calls Tryz.prog 61 #[agM m vr vw vv vb] w fun e w' => e = .returned (bodyV m) ∧ Below w.heap.size w w' := by
  have HX := Lib.hid (mt_box hl hT)
  obtain ⟨A, ca, rfl, a1, a2, _⟩ := hl.rt.rd
  obtain ⟨C, cb, rfl, b1, b2, _⟩ := hl.rt.wr
  obtain ⟨D, cd, rfl, d1, d2⟩ := hl.vf.form
  obtain ⟨E, ce, rfl, e1, e2⟩ := hl.bl.form
  have HRT := Lib.hid (fun w' (h : MtAt w w' w.heap.size m (.slice A m.r.rd.length ca) (.slice C m.r.wr.length cb) (.slice D m.vf.length cd) (.slice E m.bl.length ce)) => mright_calls w' m _ _ _ _ h.lists h.tabs hw)
  have HBD := Lib.hid (fun w' (h : MtAt w w' w.heap.size m (.slice A m.r.rd.length ca) (.slice C m.r.wr.length cb) (.slice D m.vf.length cd) (.slice E m.bl.length ce)) (hr : rightM m = true) => body_calls w' m _ _ _ _ h.lists h.tabs (rightM_good hr).r hw.ver (by have := (rightM_good hr).nv8; omega) (by have := (rightM_good hr).nb; omega) (by have := (rightM_good hr).size hw.ver; omega))
  have hBV : bodyV m = if rightM m then .tuple #[.string (mkB (bodyM m)), .int .i64 0] else .tuple #[.string ⟨#[]⟩, .int .i64 1] := rfl
  obtain ⟨G, hG⟩ : ∃ G, bodyV m = G := ⟨_, rfl⟩
  rw [hG] at hBV ⊢
  obtain ⟨b, hb⟩ : ∃ b, rightM m = b := ⟨_, rfl⟩
  obtain ⟨X, hX⟩ : ∃ X, mkB (bodyM m) = X := ⟨_, rfl⟩
  rw [hb] at HRT hBV HBD
  rw [hX] at HBD hBV
  obtain ⟨⟨ow, fi, ep, rd, wr'⟩, ver, vf, bl, sig⟩ := m
  dsimp only [mtCells, agM, agR] at *
  have HBV := Lib.hid hBV
  clear hl hT hw hBV hG hb hX
  obtain ⟨⟨c0, c1, c2, c3, c4⟩, c5, c6, c7, c8⟩ := HX.out.cells
  dsimp only at c0 c1 c2 c3 c4 c5 c6 c7 c8
  cases b with
  | false =>
    go_enter Tryz.func61, Tryz.ntmps61
    go_wp2_with fail
    refine (HRT.out _ HX.out).mono ?_
    rintro e w1 ⟨rfl, hb⟩
    have X1 := Lib.hid (HX.out.next hb)
    clear hb
    go_wp2_with fail
    go_ret2
    exact ⟨by rw [HBV.out]; rfl, X1.out.below⟩
  | true =>
    go_enter Tryz.func61, Tryz.ntmps61
    go_wp2_with fail
    refine (HRT.out _ HX.out).mono ?_
    rintro e w1 ⟨rfl, hb⟩
    have X1 := Lib.hid (HX.out.next hb)
    clear hb c0 c1 c2 c3 c4 c5 c6 c7 c8
    obtain ⟨⟨c0, c1, c2, c3, c4⟩, c5, c6, c7, c8⟩ := X1.out.cells
    dsimp only at c0 c1 c2 c3 c4 c5 c6 c7 c8
    go_wp2_with fail
    refine (HBD.out _ X1.out trivial).mono ?_
    rintro e w2 ⟨rfl, hb⟩
    have X2 := Lib.hid (X1.out.next hb)
    clear hb
    go_wp2_with fail
    go_ret2
    exact ⟨by rw [HBV.out]; rfl, X2.out.below⟩
def putM (m : Mt) : List UInt8 := wall [bodyM m, toL m.sig]
def putMV (m : Mt) : Value := if rightM m then .tuple #[.string (mkB (putM m)), .int .i64 0] else .tuple #[.string ⟨#[]⟩, .int .i64 1]
theorem Mt.good.psize {m : Mt} (h : m.good) (hv : m.ver < 18446744073709551616) : (putM m).length ≤ 341000 := by
  have := wall_len_le [bodyM m, toL m.sig] 170000 (by omega) (by simp) (fun t ht => by
    simp only [List.mem_cons, List.not_mem_nil, or_false] at ht
    rcases ht with rfl | rfl
    · exact h.size hv
    · have := kind_len h.sig (by decide); omega)
  unfold putM
  simp only [List.length_cons, List.length_nil] at this
  omega
set_option maxRecDepth 100000 in
set_option maxHeartbeats 1000000 in
theorem Put_calls (w : World) (m : Mt) (vr vw vv vb : Value) (hl : MLists w m vr vw vv vb) (hT : Tabs w) (hw : m.wf) :
    Calls Tryz.prog 56 #[agM m vr vw vv vb] w fun e w' => e = .returned (putMV m) ∧ Below w.heap.size w w' := by
  have HX := Lib.hid (mt_box hl hT)
  obtain ⟨A, ca, rfl, a1, a2, _⟩ := hl.rt.rd
  obtain ⟨C, cb, rfl, b1, b2, _⟩ := hl.rt.wr
  obtain ⟨D, cd, rfl, d1, d2⟩ := hl.vf.form
  obtain ⟨E, ce, rfl, e1, e2⟩ := hl.bl.form
  have hBD := fun w' (h : MtAt w w' w.heap.size m (.slice A m.r.rd.length ca) (.slice C m.r.wr.length cb) (.slice D m.vf.length cd) (.slice E m.bl.length ce)) => Body_calls w' m _ _ _ _ h.lists h.tabs hw
  unfold bodyV at hBD
  have hPA : rightM m = true → ∀ W : World, Calls Tryz.prog 129 #[.slice (some ⟨W.heap.size, 0, none⟩) 2 2] (W.alloc (.cells #[.string (mkB (bodyM m)), .string m.sig] 9)) fun e w' => e = .returned (.string (mkB (putM m))) ∧ Below (W.alloc (.cells #[.string (mkB (bodyM m)), .string m.sig] 9)).heap.size (W.alloc (.cells #[.string (mkB (bodyM m)), .string m.sig] 9)) w' := fun hr W => by
    have e : wall ([mkB (bodyM m), m.sig].map toL) = putM m := by unfold putM; simp [mkB_list]
    have := putall_calls _ _ _ (strs_lit W 9 [mkB (bodyM m), m.sig] (by simp)) (by simp) (by rw [e]; have := (rightM_good hr).psize hw.ver; omega)
    rw [e] at this
    exact this
  have hPV : putMV m = if rightM m then .tuple #[.string (mkB (putM m)), .int .i64 0] else .tuple #[.string ⟨#[]⟩, .int .i64 1] := rfl
  obtain ⟨G, hG⟩ : ∃ G, putMV m = G := ⟨_, rfl⟩
  rw [hG] at hPV ⊢
  obtain ⟨b, hb⟩ : ∃ b, rightM m = b := ⟨_, rfl⟩
  obtain ⟨X, hX⟩ : ∃ X, mkB (bodyM m) = X := ⟨_, rfl⟩
  obtain ⟨Y, hY⟩ : ∃ Y, mkB (putM m) = Y := ⟨_, rfl⟩
  rw [hb] at hPV hPA
  simp only [hb, hX] at hBD
  rw [hY] at hPV
  simp only [hX, hY] at hPA
  obtain ⟨⟨ow, fi, ep, rd, wr'⟩, ver, vf, bl, sig⟩ := m
  dsimp only [mtCells, agM, agR] at *
  have HPV := Lib.hid hPV
  have HBD := Lib.hid hBD
  have HPA := Lib.hid hPA
  clear hl hT hw hPV hG hb hX hY hBD hPA
  obtain ⟨⟨c0, c1, c2, c3, c4⟩, c5, c6, c7, c8⟩ := HX.out.cells
  dsimp only at c0 c1 c2 c3 c4 c5 c6 c7 c8
  cases b with
  | false =>
    simp only [Bool.false_eq_true, if_false] at HBD
    go_enter Tryz.func56, Tryz.ntmps56
    go_wp2_with fail
    refine (HBD.out _ HX.out).mono ?_
    rintro e w1 ⟨rfl, hb⟩
    have X1 := Lib.hid (HX.out.next hb)
    clear hb
    go_wp2_with fail
    go_ret2
    exact ⟨by rw [HPV.out]; rfl, X1.out.below⟩
  | true =>
    simp only [if_true] at HBD
    go_enter Tryz.func56, Tryz.ntmps56
    go_wp2_with fail
    refine (HBD.out _ HX.out).mono ?_
    rintro e w1 ⟨rfl, hb⟩
    have X1 := Lib.hid (HX.out.next hb)
    clear hb c0 c1 c2 c3 c4 c5 c6 c7 c8
    obtain ⟨⟨c0, c1, c2, c3, c4⟩, c5, c6, c7, c8⟩ := X1.out.cells
    dsimp only at c0 c1 c2 c3 c4 c5 c6 c7 c8
    go_wp2_with fail
    refine (HPA.out trivial _).mono ?_
    rintro e w2 ⟨rfl, hb⟩
    have X2 := Lib.hid ((X1.out.alloc _).next hb)
    clear hb
    go_wp2_with fail
    go_ret2
    exact ⟨by rw [HPV.out]; rfl, X2.out.below⟩
end Go.Proofs.YtckblcfkajpofaaGreatDoor
namespace Go.Proofs.YtckblcfkajpofaaGreatDoor
open Go.RowKit
set_option linter.unusedVariables false
set_option linter.unusedSimpArgs false

def checkM (m : Mt) (pub owner file : ByteArray) : Int :=
  if rightM m && (kindL (toL pub) == 117) then match ofText (bodyM m) with
    | .error _ => 7
    | .ok t => if verifyT (toL pub) t (toL m.sig) = 0 then (if m.r.owner = owner ∧ m.r.file = file then 0 else 3) else 7
  else 1
theorem verifyT_vals (p a s : List UInt8) : verifyT p a s = 0 ∨ verifyT p a s = 1 ∨ verifyT p a s = 7 := by
  unfold verifyT
  split
  · split <;> simp
  · simp
theorem ofText_err {s : List UInt8} {e : Int} (h : ofText s = .error e) : e = 10 := by
  unfold ofText at h; split at h <;> cases h; rfl
theorem ofText_ok {s t : List UInt8} (h : ofText s = .ok t) : t = 116 :: wtext s ∧ rightT t = true := by
  unfold ofText at h
  split at h
  · cases h
  · rename_i hc; cases h; exact ⟨rfl, right_text (by omega)⟩
set_option maxRecDepth 100000 in
set_option maxHeartbeats 4000000 in
theorem check_calls (w : World) (m : Mt) (vr vw vv vb : Value) (pub owner file : ByteArray) (hl : MLists w m vr vw vv vb) (hT : Tabs w) (hw : m.wf) (hp : pub.size ≤ 9223372036854775807) :
    Calls Tryz.prog 59 #[agM m vr vw vv vb, .string pub, .string owner, .string file] w fun e w' => e = .returned (.int .i64 (checkM m pub owner file)) ∧ Below w.heap.size w w' := by
  have HX := Lib.hid (mt_box hl hT)
  obtain ⟨A, ca, rfl, a1, a2, _⟩ := hl.rt.rd
  obtain ⟨C, cb, rfl, b1, b2, _⟩ := hl.rt.wr
  obtain ⟨D, cd, rfl, d1, d2⟩ := hl.vf.form
  obtain ⟨E, ce, rfl, e1, e2⟩ := hl.bl.form
  have hBD := fun w' (h : MtAt w w' w.heap.size m (.slice A m.r.rd.length ca) (.slice C m.r.wr.length cb) (.slice D m.vf.length cd) (.slice E m.bl.length ce)) => Body_calls w' m _ _ _ _ h.lists h.tabs hw
  unfold bodyV at hBD
  have hKP := fun w' => mkind_calls pub 117 w' hp
  have hOT := fun (hr : rightM m = true) w' => oftext_calls (mkB (bodyM m)) w' (by rw [mkB_size]; have := (rightM_good hr).size hw.ver; omega)
  simp only [show toL (mkB (bodyM m)) = bodyM m from mkB_list _] at hOT
  have hVF := fun t w' (h : t.size ≤ 9223372036854775807) => verify_calls pub t m.sig w' hp h hw.sig
  have hCM : checkM m pub owner file = if rightM m && (kindL (toL pub) == 117) then match ofText (bodyM m) with
    | .error _ => 7
    | .ok t => if verifyT (toL pub) t (toL m.sig) = 0 then (if m.r.owner = owner ∧ m.r.file = file then 0 else 3) else 7
  else 1 := rfl
  obtain ⟨G, hG⟩ : ∃ G, checkM m pub owner file = G := ⟨_, rfl⟩
  rw [hG] at hCM ⊢
  obtain ⟨b, hb⟩ : ∃ b, rightM m = b := ⟨_, rfl⟩
  simp only [hb] at hBD hCM hOT
  obtain ⟨BL, hBL⟩ : ∃ BL, bodyM m = BL := ⟨_, rfl⟩
  simp only [hBL] at hBD hCM hOT
  obtain ⟨X, hX⟩ : ∃ X, mkB BL = X := ⟨_, rfl⟩
  simp only [hX] at hBD hOT
  obtain ⟨⟨ow, fi, ep, rd, wr'⟩, ver, vf, bl, sig⟩ := m
  dsimp only [mtCells, agM, agR] at *
  have HVF := Lib.hid hVF
  have HCM := Lib.hid hCM
  clear hl hT hw hG hb hX hBL hVF hCM
  obtain ⟨⟨c0, c1, c2, c3, c4⟩, c5, c6, c7, c8⟩ := HX.out.cells
  dsimp only at c0 c1 c2 c3 c4 c5 c6 c7 c8
  cases b with
  | false =>
    simp only [Bool.false_eq_true, if_false] at hBD
    have HE : Hid (G = 1) := Lib.hid (by rw [HCM.out]; rfl)
    have HBD := Lib.hid hBD
    clear hBD hKP hOT
    go_enter Tryz.func59, Tryz.ntmps59
    go_wp2_with fail
    refine (HBD.out _ HX.out).mono ?_
    rintro e w1 ⟨rfl, hb⟩
    have X1 := Lib.hid (HX.out.next hb)
    clear hb
    go_wp2_with fail
    go_ret
    exact ⟨by rw [HE.out]; rfl, X1.out.below⟩
  | true =>
    simp only [if_true] at hBD
    have HBD := Lib.hid hBD
    cases hk : (kindL (toL pub) == 117) with
    | false =>
      simp only [hk] at hKP
      have HE : Hid (G = 1) := Lib.hid (by rw [HCM.out, hk]; rfl)
      have HKP := Lib.hid hKP
      clear hBD hKP hOT hk
      go_enter Tryz.func59, Tryz.ntmps59
      go_wp2_with fail
      refine (HBD.out _ HX.out).mono ?_
      rintro e w1 ⟨rfl, hb⟩
      have X1 := Lib.hid (HX.out.next hb)
      clear hb
      go_wp2_with fail
      refine (HKP.out _).mono ?_
      rintro e w2 ⟨rfl, hb⟩
      have X2 := Lib.hid (X1.out.next hb)
      clear hb
      go_wp2_with fail
      go_ret
      exact ⟨by rw [HE.out]; rfl, X2.out.below⟩
    | true =>
      simp only [hk] at hKP
      have hC2 := HCM.out
      rw [hk] at hC2
      simp only [Bool.and_self, if_true] at hC2
      have HKP := Lib.hid hKP
      have hOT := hOT rfl
      cases ho : ofText BL with
      | error er =>
        simp only [ho] at hC2 hOT
        obtain rfl := ofText_err ho
        simp only [exV] at hOT
        have HE := Lib.hid hC2
        have HOT := Lib.hid hOT
        clear hBD hKP hOT hk hC2 ho
        go_enter Tryz.func59, Tryz.ntmps59
        go_wp2_with fail
        refine (HBD.out _ HX.out).mono ?_
        rintro e w1 ⟨rfl, hb⟩
        have X1 := Lib.hid (HX.out.next hb)
        clear hb
        go_wp2_with fail
        refine (HKP.out _).mono ?_
        rintro e w2 ⟨rfl, hb⟩
        have X2 := Lib.hid (X1.out.next hb)
        clear hb
        go_wp2_with fail
        refine (HOT.out _).mono ?_
        rintro e w3 ⟨rfl, hb⟩
        have X3 := Lib.hid (X2.out.next hb)
        clear hb
        go_wp2_with fail
        go_ret
        exact ⟨by rw [HE.out]; rfl, X3.out.below⟩
      | ok t =>
        simp only [ho] at hC2 hOT
        have htr := (ofText_ok ho).2
        have hts : (mkB t).size ≤ 9223372036854775807 := by rw [mkB_size]; have := right_len htr; omega
        have hV := fun w' => HVF.out (mkB t) w' hts
        simp only [show toL (mkB t) = t from mkB_list t] at hV
        simp only [exV] at hOT
        obtain ⟨TT, hTT⟩ : ∃ TT, mkB t = TT := ⟨_, rfl⟩
        simp only [hTT] at hV hOT
        have HOT := Lib.hid hOT
        by_cases hv0 : verifyT (toL pub) t (toL sig) = 0
        · simp only [hv0, if_true] at hC2
          simp only [hv0] at hV
          have HV := Lib.hid hV
          have go : ∀ (W : World) (r : Int), True := fun _ _ => trivial
          by_cases how : ow = owner
          · by_cases hfi : fi = file
            · subst how; subst hfi
              rw [if_pos ⟨rfl, rfl⟩] at hC2
              have HE := Lib.hid hC2
              clear hBD hKP hOT hk hC2 ho htr hts hV hTT hv0 go
              go_enter Tryz.func59, Tryz.ntmps59
              go_wp2_with fail
              refine (HBD.out _ HX.out).mono ?_
              rintro e w1 ⟨rfl, hb⟩
              have X1 := Lib.hid (HX.out.next hb)
              clear hb
              go_wp2_with fail
              refine (HKP.out _).mono ?_
              rintro e w2 ⟨rfl, hb⟩
              have X2 := Lib.hid (X1.out.next hb)
              clear hb
              go_wp2_with fail
              refine (HOT.out _).mono ?_
              rintro e w3 ⟨rfl, hb⟩
              have X3 := Lib.hid (X2.out.next hb)
              clear hb c0 c1 c2 c3 c4 c5 c6 c7 c8
              obtain ⟨⟨c0, c1, c2, c3, c4⟩, c5, c6, c7, c8⟩ := X3.out.cells
              dsimp only at c0 c1 c2 c3 c4 c5 c6 c7 c8
              go_wp2_with fail
              refine (HV.out _).mono ?_
              rintro e w4 ⟨rfl, hb⟩
              have X4 := Lib.hid (X3.out.next hb)
              clear hb c0 c1 c2 c3 c4 c5 c6 c7 c8
              obtain ⟨⟨c0, c1, c2, c3, c4⟩, c5, c6, c7, c8⟩ := X4.out.cells
              dsimp only at c0 c1 c2 c3 c4 c5 c6 c7 c8
              go_wp2_with fail
              go_ret
              exact ⟨by rw [HE.out]; rfl, X4.out.below⟩
            · subst how
              rw [if_neg (fun h => hfi h.2)] at hC2
              have HE := Lib.hid hC2
              have f1 : (fi.toList == file.toList) = false := by rw [beq_str]; simp [hfi]
              have f2 : (fi.toList != file.toList) = true := by simp only [bne, f1]; rfl
              clear hBD hKP hOT hk hC2 ho htr hts hV hTT hv0 go hfi
              go_enter Tryz.func59, Tryz.ntmps59
              go_wp2_with fail
              refine (HBD.out _ HX.out).mono ?_
              rintro e w1 ⟨rfl, hb⟩
              have X1 := Lib.hid (HX.out.next hb)
              clear hb
              go_wp2_with fail
              refine (HKP.out _).mono ?_
              rintro e w2 ⟨rfl, hb⟩
              have X2 := Lib.hid (X1.out.next hb)
              clear hb
              go_wp2_with fail
              refine (HOT.out _).mono ?_
              rintro e w3 ⟨rfl, hb⟩
              have X3 := Lib.hid (X2.out.next hb)
              clear hb c0 c1 c2 c3 c4 c5 c6 c7 c8
              obtain ⟨⟨c0, c1, c2, c3, c4⟩, c5, c6, c7, c8⟩ := X3.out.cells
              dsimp only at c0 c1 c2 c3 c4 c5 c6 c7 c8
              go_wp2_with fail
              refine (HV.out _).mono ?_
              rintro e w4 ⟨rfl, hb⟩
              have X4 := Lib.hid (X3.out.next hb)
              clear hb c0 c1 c2 c3 c4 c5 c6 c7 c8
              obtain ⟨⟨c0, c1, c2, c3, c4⟩, c5, c6, c7, c8⟩ := X4.out.cells
              dsimp only at c0 c1 c2 c3 c4 c5 c6 c7 c8
              go_wp2_with fail
              go_ret
              exact ⟨by rw [HE.out]; rfl, X4.out.below⟩
          · rw [if_neg (fun h => how h.1)] at hC2
            have HE := Lib.hid hC2
            have f1 : (ow.toList == owner.toList) = false := by rw [beq_str]; simp [how]
            have f2 : (ow.toList != owner.toList) = true := by simp only [bne, f1]; rfl
            clear hBD hKP hOT hk hC2 ho htr hts hV hTT hv0 go how
            go_enter Tryz.func59, Tryz.ntmps59
            go_wp2_with fail
            refine (HBD.out _ HX.out).mono ?_
            rintro e w1 ⟨rfl, hb⟩
            have X1 := Lib.hid (HX.out.next hb)
            clear hb
            go_wp2_with fail
            refine (HKP.out _).mono ?_
            rintro e w2 ⟨rfl, hb⟩
            have X2 := Lib.hid (X1.out.next hb)
            clear hb
            go_wp2_with fail
            refine (HOT.out _).mono ?_
            rintro e w3 ⟨rfl, hb⟩
            have X3 := Lib.hid (X2.out.next hb)
            clear hb c0 c1 c2 c3 c4 c5 c6 c7 c8
            obtain ⟨⟨c0, c1, c2, c3, c4⟩, c5, c6, c7, c8⟩ := X3.out.cells
            dsimp only at c0 c1 c2 c3 c4 c5 c6 c7 c8
            go_wp2_with fail
            refine (HV.out _).mono ?_
            rintro e w4 ⟨rfl, hb⟩
            have X4 := Lib.hid (X3.out.next hb)
            clear hb c0 c1 c2 c3 c4 c5 c6 c7 c8
            obtain ⟨⟨c0, c1, c2, c3, c4⟩, c5, c6, c7, c8⟩ := X4.out.cells
            dsimp only at c0 c1 c2 c3 c4 c5 c6 c7 c8
            go_wp2_with fail
            go_ret
            exact ⟨by rw [HE.out]; rfl, X4.out.below⟩
        · rw [if_neg hv0] at hC2
          have HE := Lib.hid hC2
          obtain ⟨rv, hrv⟩ : ∃ rv, verifyT (toL pub) t (toL sig) = rv := ⟨_, rfl⟩
          have hvals := verifyT_vals (toL pub) t (toL sig)
          rw [hrv] at hv0 hvals
          simp only [hrv] at hV
          have f1 : (rv == 0) = false := by simpa using hv0
          have f2 : (rv != 0) = true := by simp only [bne, f1]; rfl
          have HV := Lib.hid hV
          clear hBD hKP hOT hk hC2 ho htr hts hV hTT hv0 hvals hrv
          go_enter Tryz.func59, Tryz.ntmps59
          go_wp2_with fail
          refine (HBD.out _ HX.out).mono ?_
          rintro e w1 ⟨rfl, hb⟩
          have X1 := Lib.hid (HX.out.next hb)
          clear hb
          go_wp2_with fail
          refine (HKP.out _).mono ?_
          rintro e w2 ⟨rfl, hb⟩
          have X2 := Lib.hid (X1.out.next hb)
          clear hb
          go_wp2_with fail
          refine (HOT.out _).mono ?_
          rintro e w3 ⟨rfl, hb⟩
          have X3 := Lib.hid (X2.out.next hb)
          clear hb c0 c1 c2 c3 c4 c5 c6 c7 c8
          obtain ⟨⟨c0, c1, c2, c3, c4⟩, c5, c6, c7, c8⟩ := X3.out.cells
          dsimp only at c0 c1 c2 c3 c4 c5 c6 c7 c8
          go_wp2_with fail
          refine (HV.out _).mono ?_
          rintro e w4 ⟨rfl, hb⟩
          have X4 := Lib.hid (X3.out.next hb)
          clear hb c0 c1 c2 c3 c4 c5 c6 c7 c8
          go_wp2_with fail
          go_ret
          exact ⟨by rw [HE.out]; rfl, X4.out.below⟩
end Go.Proofs.YtckblcfkajpofaaGreatDoor
