/- user: what is owned: own. user: in memory; drawn, Name, Secret, Public, New. user: New. user: Files, Own. user: Own. user: name.Path; Create. law 14: shown. -/
import Derived.Test.YtckblcfkajpofaaGreatDoorZA8
import Derived.Test.YtckblcfkajpofaaGreatDoorZA4
import Derived.Test.YtckblcfkajpofaaGreatDoorZA5
import Derived.Test.YtckblcfkajpofaaGreatDoorZA1
import Derived.Laws.CopyOwn
import Derived.Test.YtckblcfkajpofaaGreatDoorLayKy
import Derived.Sort.KeysCollected
import Derived.WideMake
namespace Go.Proofs.YtckblcfkajpofaaGreatDoor
open Go.RowKit
set_option linter.unusedVariables false
set_option linter.unusedSimpArgs false

structure Ow where
  r : Rt
  ver : Nat
  root : ByteArray
  sg : List ByteArray
  gone : Bool
def owCells (o : Ow) (vr vw vs : Value) : Array Value := #[.string o.r.owner, .string o.r.file, .int .i64 o.r.epoch, vr, vw, .int .u64 o.ver, .string o.root, vs, .bool o.gone]
abbrev agO (o : Ow) (vr vw vs : Value) : Value := .agg #[.string o.r.owner, .string o.r.file, .int .i64 o.r.epoch, vr, vw, .int .u64 o.ver, .string o.root, vs, .bool o.gone]
structure OLists (w : World) (o : Ow) (vr vw vs : Value) : Prop where
  rt : Lists w o.r vr vw
  sg : strs w vs o.sg
theorem OLists.below {w w' : World} {o : Ow} {vr vw vs : Value} (h : OLists w o vr vw vs) (k : Below w.heap.size w w') : OLists w' o vr vw vs := ⟨h.rt.below k, h.sg.below k⟩
/-- lists of its own, in new blocks -/
structure OOwn (w : World) (B : Nat) (o : Ow) (vr vw vs : Value) : Prop where
  rd : w.ownsRow B 9 1 vr o.r.rd.length (strV o.r.rd)
  wr : w.ownsRow B 9 1 vw o.r.wr.length (strV o.r.wr)
  sg : w.ownsRow B 9 1 vs o.sg.length (strV o.sg)
theorem OOwn.lists {w : World} {B : Nat} {o : Ow} {vr vw vs : Value} (h : OOwn w B o vr vw vs) : OLists w o vr vw vs := ⟨⟨strs_own h.rd, strs_own h.wr⟩, strs_own h.sg⟩
theorem info_ow : (Tryz.prog.info? 111).map (·.size) = some 9 := by kernel_rfl
theorem infoS1 : (Tryz.prog.info? 9).map (·.size) = some 1 := by kernel_rfl
theorem infoS3 : (Tryz.prog.info? 9).map (fun i => (i.zero, i.size, i.bytes)) = some (some (.string ⟨#[]⟩), 1, 16) := by kernel_rfl
set_option maxRecDepth 100000 in
set_option maxHeartbeats 2000000 in
theorem own_calls (w : World) (o : Ow) (vr vw vs : Value) (hl : OLists w o vr vw vs) (h1 : o.r.rd.length ≤ 1000) (h2 : o.r.wr.length ≤ 1000) (h3 : o.sg.length ≤ 1000) :
    Calls Tryz.prog 186 #[agO o vr vw vs] w fun e w' => ∃ vr' vw' vs', e = .returned (agO o vr' vw' vs') ∧ OOwn w' w.heap.size o vr' vw' vs' ∧ Below w.heap.size w w' := by
  obtain ⟨⟨ow, fi, ep, rd, wr⟩, ver, root, sg, gone⟩ := o
  dsimp only at *
  obtain ⟨A, ca, rfl, a1, a2⟩ := hl.rt.rd.form
  obtain ⟨C, cb, rfl, b1, b2⟩ := hl.rt.wr.form
  obtain ⟨D, cd, rfl, d1, d2⟩ := hl.sg.form
  have hmk := fun W => run_make_row' (P := Tryz.prog) 35 9 (.string ⟨#[]⟩) 16 Tryz.underlying35 infoS3 rfl .i64 .i64 sg.length (by omega) (by omega) W
  rw [strV_made] at hmk
  have HL := Lib.hid hl
  clear hl
  have hsrc : 0 < sg.length → ∀ W, Keep (fun _ => False) w W → ∃ ad, D = some ad ∧ ∀ j v, (strV sg)[j]? = some v → W.cell? (ad.add j) = some v := by
    intro h0 W hW
    obtain ⟨A', c', hv', hc1, hc2, hc3⟩ := HL.out.sg
    cases hv'
    obtain ⟨b, off, rfl, hcell⟩ := hc3 h0
    refine ⟨_, rfl, fun j v hj => ?_⟩
    rw [strV_get] at hj
    obtain ⟨s, hs, rfl⟩ := Option.map_eq_some_iff.1 hj
    rw [add_at]
    exact hW.cell (hcell j s hs) fun e => e
  have HS := Lib.hid hsrc
  clear hsrc
  have hlz : (strV sg).length = sg.length := by simp [strV]
  have hsp : splice (strV (List.replicate sg.length ⟨#[]⟩)) 0 (strV sg) = strV sg := by simp [splice, strV]
  obtain ⟨W, hW⟩ : ∃ W, ((w.alloc (.cells #[.string ow, .string fi, .int .i64 ep, .slice A rd.length ca, .slice C wr.length cb, .int .u64 ver, .string root, .slice D sg.length cd, .bool gone] 111)).alloc (.cells #[.string ⟨#[]⟩, .string ⟨#[]⟩, .int .i64 0, .slice none 0 0, .slice none 0 0, .int .u64 0, .string ⟨#[]⟩, .slice none 0 0, .bool false] 111)) = W := ⟨_, rfl⟩
  obtain ⟨B, hB⟩ : ∃ B, w.heap.size = B := ⟨_, rfl⟩
  have hWs : W.heap.size = B + 2 := by rw [← hW, ← hB]; simp [size_alloc]
  have hWB : Below B w W := by rw [← hW, ← hB]; exact ((Below.refl _ w).alloc (Nat.le_refl _) _).alloc (by simp) _
  have hr0 : W.heap[B]? = some (.cells #[.string ow, .string fi, .int .i64 ep, .slice A rd.length ca, .slice C wr.length cb, .int .u64 ver, .string root, .slice D sg.length cd, .bool gone] 111 (0, 0)) := by
    rw [← hW, ← hB, get_alloc, if_neg (by simp [size_alloc]), get_alloc, if_pos rfl]
  have hr1 : W.heap[B + 1]? = some (.cells #[.string ⟨#[]⟩, .string ⟨#[]⟩, .int .i64 0, .slice none 0 0, .slice none 0 0, .int .u64 0, .string ⟨#[]⟩, .slice none 0 0, .bool false] 111 (0, 0)) := by
    rw [← hW, ← hB, get_alloc, if_pos (by simp [size_alloc])]
  have hkW : Keep (fun _ => False) w W := Keep.of_below (hB ▸ hWB)
  obtain ⟨c0, c1, c2, c3, c4, c5, c6, c7, c8⟩ := row9 hr0
  rw [hB]
  have HR0 := Lib.hid hr0
  have HR1 := Lib.hid hr1
  have HWB := Lib.hid hWB
  have HKW := Lib.hid hkW
  clear hr0 hr1 hWB hkW
  go_enter Tryz.func186, Tryz.ntmps186
  go_wp2_with (with_reducible refine wpList_copy_splice rfl (.tmp 8) (.tmp 10) _ _ rfl _ Tryz.underlying35 infoS1 _ _ _ _ _ _ rfl rfl (B + 2) 0 (strV (List.replicate sg.length ⟨#[]⟩)) 9 (by rw [get_alloc, if_pos hWs.symm]) (strV sg) (by simp [strV]) (fun h0 => ⟨rfl, HS.out (by simpa [strV] using h0) _ (HKW.out.same (Keep.alloc _ _ _))⟩) (by simp [strV]) (strV_one _) W.heap.size W ((Below.refl _ W).alloc (Nat.le_refl _) _) (Nat.le_of_eq hWs) ?_)
  intro w3 hg3 hb3
  have hb3' : Below W.heap.size W w3 := hWs ▸ hb3
  have HB3 := Lib.hid hb3'
  have hg3' := hg3.out
  have HG3 := Lib.hid hg3'
  have hr0' := (Keep.of_below (F := fun _ => False) hb3').at HR0.out fun e => e
  have hr1' := (Keep.of_below (F := fun _ => False) hb3').at HR1.out fun e => e
  clear hg3 hg3' hb3 hb3' c0 c1 c2 c3 c4 c5 c6 c7 c8
  obtain ⟨c0, c1, c2, c3, c4, c5, c6, c7, c8⟩ := row9 hr0'
  have f7 := frozen_of_row hr0' 7
  have hset := set_at hr0' 7 (.slice (some ⟨B + 2, 0, none⟩) sg.length sg.length)
  have hkset : Keep (fun i => i = B) w3 (w3.setCell ⟨B, 7, none⟩ (.slice (some ⟨B + 2, 0, none⟩) sg.length sg.length)) := Keep.setCell (fun i => i = B) w3 (p := ⟨B, 7, none⟩) rfl _
  obtain ⟨W4, hW4⟩ : ∃ W4, w3.setCell ⟨B, 7, none⟩ (.slice (some ⟨B + 2, 0, none⟩) sg.length sg.length) = W4 := ⟨_, rfl⟩
  rw [hW4] at hset hkset
  have HSET := Lib.hid hset
  have HKSET := Lib.hid hkset
  clear hset hkset hr0' hr1'
  go_wp2_with fail
  have hbW4 : Below w.heap.size w W4 := below_keep ((hB ▸ HWB.out : Below w.heap.size w W).trans (HB3.out.mono (by rw [hWs, hB]; omega))) (by rw [hB]; exact HKSET.out)
  have HBW := Lib.hid hbW4
  have hs4 : W4.heap[B]? = some (.cells #[.string ow, .string fi, .int .i64 ep, .slice A rd.length ca, .slice C wr.length cb, .int .u64 ver, .string root, .slice (some ⟨B + 2, 0, none⟩) sg.length sg.length, .bool gone] 111 (0, 0)) := by
    have := HSET.out; simpa using this
  have H4 := Lib.hid hs4
  have hg4 : W4.heap[B + 2]? = some (.cells (strV sg).toArray 9 (0, 0)) := HKSET.out.at HG3.out (by omega)
  have HG4 := Lib.hid hg4
  have hz4 : W4.heap[B + 1]? = some (.cells #[.string ⟨#[]⟩, .string ⟨#[]⟩, .int .i64 0, .slice none 0 0, .slice none 0 0, .int .u64 0, .string ⟨#[]⟩, .slice none 0 0, .bool false] 111 (0, 0)) := HKSET.out.at ((Keep.of_below (F := fun _ => False) HB3.out).at HR1.out fun e => e) (by omega)
  have HZ4 := Lib.hid hz4
  clear hs4 hg4 hz4 hbW4 c0 c1 c2 c3 c4 c5 c6 c7 c8 f7 hW4 hW hlz hsp hmk
  have hl2 : B + 2 < W4.heap.size := (Array.getElem?_eq_some_iff.1 HG4.out).1
  clear hWs
  refine wp_region_G (fun w' => w'.cell? ⟨B, 3, none⟩ = some (.slice A rd.length ca) ∧ w'.cell? ⟨B, 4, none⟩ = some (.slice C wr.length cb)) [10] (by kernel_rfl) ?_
  have hS : W4.drew.cell? ⟨B, 3, none⟩ = some (.slice A rd.length ca) ∧ W4.drew.cell? ⟨B, 4, none⟩ = some (.slice C wr.length cb) := ⟨cell_of_row _ _ _ _ _ _ H4.out, cell_of_row _ _ _ _ _ _ H4.out⟩
  refine wpAnyG_pure (i := 0) (v := ?va0) at0 (by kernel_rfl) (fun _ _ _ h => h) (Or.inl ⟨by rfl, ?ha0⟩) (Or.inr (by assumption)) ?ra0
  case ha0 => (intro w hSw; (try dsimp only at hSw); go_simp; try with_reducible rfl)
  case' ra0 => skip
  try simp only [Act.put, List.setIfInBounds_toArray, List.set_cons_zero, List.set_cons_succ]
  refine wpAnyG_pure (i := 1) (v := ?va1) at1 (by kernel_rfl) (fun _ _ _ h => h) (Or.inl ⟨by rfl, ?ha1⟩) (Or.inr (by assumption)) ?ra1
  case ha1 => (intro w hSw; (try dsimp only at hSw); go_simp; try with_reducible rfl)
  case' ra1 => skip
  try simp only [Act.put, List.setIfInBounds_toArray, List.set_cons_zero, List.set_cons_succ]
  refine wpAnyG_take (ws := [2,6,3,7]) (i := 2) (v := ?va2) at2 (by kernel_rfl) (fun _ _ _ h => h) (Or.inl ⟨by rfl, ?ha2⟩) (by assumption) ?ra2
  case ha2 => (intro w hSw; (try dsimp only at hSw); go_simp; try with_reducible rfl)
  case' ra2 => skip
  try simp only [Act.put, List.setIfInBounds_toArray, List.set_cons_zero, List.set_cons_succ]
  refine wpAnyG_pure (i := 4) (v := ?va4) at4 (by kernel_rfl) (fun _ _ _ h => h) (Or.inl ⟨by rfl, ?ha4⟩) (Or.inr (by assumption)) ?ra4
  case ha4 => (intro w hSw; (try dsimp only at hSw); go_simp; try with_reducible rfl)
  case' ra4 => skip
  try simp only [Act.put, List.setIfInBounds_toArray, List.set_cons_zero, List.set_cons_succ]
  refine wpAnyG_pure (i := 5) (v := ?va5) at5 (by kernel_rfl) (fun _ _ _ h => h) (Or.inl ⟨by rfl, ?ha5⟩) (Or.inr (by assumption)) ?ra5
  case ha5 => (intro w hSw; (try dsimp only at hSw); go_simp; try with_reducible rfl)
  case' ra5 => skip
  try simp only [Act.put, List.setIfInBounds_toArray, List.set_cons_zero, List.set_cons_succ]
  refine wpAnyG_take (ws := [2,6,3,7]) (i := 6) (v := ?va6) at6 (by kernel_rfl) (fun _ _ _ h => h) (Or.inl ⟨by rfl, ?ha6⟩) (by assumption) ?ra6
  case ha6 => (intro w hSw; (try dsimp only at hSw); go_simp; try with_reducible rfl)
  case' ra6 => skip
  try simp only [Act.put, List.setIfInBounds_toArray, List.set_cons_zero, List.set_cons_succ]
  refine wpAnyG_one 3 at3 (by kernel_rfl) (fun Kn hK => ?_)
  go_simp
  refine (clone_strs ((HL.out.rt.rd.below HBW.out).below (Below.refl _ W4).drew) (by dsimp only; omega)).mono ?_
  rintro e w5 ⟨v5, rfl, ho5, hb5⟩
  have hb5' : Below W4.heap.size W4 w5 := (Below.refl _ W4).drew.trans hb5
  have H5 := Lib.hid ((Keep.of_below (F := fun _ => False) hb5').at H4.out fun e => e)
  have G5 := Lib.hid ((Keep.of_below (F := fun _ => False) hb5').at HG4.out fun e => e)
  have Z5 := Lib.hid ((Keep.of_below (F := fun _ => False) hb5').at HZ4.out fun e => e)
  have B5 := Lib.hid (HBW.out.trans (hb5'.mono HBW.out.size))
  have O5 := Lib.hid ho5
  have S5 := Lib.hid hb5'.size
  obtain ⟨A5, c5, rfl, _, _⟩ := own_slice ho5
  have hS5 : w5.cell? ⟨B, 3, none⟩ = some (.slice A rd.length ca) ∧ w5.cell? ⟨B, 4, none⟩ = some (.slice C wr.length cb) := ⟨cell_of_row _ _ _ _ _ _ H5.out, cell_of_row _ _ _ _ _ _ H5.out⟩
  refine hK.out _ _ (Or.inr hS5) ?_
  clear hb5 hb5' ho5 hS hK Kn
  try simp only [Act.put, List.setIfInBounds_toArray, List.set_cons_zero, List.set_cons_succ]
  refine wpAnyG_pure (i := 8) (v := ?vb8) at8 (by kernel_rfl) (fun _ _ _ h => h) (Or.inl ⟨by rfl, ?hb8⟩) (Or.inr (by assumption)) ?rb8
  case hb8 => (intro w hSw; (try dsimp only at hSw); go_simp; try with_reducible rfl)
  case' rb8 => skip
  try simp only [Act.put, List.setIfInBounds_toArray, List.set_cons_zero, List.set_cons_succ]
  refine wpAnyG_pure (i := 9) (v := ?vb9) at9 (by kernel_rfl) (fun _ _ _ h => h) (Or.inl ⟨by rfl, ?hb9⟩) (Or.inr (by assumption)) ?rb9
  case hb9 => (intro w hSw; (try dsimp only at hSw); go_simp; try with_reducible rfl)
  case' rb9 => skip
  try simp only [Act.put, List.setIfInBounds_toArray, List.set_cons_zero, List.set_cons_succ]
  refine wpAnyG_one 7 at7 (by kernel_rfl) (fun Kn hK => ?_)
  go_simp
  refine (clone_strs (HL.out.rt.wr.below B5.out) (by dsimp only; omega)).mono ?_
  rintro e w6 ⟨v6, rfl, ho6, hb6⟩
  have h6 := (Keep.of_below (F := fun _ => False) hb6).at H5.out fun e => e
  have G6 := Lib.hid ((Keep.of_below (F := fun _ => False) hb6).at G5.out fun e => e)
  have Z6 := Lib.hid ((Keep.of_below (F := fun _ => False) hb6).at Z5.out fun e => e)
  have O56 := Lib.hid ((Keep.of_below (F := fun _ => False) hb6).own O5.out fun _ _ e => e)
  have B6 := Lib.hid (B5.out.trans (hb6.mono B5.out.size))
  have O6 := Lib.hid ho6
  obtain ⟨A6, c6, rfl, _, _⟩ := own_slice ho6
  have hS6 : w6.cell? ⟨B, 3, none⟩ = some (.slice A rd.length ca) ∧ w6.cell? ⟨B, 4, none⟩ = some (.slice C wr.length cb) := ⟨cell_of_row _ _ _ _ _ _ h6, cell_of_row _ _ _ _ _ _ h6⟩
  refine hK.out _ _ (Or.inr hS6) ?_
  have d3 := hS6.1
  have d4 := hS6.2
  have e3 := frozen_of_row h6 3
  have e4 := frozen_of_row h6 4
  have H6 := Lib.hid h6
  clear hb6 ho6 hS5 hS6 hK Kn h6
  try simp only [Act.put, List.setIfInBounds_toArray, List.set_cons_zero, List.set_cons_succ]
  refine wpAnyG_one 10 at10 (by kernel_rfl) (fun Kn hK => ?_)
  go_simp
  have h7 := set_at H6.out 3 (.slice A5 rd.length c5)
  have k7 : Keep (fun i => i = B) w6 (w6.setCell ⟨B, 3, none⟩ (.slice A5 rd.length c5)) := Keep.setCell (fun i => i = B) w6 (p := ⟨B, 3, none⟩) rfl _
  obtain ⟨W7, hW7⟩ : ∃ W7, w6.setCell ⟨B, 3, none⟩ (.slice A5 rd.length c5) = W7 := ⟨_, rfl⟩
  rw [hW7] at h7 k7 ⊢
  refine hK.out _ _ (Or.inl (by kernel_rfl)) ?_
  have d4 := cell_of_row _ _ 4 _ _ _ h7
  have e4 := frozen_of_row h7 4
  have h8 := set_at h7 4 (.slice A6 wr.length c6)
  have k8 : Keep (fun i => i = B) W7 (W7.setCell ⟨B, 4, none⟩ (.slice A6 wr.length c6)) := Keep.setCell (fun i => i = B) W7 (p := ⟨B, 4, none⟩) rfl _
  have H7 := Lib.hid (k7.same k8)
  have H8 := Lib.hid h8
  simp at d4
  clear h7 k7 h8 k8 hK Kn hW7 d3 e3
  try simp only [Act.put, List.setIfInBounds_toArray, List.set_cons_zero, List.set_cons_succ]
  refine wpAnyG_pure (i := 11) (v := ?vc11) at11 (by kernel_rfl) (fun _ _ _ h => h) (Or.inl ⟨by rfl, ?hc11⟩) (Or.inl (by kernel_rfl)) ?rc11
  case hc11 => (intro w hSw; (try dsimp only at hSw); go_simp; try with_reducible rfl)
  case' rc11 => skip
  try simp only [Act.put, List.setIfInBounds_toArray, List.set_cons_zero, List.set_cons_succ]
  refine wpAnyG_pure (i := 12) (v := ?vc12) at12 (by kernel_rfl) (fun _ _ _ h => h) (Or.inl ⟨by rfl, ?hc12⟩) (Or.inl (by kernel_rfl)) ?rc12
  case hc12 => (intro w hSw; (try dsimp only at hSw); go_simp; try with_reducible rfl)
  case' rc12 => skip
  try simp only [Act.put, List.setIfInBounds_toArray, List.set_cons_zero, List.set_cons_succ]
  refine wpAnyG_one 13 at13 (by kernel_rfl) (fun Kn hK => ?_)
  go_simp
  obtain ⟨W8, hW8⟩ : ∃ W8, W7.setCell ⟨B, 4, none⟩ (.slice A6 wr.length c6) = W8 := ⟨_, rfl⟩
  rw [hW8] at H7 H8 ⊢
  refine hK.out _ _ (Or.inl (by kernel_rfl)) ?_
  have h8 := H8.out
  simp at h8
  have k8 := H7.out
  clear hK Kn H8 H7 hW8 d4 e4
  refine wpAnyG_done (by kernel_rfl) ?_
  obtain ⟨c0, c1, c2, c3, c4, c5', c6', c7, c8⟩ := row9 h8
  have HZ8 := Lib.hid (k8.at Z6.out (by omega))
  have HS8 := Lib.hid (k8.own O56.out fun b hb e => by have h : W4.drew.heap.size ≤ b := own_new O56.out b hb; have h2 : W4.drew.heap.size = W4.heap.size := rfl; omega)
  have HR8 := Lib.hid (k8.own O6.out fun b hb e => by have := own_new O6.out b hb; have := S5.out; omega)
  have HG8 := Lib.hid (k8.at G6.out (by omega))
  have HB8 := Lib.hid (below_keep B6.out (by rw [hB]; exact k8))
  clear h8 k8
  go_wp2_with (with_reducible refine wp_stop_store _ _ _ rfl ?_)
  unfold Stop
  refine wp_store_all rfl _ _ _ rfl rfl rfl _ _ HZ8.out info_ow rfl (by simp [Value.oneCell']) ?_
  intro w9 h9 k9 s9
  have HF : Hid (OOwn w9 w.heap.size ⟨⟨ow, fi, ep, rd, wr⟩, ver, root, sg, gone⟩ (.slice A5 rd.length c5) (.slice A6 wr.length c6) (.slice (some ⟨B + 2, 0, none⟩) sg.length sg.length) ∧ Below w.heap.size w w9) := Lib.hid (by
    refine ⟨⟨?_, ?_, ?_⟩, ?_⟩
    · exact own_lower (k9.own HS8.out fun b hb e => by have h : W4.drew.heap.size ≤ b := own_new O56.out b hb; have h2 : W4.drew.heap.size = W4.heap.size := rfl; omega) (by have h2 : W4.drew.heap.size = W4.heap.size := rfl; omega)
    · exact own_lower (k9.own HR8.out fun b hb e => by have := own_new O6.out b hb; have := S5.out; omega) (by have := S5.out; omega)
    · exact own_lower (owns_full (k9.at HG8.out (by omega)) (Nat.le_refl _) (by omega)) (by omega)
    · exact ((Keep.of_below HB8.out (F := fun k => w.heap.size ≤ k)).trans k9 fun i hi => Or.inr (by omega)).new)
  clear c0 c1 c2 c3 c4 c5' c6' c7 c8
  obtain ⟨c0, c1, c2, c3, c4, c5', c6', c7, c8⟩ := row9 h9
  clear h9 k9 s9
  go_wp2_with fail
  refine bodyPost_ret (v := .agg #[.string ow, .string fi, .int .i64 ep, .slice A5 rd.length c5, .slice A6 wr.length c6, .int .u64 ver, .string root, .slice (some ⟨B + 2, 0, none⟩) sg.length sg.length, .bool gone]) (by simp [results, Tryz.results186, go_sem, c0, c1, c2, c3, c4, c5', c6', c7, c8]) rfl ⟨_, _, _, rfl, hB ▸ HF.out.1, hB ▸ HF.out.2⟩
end Go.Proofs.YtckblcfkajpofaaGreatDoor
namespace Go.Proofs.YtckblcfkajpofaaGreatDoor
open Go.RowKit Go.Sort
set_option linter.unusedVariables false
set_option linter.unusedSimpArgs false

structure Us where
  name : ByteArray
  secret : ByteArray
  seed : Nat
  drew : Nat
  files : List (ByteArray × Ow)
structure Ow.ok (o : Ow) (n k : ByteArray) : Prop where
  owner : o.r.owner = n
  file : o.r.file = k
  right : o.r.right = true
  ver : o.ver < 18446744073709551616
  root : o.root.size ≤ 4000
  sgn : (o.sg.length : Int) = o.r.epoch + 1
  sgs : ∀ s ∈ o.sg, s.size ≤ 4000
structure Us.ok (U : Us) : Prop where
  name : nameR U.name = true
  seed : U.seed < 18446744073709551616
  secret : U.secret.size ≤ 4000
  all : ∀ k o, aget U.files k = some o → o.ok U.name k
  len : U.files.length ≤ U.drew
structure Rw where
  o : Ow
  vr : Value
  vw : Value
  vs : Value
def Rw.val (r : Rw) : Value := agO r.o r.vr r.vw r.vs
def Rw.off (r : Rw) (F : Nat → Prop) (p d b m : Nat) : Prop := ∀ g, (r.vr.ownBlock = some g ∨ r.vw.ownBlock = some g ∨ r.vs.ownBlock = some g) → F g ∧ g ≠ p ∧ g ≠ d ∧ g ≠ b ∧ g ≠ m
def usCells (U : Us) (d m : Nat) : Array Value := #[.string U.name, .string U.secret, .int .u64 U.seed, .pointer (some ⟨d, 0, none⟩), .map (some m)]
structure UsAt (w : World) (U : Us) (F : Nat → Prop) (p d b m : Nat) (rows : List (ByteArray × Rw)) : Prop where
  row : w.heap[p]? = some (.cells (usCells U d m) 162 (0, 0))
  drs : IsDraws w U.seed U.drew d b
  map : smap w Value.string m (amap Rw.val rows)
  files : U.files = amap Rw.o rows
  lists : ∀ k r, aget rows k = some r → OLists w r.o r.vr r.vw r.vs
  off : ∀ k r, aget rows k = some r → r.off F p d b m
  fp : F p
  fd : F d
  fb : F b
  fm : F m
  lt : ∀ i, F i → i < w.heap.size
  t3 : ¬ F (Tryz.laysValid_ren.g 3)
  t4 : ¬ F (Tryz.laysValid_ren.g 4)
theorem OLists.keep {w w' : World} {o : Ow} {vr vw vs : Value} {F : Nat → Prop} (h : OLists w o vr vw vs) (k : Keep F w w') (hn : ∀ g, (vr.ownBlock = some g ∨ vw.ownBlock = some g ∨ vs.ownBlock = some g) → ¬ F g) : OLists w' o vr vw vs :=
  ⟨⟨h.rt.rd.keep k fun b hb => hn b (Or.inl hb), h.rt.wr.keep k fun b hb => hn b (Or.inr (Or.inl hb))⟩, h.sg.keep k fun b hb => hn b (Or.inr (Or.inr hb))⟩
section
variable {w w' : World} {U : Us} {F G : Nat → Prop} {p d b m : Nat} {rows : List (ByteArray × Rw)}
theorem UsAt.keep (h : UsAt w U F p d b m rows) (k : Keep G w w') (hn : ∀ i, F i → ¬ G i) : UsAt w' U F p d b m rows :=
  ⟨k.at h.row (hn _ h.fp), h.drs.keep k (hn _ h.fd) (hn _ h.fb), k.smap h.map (hn _ h.fm), h.files, fun k' r hr => (h.lists k' r hr).keep k fun g hg => hn g (h.off k' r hr g hg).1, h.off, h.fp, h.fd, h.fb, h.fm, fun i hi => Nat.lt_of_lt_of_le (h.lt i hi) k.size, h.t3, h.t4⟩
theorem UsAt.below (h : UsAt w U F p d b m rows) (k : Below w.heap.size w w') : UsAt w' U F p d b m rows := h.keep (G := fun _ => False) (Keep.of_below k) fun _ _ e => e
theorem UsAt.pd (h : UsAt w U F p d b m rows) : p ≠ d := by
  rintro rfl; have := h.row.symm.trans h.drs.hd; simp [usCells] at this
theorem UsAt.pb (h : UsAt w U F p d b m rows) : p ≠ b := by
  rintro rfl; have := h.row.symm.trans h.drs.hb; simp [usCells] at this
theorem UsAt.mp (h : UsAt w U F p d b m rows) : m ≠ p := by
  rintro rfl; obtain ⟨es, c, h1, _⟩ := h.map; have := h1.symm.trans h.row; simp at this
theorem UsAt.md (h : UsAt w U F p d b m rows) : m ≠ d := by
  rintro rfl; obtain ⟨es, c, h1, _⟩ := h.map; have := h1.symm.trans h.drs.hd; simp at this
theorem UsAt.mb (h : UsAt w U F p d b m rows) : m ≠ b := by
  rintro rfl; obtain ⟨es, c, h1, _⟩ := h.map; have := h1.symm.trans h.drs.hb; simp at this
theorem UsAt.cells (h : UsAt w U F p d b m rows) : w.cell? ⟨p, 0, none⟩ = some (.string U.name) ∧ w.cell? ⟨p, 1, none⟩ = some (.string U.secret) ∧ w.cell? ⟨p, 2, none⟩ = some (.int .u64 U.seed) ∧ w.cell? ⟨p, 3, none⟩ = some (.pointer (some ⟨d, 0, none⟩)) ∧ w.cell? ⟨p, 4, none⟩ = some (.map (some m)) := row5 h.row
theorem UsAt.drawn (h : UsAt w U F p d b m rows) (k : Keep (fun i => i = d ∨ i = b) w w') {n : Nat} (hd : IsDraws w' U.seed n d b) : UsAt w' { U with drew := n } F p d b m rows :=
  ⟨k.at h.row (by have := h.pd; have := h.pb; omega), hd, k.smap h.map (by have := h.md; have := h.mb; omega), h.files,
    fun k' r hr => (h.lists k' r hr).keep k fun g hg e => by have := h.off k' r hr g hg; omega, h.off, h.fp, h.fd, h.fb, h.fm, fun i hi => Nat.lt_of_lt_of_le (h.lt i hi) k.size, h.t3, h.t4⟩
end
set_option maxRecDepth 100000 in
set_option maxHeartbeats 1000000 in
theorem drawn_calls {w : World} {U : Us} {F : Nat → Prop} {p d b m : Nat} {rows : List (ByteArray × Rw)} (h : UsAt w U F p d b m rows) (hd : U.drew < 1000000) (use who : ByteArray) (h1 : use.size ≤ 1000) (h2 : who.size ≤ 1000000) :
    Calls Tryz.prog 120 #[.pointer (some ⟨p, 0, none⟩), .string use, .string who] w fun e w' => e = .returned (.string (secT use who (drawN U.seed U.drew))) ∧ UsAt w' { U with drew := U.drew + 1 } F p d b m rows ∧ Keep (fun i => i = d ∨ i = b) w w' := by
  obtain ⟨c0, c1, c2, c3, c4⟩ := h.cells
  have HN := Lib.hid (next_calls w h.drs hd)
  have hs := fun W => secret_calls use who (drawN U.seed U.drew) W h1 h2 (mixN_lt _)
  obtain ⟨er, he⟩ := exV_L (secretT (toL use) (toL who) (drawN U.seed U.drew))
  rw [he, show mkB (exS (secretT (toL use) (toL who) (drawN U.seed U.drew))) = secT use who (drawN U.seed U.drew) from rfl] at hs
  have HS := Lib.hid hs
  have HU := Lib.hid h
  obtain ⟨T, hT⟩ : ∃ T, secT use who (drawN U.seed U.drew) = T := ⟨_, rfl⟩
  obtain ⟨n, hn⟩ : ∃ n, drawN U.seed U.drew = n := ⟨_, rfl⟩
  rw [hT] at HS ⊢
  rw [hn] at HS HN
  clear hs he h hT hn
  go_enter Tryz.func120, Tryz.ntmps120
  go_wp2_with fail
  refine HN.out.mono ?_
  rintro e w1 ⟨rfl, hd1, hk1⟩
  have H1 := Lib.hid (HU.out.drawn hk1 hd1)
  have K1 := Lib.hid hk1
  clear hd1 hk1
  go_wp2_with fail
  refine (HS.out _).mono ?_
  rintro e w2 ⟨rfl, hb⟩
  have H2 := Lib.hid (H1.out.below hb)
  have K2 := Lib.hid (K1.out.same (Keep.of_below hb))
  clear hb
  go_wp2_with fail
  go_ret
  exact ⟨rfl, H2.out, K2.out⟩
theorem name_calls {w : World} {U : Us} {F : Nat → Prop} {p d b m : Nat} {rows : List (ByteArray × Rw)} (h : UsAt w U F p d b m rows) :
    Calls Tryz.prog 24 #[.pointer (some ⟨p, 0, none⟩)] w fun e w' => e = .returned (.string U.name) ∧ w' = w := by
  obtain ⟨c0, c1, c2, c3, c4⟩ := h.cells
  clear h
  go_enter Tryz.func24, Tryz.ntmps24
  go_wp2_with fail
  go_ret
  exact ⟨rfl, rfl⟩
theorem usecret_calls {w : World} {U : Us} {F : Nat → Prop} {p d b m : Nat} {rows : List (ByteArray × Rw)} (h : UsAt w U F p d b m rows) :
    Calls Tryz.prog 25 #[.pointer (some ⟨p, 0, none⟩)] w fun e w' => e = .returned (.string U.secret) ∧ w' = w := by
  obtain ⟨c0, c1, c2, c3, c4⟩ := h.cells
  clear h
  go_enter Tryz.func25, Tryz.ntmps25
  go_wp2_with fail
  go_ret
  exact ⟨rfl, rfl⟩
theorem public_calls {w : World} {U : Us} {F : Nat → Prop} {p d b m : Nat} {rows : List (ByteArray × Rw)} (h : UsAt w U F p d b m rows) (hs : U.secret.size ≤ 4000) :
    Calls Tryz.prog 26 #[.pointer (some ⟨p, 0, none⟩)] w fun e w' => e = .returned (.string (pubT U.secret)) ∧ Below w.heap.size w w' := by
  obtain ⟨c0, c1, c2, c3, c4⟩ := h.cells
  have hp := ofpublic_calls U.secret w (by omega)
  obtain ⟨er, he⟩ := exV_L (ofOne 117 (toL U.secret))
  rw [he, show mkB (exS (ofOne 117 (toL U.secret))) = pubT U.secret from rfl] at hp
  have HP := Lib.hid hp
  clear hp he h
  go_enter Tryz.func26, Tryz.ntmps26
  go_wp2_with fail
  refine HP.out.mono ?_
  rintro e w1 ⟨rfl, hb⟩
  have HB := Lib.hid hb
  clear hb
  go_wp2_with fail
  go_ret
  exact ⟨rfl, HB.out⟩
end Go.Proofs.YtckblcfkajpofaaGreatDoor
namespace Go.Proofs.YtckblcfkajpofaaGreatDoor
open Go.RowKit Go.Sort
set_option linter.unusedVariables false
set_option linter.unusedSimpArgs false

theorem Tabs.lt {w : World} (h : Tabs w) : Tryz.laysValid_ren.g 3 < w.heap.size ∧ Tryz.laysValid_ren.g 4 < w.heap.size := by
  have hc : ∀ {a : Addr} {v : Value}, w.cell? a = some v → a.block < w.heap.size := by
    intro a v ha
    unfold World.cell? at ha
    cases hb : w.heap[a.block]? with
    | none => rw [hb] at ha; simp at ha
    | some o => exact (Array.getElem?_eq_some_iff.1 hb).1
  exact ⟨hc (h.1 0 (by omega)), hc (h.2 0 (by omega)).1⟩
def unew (s : ByteArray) (seed : Nat) : Us := ⟨s, secT ⟨#[117, 115, 101, 114]⟩ s (drawN seed 0), seed, 1, []⟩
theorem UsAt.secret {w : World} {U : Us} {F : Nat → Prop} {p d b m : Nat} {rows : List (ByteArray × Rw)} (h : UsAt w U F p d b m rows) (s : ByteArray) : UsAt (w.setCell ⟨p, 1, none⟩ (.string s)) { U with secret := s } F p d b m rows := by
  have k : Keep (fun i => i = p) w (w.setCell ⟨p, 1, none⟩ (.string s)) := Keep.setCell (fun i => i = p) w (p := ⟨p, 1, none⟩) rfl _
  refine ⟨?_, h.drs.keep k (Ne.symm h.pd) (Ne.symm h.pb), k.smap h.map h.mp, h.files, fun k' r hr => (h.lists k' r hr).keep k fun g hg e => (h.off k' r hr g hg).2.1 e, h.off, h.fp, h.fd, h.fb, h.fm, fun i hi => Nat.lt_of_lt_of_le (h.lt i hi) k.size, h.t3, h.t4⟩
  have := set_at h.row 1 (.string s)
  simpa [usCells] using this
theorem unew_ok {s : ByteArray} {seed : Nat} (h : nameR s = true) (hs : seed < 18446744073709551616) : (unew s seed).ok :=
  ⟨h, hs, secT_size _ _ _, fun k o hk => by simp [unew, aget] at hk, Nat.zero_le _⟩
def four (p d b m : Nat) : Nat → Prop := fun i => i = p ∨ i = d ∨ i = b ∨ i = m
set_option maxRecDepth 100000 in
set_option maxHeartbeats 2000000 in
theorem unew_calls (w : World) (s : ByteArray) (seed : Nat) (hs : s.size ≤ 9223372036854775807) (hd : seed < 18446744073709551616) (hT : Tabs w) :
    Calls Tryz.prog 22 #[.string s, .int .u64 seed] w fun e w' => Below w.heap.size w w' ∧ if nameR s then ∃ p d b m, e = .returned (.tuple #[.pointer (some ⟨p, 0, none⟩), .int .i64 0]) ∧ UsAt w' (unew s seed) (four p d b m) p d b m [] ∧ (∀ i, four p d b m i → w.heap.size ≤ i)
      else e = .returned (.tuple #[.pointer none, .int .i64 3]) := by
  have HR := Lib.hid (right_calls s w hs hT)
  have HT := Lib.hid hT
  clear hT
  cases hn : nameR s with
  | false =>
    rw [hn] at HR
    clear hn
    go_enter Tryz.func22, Tryz.ntmps22
    go_wp2_with fail
    refine HR.out.mono ?_
    rintro e w1 ⟨rfl, hb⟩
    have HB := Lib.hid hb
    clear hb
    go_wp2_with fail
    go_ret2
    exact ⟨HB.out, by simp⟩
  | true =>
    have hsz := nameR_size hn
    rw [hn] at HR
    have HDN := Lib.hid (fun W => dnew_calls W seed hd)
    clear hn
    go_enter Tryz.func22, Tryz.ntmps22
    go_wp2_with fail
    refine HR.out.mono ?_
    rintro e w1 ⟨rfl, hb1⟩
    have B1 := Lib.hid hb1
    clear hb1
    go_wp2_with fail
    refine (HDN.out w1).mono ?_
    rintro e w2 ⟨rfl, hd2, hs2, hb2⟩
    obtain ⟨B, hB⟩ : ∃ B, w1.heap.size = B := ⟨_, rfl⟩
    have hBw : w.heap.size ≤ B := by rw [← hB]; exact B1.out.size
    rw [hB] at hd2 hs2 ⊢
    have D2 := Lib.hid hd2
    have B2 := Lib.hid (B1.out.trans (hb2.mono B1.out.size))
    clear hd2 hb2
    obtain ⟨W, hW⟩ : ∃ W, ((w2.alloc (.map #[] 0)).alloc (.cells #[.string s, .string ⟨#[]⟩, .int .u64 seed, .pointer (some ⟨B + 1, 0, none⟩), .map (some (B + 2))] 162)) = W := ⟨_, rfl⟩
    have hWS : W.heap.size = B + 4 := by rw [← hW]; simp [size_alloc, hs2]
    have hU : UsAt W ⟨s, ⟨#[]⟩, seed, 0, []⟩ (four (B + 2 + 1) (B + 1) B (B + 2)) (B + 2 + 1) (B + 1) B (B + 2) [] := by
      have hk : Keep (fun _ => False) w2 W := by rw [← hW]; exact (Keep.alloc (fun _ => False) w2 _).same (Keep.alloc (fun _ => False) _ _)
      refine ⟨?_, D2.out.keep hk (fun e => e) fun e => e, ?_, rfl, fun k r hr => by simp [aget] at hr, fun k r hr => by simp [aget] at hr, Or.inl rfl, Or.inr (Or.inl rfl), Or.inr (Or.inr (Or.inl rfl)), Or.inr (Or.inr (Or.inr rfl)), ?_, ?_, ?_⟩
      · rw [← hW, get_alloc, if_pos (by rw [size_alloc, hs2])]; rfl
      · have := (smap_made w2 Value.string).alloc (.cells #[.string s, .string ⟨#[]⟩, .int .u64 seed, .pointer (some ⟨B + 1, 0, none⟩), .map (some (B + 2))] 162)
        rw [hW, hs2] at this
        exact this
      · intro i hi; rw [hWS]; unfold four at hi; omega
      · have := HT.out.lt.1; intro hi; unfold four at hi; omega
      · have := HT.out.lt.2; intro hi; unfold four at hi; omega
    have hbW : Below w.heap.size w W := by rw [← hW]; exact (B2.out.alloc B2.out.size _).alloc (B2.out.alloc B2.out.size _).size _
    have hmm := fun W => run_makeMap_plain (P := Tryz.prog) (w := W) 160
    have HD := Lib.hid (drawn_calls hU (by simp) ⟨#[117, 115, 101, 114]⟩ s (by decide) (by omega))
    have HBW := Lib.hid hbW
    clear hU hbW
    go_wp2_with fail
    refine HD.out.mono ?_
    rintro e w3 ⟨rfl, hU3, hk3⟩
    have hr3 := hU3.row
    unfold usCells at hr3
    have c1 := (row5 hr3).2.1
    have f1 := frozen_of_row hr3 1
    have hU4 := hU3.secret (secT ⟨#[117, 115, 101, 114]⟩ s (drawN seed 0))
    have hk4 : Keep (fun i => w.heap.size ≤ i) w3 (w3.setCell ⟨B + 2 + 1, 1, none⟩ (.string (secT ⟨#[117, 115, 101, 114]⟩ s (drawN seed 0)))) := Keep.setCell (fun i => w.heap.size ≤ i) w3 (p := ⟨B + 2 + 1, 1, none⟩) (by show w.heap.size ≤ B + 2 + 1; omega) _
    have hb4 : Below w.heap.size w (w3.setCell ⟨B + 2 + 1, 1, none⟩ (.string (secT ⟨#[117, 115, 101, 114]⟩ s (drawN seed 0)))) :=
      (((Keep.of_below HBW.out (F := fun i => w.heap.size ≤ i)).trans hk3 fun i hi => Or.inr (by omega)).same hk4).new
    obtain ⟨W4, hW4⟩ : ∃ W4, w3.setCell ⟨B + 2 + 1, 1, none⟩ (.string (secT ⟨#[117, 115, 101, 114]⟩ s (drawN seed 0))) = W4 := ⟨_, rfl⟩
    have HT4 : Hid (UsAt w3 _ _ _ _ _ _ _) := Lib.hid hU3
    rw [hW4] at hU4 hb4
    have HU4 := Lib.hid hU4
    have HB4 := Lib.hid hb4
    obtain ⟨T, hT⟩ : ∃ T, secT ⟨#[117, 115, 101, 114]⟩ s (drawN seed 0) = T := ⟨_, rfl⟩
    rw [hT] at hW4
    simp only [hT]
    clear hU4 hb4 hU3 hk3 hk4 hr3
    go_wp2_with fail
    go_ret2
    refine ⟨HB4.out, ?_⟩
    refine ⟨B + 2 + 1, rfl, B + 1, B, B + 2, HU4.out, fun i hi => ?_⟩
    unfold four at hi; omega
end Go.Proofs.YtckblcfkajpofaaGreatDoor
namespace Go.Proofs.YtckblcfkajpofaaGreatDoor
open Go.RowKit Go.Sort
set_option linter.unusedVariables false
set_option linter.unusedSimpArgs false

def anyR : Value → Option (DataW Unit × List MemPlace) := fun _ => some (.nil, [])
def unL (x : List UInt8) : ByteArray := ⟨x.toArray⟩
theorem unL_data (s : ByteArray) : unL s.data.toList = s := by cases s; simp [unL]
theorem encStr_un (x : List UInt8) : encStr x = Value.string (unL x) := by simp [encStr, unL]

/-- a map of string keys, for the shelf -/
theorem smap.owns {w : World} {b : Nat} {l : List (ByteArray × Value)} (h : smap w Value.string b l) (hl : l.length ≤ 100000) (hk : ∀ k ∈ akeys l, k.size ≤ 200) :
    ∃ D : DataW Unit, w.ownsMap Tryz.prog 9 anyR b l.length D ∧ Maps.size D = l.length ∧ ∀ ss : List (List UInt8), ss.Perm (strKeys D) → (ss.map unL).Perm (akeys l) := by
  obtain ⟨es, clock, hb, hs, he, hn⟩ := h
  have hlen : es.toList.length = l.length := by have := congrArg List.length he; simpa using this
  have hkey : ∀ x ∈ es.toList, ∃ k ∈ akeys l, x.key = .string k := fun x hx => by
    have h1 : (x.key, x.val) ∈ es.toList.map (fun e => (e.key, e.val)) := List.mem_map.2 ⟨x, hx, rfl⟩
    rw [he] at h1
    obtain ⟨p, hp, e⟩ := List.mem_map.1 h1
    simp only [Prod.mk.injEq] at e
    exact ⟨p.1, List.mem_map.2 ⟨p, hp, rfl⟩, e.1.symm⟩
  have hrd : ∀ x ∈ es.toList, ∀ k, x.key = .string k → k ∈ akeys l → Go.WideElems.rd Tryz.prog 9 anyR x = some (.string k.data.toList, .nil) := fun x hx k e hm => by
    have := Go.WideMaps.keyOf_string_mk Tryz.underlying9 (s := k) (by have := hk k hm; unfold maxLen; omega)
    simp [Go.WideElems.rd, e, this, anyR]
  refine ⟨_, ⟨es, clock, hb, ⟨?_, hs, fun x hx => ?_⟩, ?_, rfl⟩, ?_, fun ss hss => ?_⟩
  · rw [← Array.length_toList, hlen]; unfold maxLen; omega
  · obtain ⟨k, hm, e⟩ := hkey x hx; exact ⟨_, hrd x hx k e hm⟩
  · rw [← Array.length_toList, hlen]; exact Nat.le_refl _
  · rw [Maps.size_eq, (Go.WideShapes.sorted_perm _).length_eq, List.length_map, hlen]
  · have hp : (strKeys (.map ((es.toList.map (Go.WideElems.rg Tryz.prog 9 anyR)).foldr DataW.insert []))).Perm ((es.toList.map (Go.WideElems.rg Tryz.prog 9 anyR)).map fun p => strOf p.1) := (Go.WideShapes.sorted_perm _).map _
    have h2 := (hss.trans hp).map unL
    refine h2.trans (List.Perm.of_eq ?_)
    have h3 : es.toList.map (fun x => x.key) = (akeys l).map Value.string := by
      have := congrArg (List.map Prod.fst) he
      simpa [akeys, Function.comp_def] using this
    rw [List.map_map, List.map_map]
    have h4 : es.toList.map ((unL ∘ fun p => strOf p.1) ∘ Go.WideElems.rg Tryz.prog 9 anyR) = es.toList.map (fun x => match x.key with | .string k => k | _ => ByteArray.empty) := by
      apply List.map_congr_left
      intro x hx
      obtain ⟨k, hm, e⟩ := hkey x hx
      simp [Go.WideElems.rg, hrd x hx k e hm, strOf, e, unL_data]
    rw [h4]
    have h5 := congrArg (List.map (fun v : Value => match v with | .string k => k | _ => ByteArray.empty)) h3
    simpa [Function.comp_def] using h5

set_option maxHeartbeats 1000000 in
theorem collect_keys {w : World} {b : Nat} {l : List (ByteArray × Value)} (h : smap w Value.string b l) (hl : l.length ≤ 100000) (hk : ∀ k ∈ akeys l, k.size ≤ 200) :
    (∀ W, Calls Tryz.prog 126 #[.map (some b)] W fun e w' => e = .returned (.func (.func 228) #[] #[.pointer (some ⟨W.heap.size, 0, none⟩)]) ∧ w' = W.alloc (.cells #[.map (some b)] 160)) ∧
    Calls Tryz.prog 226 #[.func (.func 228) #[] #[.pointer (some ⟨w.heap.size, 0, none⟩)]] (w.alloc (.cells #[.map (some b)] 160)) fun e w' => ∃ (v : Value) (m : List ByteArray), e = .returned v ∧ m.Perm (akeys l) ∧ w'.ownsRow w.heap.size 9 1 v m.length (strV m) ∧ Below w.heap.size w w' := by
  refine ⟨fun W => (callsIn_wide (n := 5)).1 (AnyZ.keys_in Tryz.keysA Fence.wide 5 trivial rfl (some b) W), ?_⟩
  obtain ⟨D, hown, hsz, hperm⟩ := h.owns hl hk
  have hbl := hown.lt
  have hseq : SeqGives Fence.wide 3 Tryz.prog 228 #[.pointer (some ⟨w.heap.size, 0, none⟩)] encStr (fun ss => ss.Perm (strKeys D)) (Maps.size D) (w.alloc (.cells #[.map (some b)] 160)) :=
    AnyZ.keys_gives (ρ := Tryz.keysA_ren) { Tryz.keysA with } Fence.wide _ trivial rfl (by omega) w.heap.size b l.length D _ (by simp) (by simp) (by
      obtain ⟨es, clock, hb, Ft, hs, hD⟩ := hown
      exact ⟨es, clock, (Below.heap_alloc _ _ b hbl).trans hb, Ft, hs, hD⟩)
  have cS := AnyZ.collect_in Tryz.collA Fence.wide 5 trivial trivial rfl (by omega) 228 #[.pointer (some ⟨w.heap.size, 0, none⟩)] trivial (enters_of Tryz.func228 (by kernel_rfl) rfl) _ _ (by rw [hsz]; unfold maxLen; omega) (by rw [hsz]; omega) _ hseq
  change CallsIn _ _ Tryz.prog 226 _ _ _ at cS
  refine ((callsIn_wide (n := 5)).1 cS).mono ?_
  rintro e w' ⟨v, ss, rfl, hS, hrow, _, hb⟩
  refine ⟨v, ss.map unL, rfl, hperm ss hS, ?_, ((Below.refl _ w).alloc (Nat.le_refl _) _).trans (hb.mono (by simp))⟩
  have h1 : w'.ownsRow w.heap.size 9 1 v ss.length (ss.map encStr) := ownsRow_base_a hrow (by simp)
  have h2 : ss.map encStr = strV (ss.map unL) := by
    unfold strV; rw [List.map_map]; apply List.map_congr_left; intro x _; exact encStr_un x
  rw [h2] at h1
  simpa using h1


theorem lawS : MK Tryz.prog 9 Value.string := mk_string Tryz.underlying9
theorem zero_ow (w : World) : (zeroValue 111).run Tryz.prog w = .ok (.agg #[.string ⟨#[]⟩, .string ⟨#[]⟩, .int .i64 0, .slice none 0 0, .slice none 0 0, .int .u64 0, .string ⟨#[]⟩, .slice none 0 0, .bool false]) w := by kernel_rfl
set_option maxHeartbeats 1000000 in
theorem sorted_keys {w : World} {b : Nat} {l : List (ByteArray × Value)} (h : smap w Value.string b l) (hl : l.length ≤ 100000) (hk : ∀ k ∈ akeys l, k.size ≤ 200) :
    Calls Tryz.prog 125 #[.func (.func 228) #[] #[.pointer (some ⟨w.heap.size, 0, none⟩)]] (w.alloc (.cells #[.map (some b)] 160)) fun e w' => ∃ (v : Value), e = .returned v ∧ w'.ownsRow w.heap.size 9 1 v (sortB (akeys l)).length (strV (sortB (akeys l))) ∧ Below w.heap.size w w' := by
  have HC := Lib.hid (collect_keys h hl hk).2
  have hkl : (akeys l).length ≤ 100000 := by simpa [akeys] using hl
  have HE : Hid (∀ m : List ByteArray, m.Perm (akeys l) → sortB m = sortB (akeys l) ∧ m.length = (sortB (akeys l)).length ∧ m.length ≤ 100000) := Lib.hid fun m hm => ⟨sortB_congr hm, by rw [sortB_length]; exact hm.length_eq, by rw [hm.length_eq]; exact hkl⟩
  clear h hl hk hkl
  go_enter Tryz.func125, Tryz.ntmps125
  go_wp2_with fail
  refine HC.out.mono ?_
  rintro e w1 ⟨v, m, rfl, hm, ho, hb⟩
  have HM := Lib.hid hm
  have HB := Lib.hid hb
  have HO := Lib.hid ho
  have HS := Lib.hid (sort_calls ho (by have := (HE.out m hm).2.2; omega))
  obtain ⟨A, c, rfl, _, _⟩ := own_slice ho
  clear hm hb ho
  go_wp2_with fail
  refine HS.out.mono ?_
  rintro e w2 ⟨rfl, ho2, hk2⟩
  have h1 := (HE.out m HM.out).1
  have h2 := (HE.out m HM.out).2.1
  rw [h1, h2] at ho2
  have HO2 := Lib.hid ho2
  have HB2 := Lib.hid (below_own HB.out HO.out hk2)
  have HL := Lib.hid h2
  clear ho2 hk2 h1 h2
  go_wp2_with fail
  go_ret
  exact ⟨_, rfl, HL.out ▸ HO2.out, HB2.out⟩

def Us.list (U : Us) : List ByteArray := (sortB (akeys U.files)).filter fun k => ((aget U.files k).map fun o => !o.gone).getD true
theorem filter_take_succ {α : Type} {p : α → Bool} {l : List α} {k : Nat} {x : α} (h : l[k]? = some x) : (l.take (k + 1)).filter p = (l.take k).filter p ++ if p x then [x] else [] := by
  rw [take_succ_get2 h, List.filter_append]
  cases hp : p x <;> simp [hp]
theorem UsAt.find {w : World} {U : Us} {F : Nat → Prop} {p d b m : Nat} {rows : List (ByteArray × Rw)} (h : UsAt w U F p d b m rows) (k : ByteArray) : aget U.files k = (aget rows k).map Rw.o := by rw [h.files, aget_amap]
theorem UsAt.akeys {w : World} {U : Us} {F : Nat → Prop} {p d b m : Nat} {rows : List (ByteArray × Rw)} (h : UsAt w U F p d b m rows) : akeys (amap Rw.val rows) = akeys U.files := by rw [h.files, akeys_amap, akeys_amap]
theorem UsAt.look {w : World} {U : Us} {F : Nat → Prop} {p d b m : Nat} {rows : List (ByteArray × Rw)} (h : UsAt w U F p d b m rows) {k : ByteArray} {r : Rw} (hr : aget rows k = some r) (ok : Bool) :
    (Instr.lookup 160 (.map (some m)) (.string k) ok).run Tryz.prog w = .ok (if ok then .tuple #[agO r.o r.vr r.vw r.vs, .bool true] else agO r.o r.vr r.vw r.vs) w := by
  have := h.map.look (P := Tryz.prog) lawS (t := 160) (et := 111) Tryz.underlying160 (zero_ow w) k ok
  rw [aget_amap, hr] at this
  exact this
theorem UsAt.look_none {w : World} {U : Us} {F : Nat → Prop} {p d b m : Nat} {rows : List (ByteArray × Rw)} (h : UsAt w U F p d b m rows) {k : ByteArray} (hr : aget rows k = none) (ok : Bool) :
    (Instr.lookup 160 (.map (some m)) (.string k) ok).run Tryz.prog w = .ok (if ok then .tuple #[.agg #[.string ⟨#[]⟩, .string ⟨#[]⟩, .int .i64 0, .slice none 0 0, .slice none 0 0, .int .u64 0, .string ⟨#[]⟩, .slice none 0 0, .bool false], .bool false] else .agg #[.string ⟨#[]⟩, .string ⟨#[]⟩, .int .i64 0, .slice none 0 0, .slice none 0 0, .int .u64 0, .string ⟨#[]⟩, .slice none 0 0, .bool false]) w := by
  have := h.map.look (P := Tryz.prog) lawS (t := 160) (et := 111) Tryz.underlying160 (zero_ow w) k ok
  rw [aget_amap, hr] at this
  exact this
theorem field_gone (a0 a1 a2 a3 a4 a5 a6 a7 a8 : Value) (W : World) : (Instr.field 111 (.agg #[a0, a1, a2, a3, a4, a5, a6, a7, a8]) 4).run Tryz.prog W = .ok a8 W := by kernel_rfl
set_option maxRecDepth 100000 in
set_option maxHeartbeats 1000000 in
theorem files_calls {w : World} {U : Us} {F : Nat → Prop} {p d b m : Nat} {rows : List (ByteArray × Rw)} (h : UsAt w U F p d b m rows) (hl : U.files.length ≤ 100000) (hk : ∀ k ∈ akeys U.files, k.size ≤ 200) :
    Calls Tryz.prog 28 #[.pointer (some ⟨p, 0, none⟩)] w fun e w' => ∃ v, e = .returned v ∧ w'.ownsRow w.heap.size 9 1 v U.list.length (strV U.list) ∧ Below w.heap.size w w' := by
  obtain ⟨c0, c1, c2, c3, c4⟩ := h.cells
  have hlen : (amap Rw.val rows).length = U.files.length := by rw [h.files]; simp [amap]
  have hKY := (collect_keys h.map (by omega) (by rw [h.akeys]; exact hk)).1
  have hSO := sorted_keys h.map (by omega) (by rw [h.akeys]; exact hk)
  rw [h.akeys] at hSO
  have hmem : ∀ k ∈ sortB (akeys U.files), ∃ r, aget rows k = some r := by
    intro k hk2
    have h1 := (sortB_perm _).mem_iff.1 hk2
    rw [h.files, akeys_amap] at h1
    have := aget_isSome.2 h1
    exact Option.isSome_iff_exists.1 this
  have HLEN : Hid ((sortB (akeys U.files)).length ≤ 100000) := Lib.hid (by rw [sortB_length]; simpa [akeys] using hl)
  have HLI : Hid (U.list = (sortB (akeys U.files)).filter fun k => ((aget U.files k).map fun o => !o.gone).getD true) := Lib.hid rfl
  have hfg := field_gone
  have HFD := Lib.hid h.find
  have HU := Lib.hid h
  have HSO := Lib.hid hSO
  have HM := Lib.hid hmem
  obtain ⟨L, hL⟩ : ∃ L, sortB (akeys U.files) = L := ⟨_, rfl⟩
  rw [hL] at HSO HM HLEN HLI
  clear hSO hlen hL hmem hk hl
  go_enter Tryz.func28, Tryz.ntmps28
  go_wp2_with fail
  refine (hKY w).mono ?_
  rintro e w1 ⟨rfl, rfl⟩
  go_wp2_with fail
  refine HSO.out.mono ?_
  rintro e w2 ⟨v2, rfl, ho2, hb2⟩
  have HB2 := Lib.hid hb2
  have HS2 := Lib.hid (strs_own ho2)
  have HU2 := Lib.hid (HU.out.below hb2)
  obtain ⟨A, c, rfl, _, _⟩ := own_slice ho2
  clear ho2 hb2 hKY c0 c1 c2 c3 c4 h
  go_wp2_with fail
  go_loopw [3, 13] (fun o i wr => ∃ (k : Nat) (l : List ByteArray), k ≤ L.length ∧ i = .int .i64 k ∧ l.length ≤ k ∧ Hid (l = (L.take k).filter (fun k => ((aget U.files k).map fun o => !o.gone).getD true)) ∧ Hid (wr.ownsRow w2.heap.size 9 1 o l.length (strV l) ∧ Below w2.heap.size w2 wr)) (fun _ i _ => L.length - (intOf i).toNat)
  case atStart => exact ⟨0, [], Nat.zero_le _, rfl, Nat.le_refl _, Lib.hid (by simp), own_nil _ _ _ _, Below.refl _ _⟩
  case round =>
    obtain ⟨k, l, hk, rfl, hlk, HL, HO⟩ := hrel
    by_cases hlt : k < L.length
    · obtain ⟨s, hs⟩ : ∃ x, L[k]? = some x := ⟨_, List.getElem?_eq_getElem hlt⟩
      obtain ⟨g, off, c', hv', _, _, hcell⟩ := (HS2.out.below HO.out.2).cell hs
      cases hv'
      obtain ⟨r, hr⟩ := HM.out s (List.mem_of_getElem? hs)
      have hUr := HU2.out.below HO.out.2
      have hlook := hUr.look hr false
      simp only [Bool.false_eq_true, if_false, agO] at hlook
      obtain ⟨c0, c1, c2, c3, c4⟩ := hUr.cells
      have hf : ((aget U.files s).map fun o => !o.gone).getD true = !r.o.gone := by rw [HFD.out, hr]; rfl
      have HN := filter_take_succ (p := fun k => ((aget U.files k).map fun o => !o.gone).getD true) hs
      simp only [hf] at HN
      rw [← HL.out] at HN
      have HNN := Lib.hid HN
      have HLE := HLEN.out
      clear HN hf hs hr hUr
      cases hgn : r.o.gone with
      | true =>
        rw [hgn] at hlook HNN
        have HN2 : Hid (l = (L.take (k + 1)).filter (fun k => ((aget U.files k).map fun o => !o.gone).getD true)) := Lib.hid (by rw [HNN.out]; simp)
        clear hgn
        go_wp2_with fail
        go_roundw
        case rel => exact ⟨k + 1, l, by omega, by go_num, by omega, HN2, HO⟩
        case measure => simp [intOf]; omega
      | false =>
        rw [hgn] at hlook HNN
        have HN2 : Hid (l ++ [s] = (L.take (k + 1)).filter (fun k => ((aget U.files k).map fun o => !o.gone).getD true)) := Lib.hid (by rw [HNN.out]; simp)
        obtain ⟨p', w3, hrun, ho3, hk3⟩ := append_str HO.out.1 s (by omega) HO.out.2.size
        have HNX : Hid (w3.ownsRow w2.heap.size 9 1 p' (l ++ [s]).length (strV (l ++ [s])) ∧ Below w2.heap.size w2 w3) := Lib.hid ⟨ho3, below_own HO.out.2 HO.out.1 hk3⟩
        have hl1 : (l ++ [s]).length ≤ k + 1 := by rw [List.length_append]; simp; omega
        clear ho3 hk3 hgn
        go_wp2_with (at_builtin; refine wp_append_run rfl _ _ _ rfl rfl rfl hrun ?_)
        clear hrun
        go_wp2_with fail
        go_roundw
        case rel => exact ⟨k + 1, l ++ [s], by omega, by go_num, hl1, HN2, HNX⟩
        case measure => simp [intOf]; omega
    · obtain rfl : k = L.length := by omega
      have HE : Hid (U.list = l) := Lib.hid (by rw [HLI.out, HL.out, List.take_length])
      go_wp2_with fail
      go_ret
      refine ⟨_, rfl, ?_, HB2.out.trans (HO.out.2.mono HB2.out.size)⟩
      rw [HE.out]
      exact own_lower HO.out.1 HB2.out.size
end Go.Proofs.YtckblcfkajpofaaGreatDoor
namespace Go.Proofs.YtckblcfkajpofaaGreatDoor
open Go.RowKit Go.Sort
set_option linter.unusedVariables false
set_option linter.unusedSimpArgs false

def Us.own (U : Us) (f : ByteArray) : Option Ow := match aget U.files f with
  | some o => if o.gone then none else some o
  | none => none
abbrev zeroO : Value := .agg #[.string ⟨#[]⟩, .string ⟨#[]⟩, .int .i64 0, .slice none 0 0, .slice none 0 0, .int .u64 0, .string ⟨#[]⟩, .slice none 0 0, .bool false]
def OwnRet (w : World) (r : Option Ow) (e : Ending) (w' : World) : Prop := Below w.heap.size w w' ∧ match r with
  | some o => ∃ vr vw vs, e = .returned (.tuple #[agO o vr vw vs, .int .i64 0]) ∧ OOwn w' w.heap.size o vr vw vs
  | none => e = .returned (.tuple #[zeroO, .int .i64 4])
theorem Ow.ok.small {o : Ow} {n k : ByteArray} (h : o.ok n k) : o.r.rd.length ≤ 5 ∧ o.r.wr.length ≤ 5 ∧ o.sg.length ≤ 8 ∧ 1 ≤ o.sg.length := by
  have hg := Rt.right_good h.right
  have := hg.len
  have := hg.lo
  have := hg.hi
  have := h.sgn
  omega
set_option maxRecDepth 100000 in
set_option maxHeartbeats 2000000 in
theorem uown_calls {w : World} {U : Us} {F : Nat → Prop} {p d b m : Nat} {rows : List (ByteArray × Rw)} (h : UsAt w U F p d b m rows) (hok : U.ok) (f : ByteArray) :
    Calls Tryz.prog 77 #[.pointer (some ⟨p, 0, none⟩), .string f] w fun e w' => OwnRet w (U.own f) e w' := by
  have hfind := h.find f
  obtain ⟨G, hG⟩ : ∃ G, U.own f = G := ⟨_, rfl⟩
  rw [hG]
  unfold Us.own at hG
  have hall := hok.all f
  obtain ⟨W0, hW0⟩ : ∃ W0, w.alloc (.cells #[.string ⟨#[]⟩, .string ⟨#[]⟩, .int .i64 0, .slice none 0 0, .slice none 0 0, .int .u64 0, .string ⟨#[]⟩, .slice none 0 0, .bool false] 111) = W0 := ⟨_, rfl⟩
  have hb0 : Below w.heap.size w W0 := by rw [← hW0]; exact (Below.refl _ w).alloc (Nat.le_refl _) _
  have hs0 : W0.heap.size = w.heap.size + 1 := by rw [← hW0, size_alloc]
  have hr0 : W0.heap[w.heap.size]? = some (.cells #[.string ⟨#[]⟩, .string ⟨#[]⟩, .int .i64 0, .slice none 0 0, .slice none 0 0, .int .u64 0, .string ⟨#[]⟩, .slice none 0 0, .bool false] 111 (0, 0)) := by rw [← hW0, get_alloc, if_pos rfl]
  have hU0 := h.below hb0
  obtain ⟨c0, c1, c2, c3, c4⟩ := hU0.cells
  cases hr : aget rows f with
  | none =>
    rw [hr] at hfind
    rw [hfind] at hG
    dsimp only [Option.map] at hG
    subst hG
    have hlook := hU0.look_none hr true
    simp only [if_true] at hlook
    obtain ⟨B, hB⟩ : ∃ B, w.heap.size = B := ⟨_, rfl⟩
    rw [hB] at hs0 hr0 hb0
    have HB0 := Lib.hid hb0
    have HR0 := Lib.hid hr0
    have HB := Lib.hid hB
    clear hall hfind hr hU0 hb0 hr0 h hok
    go_enter Tryz.func77, Tryz.ntmps77
    go_wp2_with (with_reducible refine wp_stop_store (o := ⟨none, .store _ (.tmp 4) _, _, _, _, _⟩) _ _ _ rfl ?_)
    unfold Stop
    refine wp_store_all rfl _ _ _ rfl rfl rfl _ _ (by rw [get_alloc, if_neg (by omega)]; exact HR0.out) info_ow rfl (by simp [Value.oneCell']) ?_
    intro w3 h3 k3 s3
    have HF : Hid (Below w.heap.size w w3) := Lib.hid (by
      have hb1 := HB0.out.alloc (by omega : B ≤ W0.heap.size) (.cells #[.string ⟨#[]⟩, .string ⟨#[]⟩, .int .i64 0, .slice none 0 0, .slice none 0 0, .int .u64 0, .string ⟨#[]⟩, .slice none 0 0, .bool false] 111)
      exact below_keep (HB.out ▸ hb1) (by rw [HB.out]; exact k3))
    clear c0 c1 c2 c3 c4
    obtain ⟨c0, c1, c2, c3, c4, c5, c6, c7, c8⟩ := row9 h3
    clear h3 k3 s3 hlook
    go_wp2_with fail
    refine bodyPost_ret (v := .tuple #[zeroO, .int .i64 4]) (by simp [results, Tryz.results77, go_sem, c0, c1, c2, c3, c4, c5, c6, c7, c8]) rfl ⟨HF.out, rfl⟩
  | some r =>
    rw [hr] at hfind
    rw [hfind] at hG
    dsimp only [Option.map] at hG
    have hlook := hU0.look hr true
    have hL := (h.lists f r hr).below hb0
    have hOk := hall _ hfind
    obtain ⟨o, vr, vw, vs⟩ := r
    have hsm := hOk.small
    obtain ⟨⟨ow, fi, ep, rd, wr⟩, ver, root, sg, gone⟩ := o
    dsimp only at hL hsm hG
    obtain ⟨A, ca, rfl, a1, a2⟩ := hL.rt.rd.form
    obtain ⟨C, cb, rfl, b1, b2⟩ := hL.rt.wr.form
    obtain ⟨D, cd, rfl, d1, d2⟩ := hL.sg.form
    simp only [if_true, agO] at hlook
    obtain ⟨B, hB⟩ : ∃ B, w.heap.size = B := ⟨_, rfl⟩
    rw [hB] at hs0 hr0 hb0
    have HB0 := Lib.hid hb0
    have HR0 := Lib.hid hr0
    have HB := Lib.hid hB
    have HL := Lib.hid hL
    obtain ⟨s1, s2, s3, s4⟩ := hsm
    clear hall hfind hr hU0 hb0 hr0 h hok hL hOk
    cases gone with
    | true =>
      simp only [if_true] at hG
      subst hG
      go_enter Tryz.func77, Tryz.ntmps77
      go_wp2_with (with_reducible refine wp_stop_store (o := ⟨none, .store _ (.tmp 4) _, _, _, _, _⟩) _ _ _ rfl ?_)
      unfold Stop
      refine wp_store_all rfl _ _ _ rfl rfl rfl _ _ (by rw [get_alloc, if_neg (by omega)]; exact HR0.out) info_ow rfl (by simp [Value.oneCell']) ?_
      intro w3 h3 k3 s3'
      have HF : Hid (Below w.heap.size w w3) := Lib.hid (by
        have hb1 := HB0.out.alloc (by omega : B ≤ W0.heap.size) (.cells #[.string ow, .string fi, .int .i64 ep, .slice A rd.length ca, .slice C wr.length cb, .int .u64 ver, .string root, .slice D sg.length cd, .bool true] 111)
        exact below_keep (HB.out ▸ hb1) (by rw [HB.out]; exact k3))
      clear c0 c1 c2 c3 c4
      obtain ⟨c0, c1, c2, c3, c4, c5, c6, c7, c8⟩ := row9 h3
      clear h3 k3 s3' hlook
      go_wp2_with fail
      refine bodyPost_ret (v := .tuple #[zeroO, .int .i64 4]) (by simp [results, Tryz.results77, go_sem, c0, c1, c2, c3, c4, c5, c6, c7, c8]) rfl ⟨HF.out, rfl⟩
    | false =>
      simp only [Bool.false_eq_true, if_false] at hG
      subst hG
      obtain ⟨W1, hW1⟩ : ∃ W1, W0.alloc (.cells #[.string ow, .string fi, .int .i64 ep, .slice A rd.length ca, .slice C wr.length cb, .int .u64 ver, .string root, .slice D sg.length cd, .bool false] 111) = W1 := ⟨_, rfl⟩
      have hbW1 : Below W0.heap.size W0 W1 := by rw [← hW1]; exact (Below.refl _ W0).alloc (Nat.le_refl _) _
      have hs1 : W1.heap.size = B + 2 := by rw [← hW1, size_alloc, hs0]
      have hr1 : W1.heap[B]? = some (.cells #[.string ⟨#[]⟩, .string ⟨#[]⟩, .int .i64 0, .slice none 0 0, .slice none 0 0, .int .u64 0, .string ⟨#[]⟩, .slice none 0 0, .bool false] 111 (0, 0)) := (Keep.of_below (F := fun _ => False) hbW1).at HR0.out fun e => e
      have HO := Lib.hid (own_calls W1 ⟨⟨ow, fi, ep, rd, wr⟩, ver, root, sg, false⟩ _ _ _ (HL.out.below hbW1) (by dsimp only; omega) (by dsimp only; omega) (by dsimp only; omega))
      have HB1 := Lib.hid (HB0.out.trans (hbW1.mono (by omega)))
      have HR1 := Lib.hid hr1
      rw [← hW1] at HO
      have HW1 := Lib.hid hW1
      clear hW1
      clear hbW1 hr1
      go_enter Tryz.func77, Tryz.ntmps77
      go_wp2_with fail
      refine HO.out.mono ?_
      rintro e w2 ⟨vr2, vw2, vs2, rfl, ho2, hb2⟩
      rw [HW1.out] at ho2 hb2
      have HO2 := Lib.hid ho2
      have HB2 := Lib.hid hb2
      obtain ⟨A2, ca2, rfl, _, _⟩ := own_slice ho2.rd
      obtain ⟨C2, cb2, rfl, _, _⟩ := own_slice ho2.wr
      obtain ⟨D2, cd2, rfl, _, _⟩ := own_slice ho2.sg
      have hr2 := (Keep.of_below (F := fun _ => False) hb2).at HR1.out fun e => e
      have HR2 := Lib.hid hr2
      clear ho2 hb2 hr2 hlook c0 c1 c2 c3 c4
      go_wp2_with (with_reducible refine wp_stop_store (o := ⟨none, .store _ (.tmp 4) _, _, _, _, _⟩) _ _ _ rfl ?_)
      unfold Stop
      refine wp_store_all rfl _ _ _ rfl rfl rfl _ _ HR2.out info_ow rfl (by simp [Value.oneCell']) ?_
      intro w3 h3 k3 s3'
      have HF : Hid (OOwn w3 w.heap.size ⟨⟨ow, fi, ep, rd, wr⟩, ver, root, sg, false⟩ (.slice A2 rd.length ca2) (.slice C2 wr.length cb2) (.slice D2 sg.length cd2) ∧ Below w.heap.size w w3) := Lib.hid (by
        rw [HB.out]
        have hle : B ≤ W1.heap.size := by omega
        refine ⟨⟨?_, ?_, ?_⟩, ?_⟩
        · exact own_lower (k3.own HO2.out.rd fun b hb e => by have := own_new HO2.out.rd b hb; omega) hle
        · exact own_lower (k3.own HO2.out.wr fun b hb e => by have := own_new HO2.out.wr b hb; omega) hle
        · exact own_lower (k3.own HO2.out.sg fun b hb e => by have := own_new HO2.out.sg b hb; omega) hle
        · have h5 : Below w.heap.size w w2 := HB.out ▸ (HB1.out.trans (HB2.out.mono hle))
          have := below_keep h5 (by rw [HB.out]; exact k3)
          rw [HB.out] at this; exact this)
      obtain ⟨c0, c1, c2, c3, c4, c5, c6, c7, c8⟩ := row9 h3
      clear h3 k3 s3'
      go_wp2_with fail
      refine bodyPost_ret (v := .tuple #[agO ⟨⟨ow, fi, ep, rd, wr⟩, ver, root, sg, false⟩ (.slice A2 rd.length ca2) (.slice C2 wr.length cb2) (.slice D2 sg.length cd2), .int .i64 0]) (by simp [results, Tryz.results77, go_sem, c0, c1, c2, c3, c4, c5, c6, c7, c8]) rfl ⟨HF.out.2, _, _, _, rfl, HF.out.1⟩
end Go.Proofs.YtckblcfkajpofaaGreatDoor
namespace Go.Proofs.YtckblcfkajpofaaGreatDoor
open Go.RowKit Go.Sort
set_option linter.unusedVariables false
set_option linter.unusedSimpArgs false

def pathB (o f : ByteArray) : ByteArray := o ++ ⟨#[47]⟩ ++ f
set_option maxHeartbeats 1000000 in
theorem path_calls (w : World) (o f : ByteArray) (hT : Tabs w) (ho : nameR o = true) (hf : nameR f = true) :
    Calls Tryz.prog 194 #[.string o, .string f] w fun e w' => e = .returned (.tuple #[.string (pathB o f), .int .i64 0]) ∧ Below w.heap.size w w' := by
  have h1 := nameR_size ho
  have h2 := nameR_size hf
  have HT := Lib.hid hT
  have c1 := right_calls o w (by omega) hT
  rw [ho] at c1
  have HP : Hid (pathB o f = o ++ ⟨#[47]⟩ ++ f) := Lib.hid rfl
  have HF := Lib.hid hf
  clear hT ho hf
  go_enter Tryz.func194, Tryz.ntmps194
  go_wp2_with fail
  refine c1.mono ?_
  rintro e w1 ⟨rfl, hb⟩
  have HB := Lib.hid hb
  have c2 := right_calls f w1 (by omega) (HT.out.below hb)
  rw [HF.out] at c2
  clear hb c1
  go_wp2_with fail
  refine c2.mono ?_
  rintro e w2 ⟨rfl, hb⟩
  have HB2 := Lib.hid (HB.out.trans (hb.mono HB.out.size))
  clear hb c2
  go_wp2_with fail
  go_ret2
  exact ⟨by rw [HP.out]; rfl, HB2.out⟩
theorem UsAt.put {w w' : World} {U : Us} {F F' : Nat → Prop} {p d b m : Nat} {rows : List (ByteArray × Rw)} (h : UsAt w U F p d b m rows) {k : ByteArray} {r : Rw} (hm : smap w' Value.string m (aput (amap Rw.val rows) k r.val)) (hg : w.grownBy w' (some m)) (hl : OLists w r.o r.vr r.vw r.vs) (ho : r.off F' p d b m)
    (h1 : ∀ i, F i → F' i) (h2 : ∀ i, F' i → i < w.heap.size) (h3 : ¬ F' (Tryz.laysValid_ren.g 3)) (h4 : ¬ F' (Tryz.laysValid_ren.g 4)) : UsAt w' { U with files := aput U.files k r.o } F' p d b m (aput rows k r) := by
  have kp : Keep (fun i => i = m) w w' := Keep.of_grown hg fun i hi => by cases hi; rfl
  refine ⟨kp.at h.row (Ne.symm h.mp), h.drs.keep kp (Ne.symm h.md) (Ne.symm h.mb), by rw [aput_amap] at hm; exact hm, by show aput U.files k r.o = _; rw [h.files, aput_amap], fun k' r' hr => ?_, fun k' r' hr => ?_, h1 _ h.fp, h1 _ h.fd, h1 _ h.fb, h1 _ h.fm, fun i hi => Nat.lt_of_lt_of_le (h2 i hi) kp.size, h3, h4⟩
  · rw [aget_aput] at hr
    split at hr
    · cases hr; exact hl.keep kp fun g hg e => (ho g hg).2.2.2.2 e
    · exact (h.lists k' r' hr).keep kp fun g hg e => (h.off k' r' hr g hg).2.2.2.2 e
  · rw [aget_aput] at hr
    split at hr
    · cases hr; exact ho
    · exact fun g hg => ⟨h1 _ (h.off k' r' hr g hg).1, (h.off k' r' hr g hg).2⟩
def Us.made (U : Us) (f : ByteArray) (v : Nat) : Us := { U with
  drew := U.drew + 2
  files := aput U.files f ⟨⟨U.name, f, 0, [], []⟩, (v + 1) % 18446744073709551616, secT ⟨#[114, 111, 111, 116]⟩ (pathB U.name f) (drawN U.seed U.drew), [secT ⟨#[115, 105, 103, 110]⟩ (pathB U.name f) (drawN U.seed (U.drew + 1))], false⟩ }
def Us.create (U : Us) (f : ByteArray) : Us × Int :=
  if nameR f = false then (U, 3) else match aget U.files f with
    | some o => if o.gone = false then (U, 5) else if 8 ≤ U.list.length then (U, 10) else (U.made f o.ver, 0)
    | none => if 8 ≤ U.list.length then (U, 10) else (U.made f 0, 0)
def UsRet (w : World) (r : Us × Int) (F : Nat → Prop) (p d b m : Nat) (e : Ending) (w' : World) : Prop :=
  e = .returned (.int .i64 r.2) ∧ ∃ F' rows, UsAt w' r.1 F' p d b m rows ∧ Keep F w w' ∧ (∀ i, F i → F' i) ∧ ∀ i, F' i → F i ∨ w.heap.size ≤ i
theorem UsRet.same {w w' : World} {U : Us} {F : Nat → Prop} {p d b m : Nat} {rows : List (ByteArray × Rw)} (h : UsAt w U F p d b m rows) (hb : Below w.heap.size w w') (n : Int) : UsRet w (U, n) F p d b m (.returned (.int .i64 n)) w' :=
  ⟨rfl, F, rows, h.below hb, Keep.of_below hb, fun _ e => e, fun _ e => Or.inl e⟩
set_option maxRecDepth 100000 in
set_option maxHeartbeats 4000000 in
theorem create_walk {w : World} {U : Us} {F : Nat → Prop} {p d b m : Nat} {rows : List (ByteArray × Rw)} (h : UsAt w U F p d b m rows) (hok : U.ok) (hT : Tabs w) (hd : U.drew ≤ 90000) (f : ByteArray) (hn : nameR f = true)
    (s0 s1 s2 : ByteArray) (e0 : Int) (A1 A2 A3 : Option Addr) (n1 n2 n3 q1 q2 q3 v : Nat) (g ev : Bool) (hv : v < 18446744073709551616) (hc : ev = g ∨ (ev = true ∧ g = false))
    (hlook : ∀ W, Below w.heap.size w W → (Instr.lookup 160 (.map (some m)) (.string f) true).run Tryz.prog W = .ok (.tuple #[.agg #[.string s0, .string s1, .int .i64 e0, .slice A1 n1 q1, .slice A2 n2 q2, .int .u64 v, .string s2, .slice A3 n3 q3, .bool g], .bool ev]) W) :
    Calls Tryz.prog 88 #[.pointer (some ⟨p, 0, none⟩), .string f] w fun e w' => UsRet w (if (ev && !g) = true then (U, 5) else if 8 ≤ U.list.length then (U, 10) else (U.made f v, 0)) F p d b m e w' := by
  obtain ⟨c0, c1, c2, c3, c4⟩ := h.cells
  have hns := nameR_size hok.name
  have hfs := nameR_size hn
  have hnew := new_calls w U.name f (by omega) (by omega) hT
  have HU := Lib.hid h
  have HOK := Lib.hid hok
  have HT := Lib.hid hT
  have HLK := Lib.hid hlook
  obtain ⟨G, hG⟩ : ∃ G, (if (ev && !g) = true then (U, (5 : Int)) else if 8 ≤ U.list.length then (U, 10) else (U.made f v, 0)) = G := ⟨_, rfl⟩
  rw [hG]
  have hnr : newR U.name f = (⟨U.name, f, 0, [], []⟩, 0) := by unfold newR; rw [hn, HOK.out.name]; rfl
  rw [hnr] at hnew
  simp only [] at hnew
  have HN := Lib.hid hnew
  have HNM := Lib.hid hn
  have HG := Lib.hid hG
  clear hnr hnew hn hok hT hlook hG
  go_enter Tryz.func88, Tryz.ntmps88
  go_wp2_with fail
  refine HN.out.mono ?_
  rintro e w1 ⟨rfl, hb⟩
  have hbA := hb.alloc hb.size (.cells #[.string ⟨#[]⟩, .string ⟨#[]⟩, .int .i64 0, .slice none 0 0, .slice none 0 0] 39)
  have HBA := Lib.hid hbA
  have hwR : w.heap.size ≤ w1.heap.size := hb.size
  clear hb hbA
  go_wp2_with (with_reducible refine wp_stop_store (o := ⟨none, .store _ (.tmp 5) _, _, _, _, _⟩) _ _ _ rfl ?_)
  unfold Stop
  refine wp_store_all rfl _ _ _ rfl rfl rfl _ _ ((get_alloc _ _ _).trans (if_pos rfl)) info_rt rfl (by simp [Value.oneCell']) ?_
  intro w2 h2 k2 s2
  obtain ⟨R, hR⟩ : ∃ R, w1.heap.size = R := ⟨_, rfl⟩
  rw [size_alloc] at s2
  rw [hR] at h2 k2 s2 hwR ⊢
  have hb2 : Below w.heap.size w w2 := below_at HBA.out k2 hwR
  have hU2 := HU.out.below hb2
  have HU2 := Lib.hid hU2
  have HB2 := Lib.hid hb2
  have HR2 := Lib.hid h2
  have hlook2 := HLK.out _ hb2
  clear c0 c1 c2 c3 c4 hR
  obtain ⟨c0, c1, c2, c3, c4⟩ := hU2.cells
  clear h2 k2 hU2 hb2
  go_wp2_with (with_reducible refine wp_stop_store (o := ⟨none, .store _ (.tmp 7) _, _, _, _, _⟩) _ _ _ rfl ?_)
  unfold Stop
  refine wp_store_all rfl _ _ _ rfl rfl rfl _ _ ((get_alloc _ _ _).trans (if_pos s2.symm)) info_ow rfl (by simp [Value.oneCell']) ?_
  intro w3 h3 k3 s3
  rw [size_alloc, s2] at s3
  have hb3 : Below w.heap.size w w3 := below_at (HB2.out.alloc HB2.out.size _) k3 (by omega)
  have hU3 := HU.out.below hb3
  have HU3 := Lib.hid hU3
  have HB3 := Lib.hid hb3
  have hR3 := k3.at ((Keep.alloc (fun _ => False) w2 _).at HR2.out fun e => e) (by omega)
  have HRR3 := Lib.hid hR3
  have HR3 := Lib.hid h3
  clear c0 c1 c2 c3 c4 hlook2 k3
  obtain ⟨e0', e1', e2', e3', e4', e5', e6', e7', e8'⟩ := row9 h3
  clear h3 hb3 hR3
  obtain ⟨c0, c1, c2, c3, c4⟩ := hU3.cells
  clear hU3
  cases hq : (ev && !g) with
  | true =>
    have HE : Hid (G = (U, 5)) := Lib.hid (by rw [← HG.out, hq]; rfl)
    rw [Bool.and_eq_true] at hq
    obtain ⟨rfl, hg2⟩ := hq
    obtain rfl : g = false := by simpa using hg2
    clear hg2
    go_wp2_with fail
    go_ret
    rw [HE.out]
    exact UsRet.same HU.out HB3.out _
  | false =>
    have HE : Hid (G = if 8 ≤ U.list.length then (U, 10) else (U.made f v, 0)) := Lib.hid (by rw [← HG.out, hq]; rfl)
    have hFL := files_calls HU3.out (by have := HOK.out.len; omega) (by
      intro k hk
      obtain ⟨o, ho⟩ := Option.isSome_iff_exists.1 (aget_isSome.2 hk)
      have hf := HOK.out.all k o ho
      have h1 := (Rt.right_good hf.right).file
      rw [hf.file] at h1; omega)
    obtain rfl : ev = g := by
      rcases hc with hc | ⟨rfl, rfl⟩
      · exact hc
      · cases hq
    clear hq hc
    have HFL := Lib.hid hFL
    clear hFL
    go_upto_region 5 with fail
    go_cut [33] from 34 to 39 (fun c wx => c = .bool false ∧ wx = w3)
    case first =>
      cases ev
      all_goals (go_wp2_with fail; go_meet; exact ⟨rfl, rfl⟩)
    case rest =>
      obtain ⟨rfl, rfl⟩ := hcut
      go_wp2_with fail
      refine HFL.out.mono ?_
      rintro e w4 ⟨vl, rfl, hl4, hb4⟩
      have HB4 := Lib.hid (HB3.out.trans (hb4.mono HB3.out.size))
      have HU4 := Lib.hid (HU3.out.below hb4)
      have hR4 := (Keep.of_below (F := fun _ => False) hb4).at HR3.out fun e => e
      have hRR4 := (Keep.of_below (F := fun _ => False) hb4).at HRR3.out fun e => e
      have HR4 := Lib.hid hR4
      have HRR4 := Lib.hid hRR4
      obtain ⟨Al, cl, rfl, _, _⟩ := own_slice hl4
      obtain ⟨nl, hnl⟩ : ∃ nl, U.list.length = nl := ⟨_, rfl⟩
      rw [hnl] at HE ⊢
      clear hb4 hl4 hR4 hRR4 c0 c1 c2 c3 c4 e0' e1' e2' e3' e4' e5' e6' e7' e8'
      obtain ⟨c0, c1, c2, c3, c4⟩ := HU4.out.cells
      by_cases h8 : 8 ≤ nl
      · rw [if_pos h8] at HE
        go_wp2_with fail
        go_ret
        rw [HE.out]
        exact UsRet.same HU.out HB4.out _
      · rw [if_neg h8] at HE
        have hP := path_calls w4 U.name f (HT.out.below HB4.out) HOK.out.name HNM.out
        have hpz : (pathB U.name f).size ≤ 1000000 := by unfold pathB; rw [ByteArray.size_append, ByteArray.size_append]; have : (⟨#[47]⟩ : ByteArray).size = 1 := rfl; omega
        obtain ⟨pa, hpa⟩ : ∃ pa, pathB U.name f = pa := ⟨_, rfl⟩
        rw [hpa] at hP hpz
        have HP := Lib.hid hP
        have HPA := Lib.hid hpa
        clear hnl hP hpa
        go_wp2_with fail
        refine HP.out.mono ?_
        rintro e w5 ⟨rfl, hb5⟩
        have HB5 := Lib.hid (HB4.out.trans (hb5.mono HB4.out.size))
        have HU5 := Lib.hid (HU4.out.below hb5)
        have hR5 := (Keep.of_below (F := fun _ => False) hb5).at HR4.out fun e => e
        have hRR5 := (Keep.of_below (F := fun _ => False) hb5).at HRR4.out fun e => e
        have HR5 := Lib.hid hR5
        have HRR5 := Lib.hid hRR5
        clear hb5 hR5 hRR5 c0 c1 c2 c3 c4
        go_upto_region 10 with fail
        go_cut [11] from 54 to 61 (fun q wx => ∃ Z, q = .pointer (some ⟨Z, 0, none⟩) ∧ w.heap.size ≤ Z ∧ Hid (UsAt wx { U with drew := U.drew + 1 } F p d b m rows ∧ Keep F w wx ∧ wx.heap[Z]? = some (.cells #[.string U.name, .string f, .int .i64 0, .slice none 0 0, .slice none 0 0, .int .u64 (((v + 1) % 18446744073709551616 : Nat) : Int), .string (secT ⟨#[114, 111, 111, 116]⟩ pa (drawN U.seed U.drew)), .slice none 0 0, .bool false] 111 (0, 0))))
        case first =>
          have hwr : IntKind.u64.wrap ((v : Int) + 1) = (((v + 1) % 18446744073709551616 : Nat) : Int) := by rw [IntKind.wrap_u64]; omega
          obtain ⟨v2, hv2⟩ : ∃ v2, (v + 1) % 18446744073709551616 = v2 := ⟨_, rfl⟩
          rw [hv2] at hwr
          have HV2 := Lib.hid hv2
          obtain ⟨rt, hrt⟩ : ∃ rt, secT ⟨#[114, 111, 111, 116]⟩ pa (drawN U.seed U.drew) = rt := ⟨_, rfl⟩
          have HRT := Lib.hid hrt
          have hlt : ∀ i, F i → i < R := fun i hi => Nat.lt_of_lt_of_le (HU.out.lt i hi) hwR
          have hDC : ∀ W, UsAt W U F p d b m rows → Calls Tryz.prog 120 #[.pointer (some ⟨p, 0, none⟩), .string ⟨#[114, 111, 111, 116]⟩, .string pa] W fun e w' => e = .returned (.string rt) ∧ UsAt w' { U with drew := U.drew + 1 } F p d b m rows ∧ Keep (fun i => i = d ∨ i = b) W w' := by
            intro W hW
            have := drawn_calls hW (by omega) ⟨#[114, 111, 111, 116]⟩ pa (by decide) hpz
            rw [hrt] at this; exact this
          have HDC := Lib.hid hDC
          have HLT := Lib.hid hlt
          clear hDC hrt hv2 hlt
          refine wp_region_G (fun w' => (w'.cell? ⟨R, 0, none⟩ = some (.string U.name) ∧ w'.cell? ⟨R, 1, none⟩ = some (.string f) ∧ w'.cell? ⟨R, 2, none⟩ = some (.int .i64 0) ∧ w'.cell? ⟨R, 3, none⟩ = some (.slice none 0 0) ∧ w'.cell? ⟨R, 4, none⟩ = some (.slice none 0 0)) ∧ w'.cell? ⟨R + 1, 5, none⟩ = some (.int .u64 v)) [9] (by kernel_rfl) ?_
          have hrow : w5.drew.heap[R]? = _ := HRR5.out
          have hrow9 : w5.drew.heap[R + 1]? = _ := HR5.out
          have hS : (w5.drew.cell? ⟨R, 0, none⟩ = some (.string U.name) ∧ w5.drew.cell? ⟨R, 1, none⟩ = some (.string f) ∧ w5.drew.cell? ⟨R, 2, none⟩ = some (.int .i64 0) ∧ w5.drew.cell? ⟨R, 3, none⟩ = some (.slice none 0 0) ∧ w5.drew.cell? ⟨R, 4, none⟩ = some (.slice none 0 0)) ∧ w5.drew.cell? ⟨R + 1, 5, none⟩ = some (.int .u64 v) := ⟨row5 hrow, (row9 hrow9).2.2.2.2.2.1⟩
          refine wpAnyG_take (ws := [0,2]) (i := 0) (v := ?va0) at0 (by kernel_rfl) (fun _ _ _ h => h) (Or.inl ⟨by rfl, ?ha0⟩) (by assumption) ?ra0
          case ha0 => (intro w hSw; (try dsimp only at hSw); go_simp; try with_reducible rfl)
          case' ra0 => skip
          try simp only [Act.put, List.setIfInBounds_toArray, List.set_cons_zero, List.set_cons_succ]
          refine wpAnyG_pure (i := 1) (v := ?va1) at1 (by kernel_rfl) (fun _ _ _ h => h) (Or.inl ⟨by rfl, ?ha1⟩) (Or.inr (by assumption)) ?ra1
          case ha1 => (intro w hSw; (try dsimp only at hSw); go_simp; try with_reducible rfl)
          case' ra1 => skip
          try simp only [Act.put, List.setIfInBounds_toArray, List.set_cons_zero, List.set_cons_succ]
          refine wpAnyG_take (ws := [0,2]) (i := 2) (v := ?va2) at2 (by kernel_rfl) (fun _ _ _ h => h) (Or.inl ⟨by rfl, ?ha2⟩) (by assumption) ?ra2
          case ha2 => (intro w hSw; (try dsimp only at hSw); go_simp; try with_reducible rfl)
          case' ra2 => skip
          try simp only [Act.put, List.setIfInBounds_toArray, List.set_cons_zero, List.set_cons_succ]
          refine wpAnyG_pure (i := 3) (v := ?va3) at3 (by kernel_rfl) (fun _ _ _ h => h) (Or.inl ⟨by rfl, ?ha3⟩) (Or.inr (by assumption)) ?ra3
          case ha3 => (intro w hSw; (try dsimp only at hSw); go_simp; try with_reducible rfl)
          case' ra3 => skip
          try simp only [Act.put, List.setIfInBounds_toArray, List.set_cons_zero, List.set_cons_succ]
          refine wpAnyG_pure (i := 4) (v := ?va4) at4 (by kernel_rfl) (fun _ _ _ h => h) (Or.inl ⟨by rfl, ?ha4⟩) (Or.inr (by assumption)) ?ra4
          case ha4 => (intro w hSw; (try dsimp only at hSw); go_simp; try with_reducible rfl)
          case' ra4 => skip
          try simp only [Act.put, List.setIfInBounds_toArray, List.set_cons_zero, List.set_cons_succ]
          refine wpAnyG_pure (i := 5) (v := ?va5) at5 (by kernel_rfl) (fun _ _ _ h => h) (Or.inl ⟨by rfl, ?ha5⟩) (Or.inr (by assumption)) ?ra5
          case ha5 => (intro w hSw; (try dsimp only at hSw); go_simp; try with_reducible rfl)
          case' ra5 => skip
          try simp only [Act.put, List.setIfInBounds_toArray, List.set_cons_zero, List.set_cons_succ]
          have HZ : Hid (∀ (W : World) (Z : Nat), w.heap.size ≤ Z → UsAt W { U with drew := U.drew + 1 } F p d b m rows → Keep F w W → W.heap[Z]? = some (.cells #[.string U.name, .string f, .int .i64 0, .slice none 0 0, .slice none 0 0, .int .u64 (v2 : Int), .string rt, .slice none 0 0, .bool false] 111 (0, 0)) → w.heap.size ≤ Z ∧ Hid (UsAt W { U with drew := U.drew + 1 } F p d b m rows ∧ Keep F w W ∧ W.heap[Z]? = some (.cells #[.string U.name, .string f, .int .i64 0, .slice none 0 0, .slice none 0 0, .int .u64 (((v + 1) % 18446744073709551616 : Nat) : Int), .string (secT ⟨#[114, 111, 111, 116]⟩ pa (drawN U.seed U.drew)), .slice none 0 0, .bool false] 111 (0, 0)))) := Lib.hid fun W Z h1 h2 h3 h4 => ⟨h1, Lib.hid ⟨h2, h3, by rw [HV2.out, HRT.out]; exact h4⟩⟩
          have HKD : Hid (∀ {W1 W2 : World}, Keep F w W1 → Keep (fun i => i = d ∨ i = b) W1 W2 → Keep F w W2) := Lib.hid fun h1 h2 => h1.same (h2.mono fun i hi => by rcases hi with rfl | rfl; exact HU.out.fd; exact HU.out.fb)
          have hdR : d < R := HLT.out _ HU.out.fd
          have hbR : b < R := HLT.out _ HU.out.fb
          have h5s : R + 1 < w5.heap.size := (Array.getElem?_eq_some_iff.1 HR5.out).1
          refine wpAnyG_two 6 8 at6 at8 (by kernel_rfl) (fun Kn hK => ?_) (fun Kn hK => ?_)
          · go_simp
            refine (HDC.out w5.drew (HU5.out.below (Below.refl _ w5).drew)).mono ?_
            rintro e w6 ⟨rfl, hU6, hk6⟩
            have hr6 := hk6.at hrow (by omega)
            have hr96 := hk6.at hrow9 (by omega)
            refine hK.out _ _ (Or.inr ⟨row5 hr6, (row9 hr96).2.2.2.2.2.1⟩) ?_
            have HU6 := Lib.hid hU6
            have HK6 : Hid (Keep F w w6) := Lib.hid (HKD.out ((Keep.of_below HB5.out).same (Keep.drew F w5)) hk6)
            have hS6 := (⟨row5 hr6, (row9 hr96).2.2.2.2.2.1⟩ : (w6.cell? ⟨R, 0, none⟩ = some (.string U.name) ∧ w6.cell? ⟨R, 1, none⟩ = some (.string f) ∧ w6.cell? ⟨R, 2, none⟩ = some (.int .i64 0) ∧ w6.cell? ⟨R, 3, none⟩ = some (.slice none 0 0) ∧ w6.cell? ⟨R, 4, none⟩ = some (.slice none 0 0)) ∧ w6.cell? ⟨R + 1, 5, none⟩ = some (.int .u64 v))
            have HR6 := Lib.hid hr6
            have HR96 := Lib.hid hr96
            have HS6 := Lib.hid hk6.size
            clear hK Kn hU6 hk6 hr6 hr96 hS
            try simp only [Act.put, List.setIfInBounds_toArray, List.set_cons_zero, List.set_cons_succ]
            have hS := hS6
            refine wpAnyG_pure (i := 7) (v := ?vb7) at7 (by kernel_rfl) (fun _ _ _ h => h) (Or.inl ⟨by rfl, ?hb7⟩) (Or.inr (by assumption)) ?rb7
            case hb7 => (intro w hSw; (try dsimp only at hSw); go_simp; try with_reducible rfl)
            case' rb7 => skip
            try simp only [Act.put, List.setIfInBounds_toArray, List.set_cons_zero, List.set_cons_succ]
            refine wpAnyG_one 8 at8 (by kernel_rfl) (fun Kn hK => ?_)
            go_simp
            refine hK.out _ _ (Or.inr ⟨row5 ((Keep.alloc (fun _ => False) w6 _).at HR6.out fun e => e), (row9 ((Keep.alloc (fun _ => False) w6 _).at HR96.out fun e => e)).2.2.2.2.2.1⟩) ?_
            clear hK Kn hS hS6
            try simp only [Act.put, List.setIfInBounds_toArray, List.set_cons_zero, List.set_cons_succ]
            refine wpAnyG_one 9 at9 (by kernel_rfl) (fun Kn hK => ?_)
            refine step_store_all rfl _ _ _ rfl rfl rfl _ _ ((get_alloc _ _ _).trans (if_pos rfl)) info_ow rfl (by simp [Value.oneCell']) ?_
            intro w7 h7 k7 s7
            refine hK.out _ _ (Or.inl (by kernel_rfl)) ?_
            have h56 : w5.heap.size ≤ w6.heap.size := HS6.out
            have hFin := HZ.out w7 w6.heap.size (by omega) ((HU6.out.below ((Below.refl _ w6).alloc (Nat.le_refl _) _)).keep k7 fun i hi e => by have := HLT.out i hi; omega) ((HK6.out.same (Keep.alloc F w6 _)).trans k7 fun i hi => Or.inr (by omega)) h7
            clear hK Kn h7 k7 s7
            refine wpAnyG_done (by kernel_rfl) ?_
            try simp only [Act.put, List.setIfInBounds_toArray, List.set_cons_zero, List.set_cons_succ]
            go_wp2_with fail
            go_meet
            exact ⟨_, rfl, hFin⟩
          · go_simp
            refine hK.out _ _ (Or.inr ⟨row5 ((Keep.alloc (fun _ => False) w5.drew _).at hrow fun e => e), (row9 ((Keep.alloc (fun _ => False) w5.drew _).at hrow9 fun e => e)).2.2.2.2.2.1⟩) ?_
            clear hK Kn hS
            try simp only [Act.put, List.setIfInBounds_toArray, List.set_cons_zero, List.set_cons_succ]
            refine wpAnyG_one 6 at6 (by kernel_rfl) (fun Kn hK => ?_)
            go_simp
            refine (HDC.out _ ((HU5.out.below (Below.refl _ w5).drew).below ((Below.refl _ w5.drew).alloc (Nat.le_refl _) _))).mono ?_
            rintro e w6 ⟨rfl, hU6, hk6⟩
            have hz6 := hk6.at ((get_alloc w5.drew _ _).trans (if_pos rfl)) (by show ¬ (w5.heap.size = d ∨ w5.heap.size = b); omega)
            have hr6 := hk6.at ((Keep.alloc (fun _ => False) w5.drew _).at hrow fun e => e) (by omega)
            have hr96 := hk6.at ((Keep.alloc (fun _ => False) w5.drew _).at hrow9 fun e => e) (by omega)
            have hS6 := (⟨row5 hr6, (row9 hr96).2.2.2.2.2.1⟩ : (w6.cell? ⟨R, 0, none⟩ = some (.string U.name) ∧ w6.cell? ⟨R, 1, none⟩ = some (.string f) ∧ w6.cell? ⟨R, 2, none⟩ = some (.int .i64 0) ∧ w6.cell? ⟨R, 3, none⟩ = some (.slice none 0 0) ∧ w6.cell? ⟨R, 4, none⟩ = some (.slice none 0 0)) ∧ w6.cell? ⟨R + 1, 5, none⟩ = some (.int .u64 v))
            refine hK.out _ _ (Or.inr hS6) ?_
            have HU6 := Lib.hid hU6
            have HK6 : Hid (Keep F w w6) := Lib.hid (HKD.out (((Keep.of_below HB5.out).same (Keep.drew F w5)).same (Keep.alloc F _ _)) hk6)
            have HZ6 := Lib.hid hz6
            clear hK Kn hU6 hk6 hr6 hr96 hz6
            try simp only [Act.put, List.setIfInBounds_toArray, List.set_cons_zero, List.set_cons_succ]
            have hS := hS6
            refine wpAnyG_pure (i := 7) (v := ?vc7) at7 (by kernel_rfl) (fun _ _ _ h => h) (Or.inl ⟨by rfl, ?hc7⟩) (Or.inr (by assumption)) ?rc7
            case hc7 => (intro w hSw; (try dsimp only at hSw); go_simp; try with_reducible rfl)
            case' rc7 => skip
            try simp only [Act.put, List.setIfInBounds_toArray, List.set_cons_zero, List.set_cons_succ]
            refine wpAnyG_one 9 at9 (by kernel_rfl) (fun Kn hK => ?_)
            refine step_store_all rfl _ _ _ rfl rfl rfl _ _ HZ6.out info_ow rfl (by simp [Value.oneCell']) ?_
            intro w7 h7 k7 s7
            refine hK.out _ _ (Or.inl (by kernel_rfl)) ?_
            have hFin := HZ.out w7 w5.heap.size (by omega) (HU6.out.keep k7 fun i hi e => by have := HLT.out i hi; have e2 : i = w5.heap.size := e; omega) (HK6.out.trans k7 fun i hi => Or.inr (by have e2 : i = w5.heap.size := hi; omega)) h7
            clear hK Kn h7 k7 s7 hS hS6
            refine wpAnyG_done (by kernel_rfl) ?_
            try simp only [Act.put, List.setIfInBounds_toArray, List.set_cons_zero, List.set_cons_succ]
            go_wp2_with fail
            go_meet
            exact ⟨_, rfl, hFin⟩
        case rest =>
          obtain ⟨Z, rfl, hZw, HF⟩ := hcut
          obtain ⟨hU6, hK6, hZ6⟩ := HF.out
          have hd6 := drawn_calls hU6 (by dsimp only; omega) ⟨#[115, 105, 103, 110]⟩ pa (by decide) hpz
          dsimp only at hd6
          have HD6 := Lib.hid hd6
          have HZ6 := Lib.hid hZ6
          have HK6 := Lib.hid hK6
          have hFl : ∀ i, F i → i < w.heap.size := HU.out.lt
          have HFL := Lib.hid hFl
          have hdZ : ¬ (Z = d ∨ Z = b) := by have := hFl _ HU.out.fd; have := hFl _ HU.out.fb; omega
          have HFD := Lib.hid (⟨HU.out.fd, HU.out.fb, HU.out.fm⟩ : F d ∧ F b ∧ F m)
          clear hd6 hZ6 hK6 hU6 HF hFl
          go_wp2_with fail
          refine HD6.out.mono ?_
          rintro e w7 ⟨rfl, hU7, hk7⟩
          have hZ7 := hk7.at HZ6.out hdZ
          have HK7 : Hid (Keep F w w7) := Lib.hid (HK6.out.same (hk7.mono fun i hi => by rcases hi with rfl | rfl; exact HFD.out.1; exact HFD.out.2.1))
          obtain ⟨sg, hsg⟩ : ∃ sg, secT ⟨#[115, 105, 103, 110]⟩ pa (drawN U.seed (U.drew + 1)) = sg := ⟨_, rfl⟩
          obtain ⟨W8, hW8⟩ : ∃ W8, w7.alloc (.cells #[.string sg] 9) = W8 := ⟨_, rfl⟩
          have hZ8 := (Keep.alloc (fun _ => False) w7 (.cells #[.string sg] 9)).at hZ7 fun e => e
          rw [hW8] at hZ8
          have hs8 : W8.heap.size = w7.heap.size + 1 := by rw [← hW8, size_alloc]
          have hg8 : W8.heap[w7.heap.size]? = some (.cells #[.string sg] 9 (0, 0)) := by rw [← hW8, get_alloc, if_pos rfl]
          have hK8 : Keep F w W8 := by rw [← hW8]; exact HK7.out.same (Keep.alloc F _ _)
          have hU8 := hU7.below ((Below.refl _ w7).alloc (Nat.le_refl _) (.cells #[.string sg] 9))
          rw [hW8] at hU8
          obtain ⟨c0, c1, c2, c3, c4, c5, c6, c7, c8⟩ := row9 hZ8
          have f7 := frozen_of_row hZ8 7
          have hset := set_at hZ8 7 (.slice (some ⟨w7.heap.size, 0, none⟩) 1 1)
          have hkset : Keep (fun i => i = Z) W8 (W8.setCell ⟨Z, 7, none⟩ (.slice (some ⟨w7.heap.size, 0, none⟩) 1 1)) := Keep.setCell (fun i => i = Z) W8 (p := ⟨Z, 7, none⟩) rfl _
          obtain ⟨W9, hW9⟩ : ∃ W9, W8.setCell ⟨Z, 7, none⟩ (.slice (some ⟨w7.heap.size, 0, none⟩) 1 1) = W9 := ⟨_, rfl⟩
          rw [hW9] at hset hkset
          rw [hsg]
          have HU9 := Lib.hid (hU8.keep hkset fun i hi e => by have := HFL.out i hi; have e2 : i = Z := e; omega)
          have HK9 := Lib.hid (hK8.trans hkset fun i hi => Or.inr (by have e2 : i = Z := hi; omega))
          have hZlt : Z < w7.heap.size := (Array.getElem?_eq_some_iff.1 hZ7).1
          have HG9 := Lib.hid (hkset.at hg8 (by omega))
          simp at hset
          have HZ9 := Lib.hid hset
          have HSG := Lib.hid hsg
          clear hU7 hk7 hZ7 hZ8 hg8 hK8 hU8 hset hkset hsg
          go_wp2_with fail
          have hZ9 : W9.drew.heap[Z]? = _ := HZ9.out
          have hU9 := HU9.out.below (Below.refl _ W9).drew
          have HU9d := Lib.hid hU9
          have HM9 := Lib.hid hU9.map
          have hp4 := hU9.cells.2.2.2.2
          have HQ := row9 hZ9
          clear hZ9 hU9 c0 c1 c2 c3 c4 c5 c6 c7 c8 f7 hW9 hW8
          refine wp_region_G (fun w' => w'.cell? ⟨p, 4, none⟩ = some (.map (some m)) ∧ w'.cell? ⟨Z, 0, none⟩ = some (.string U.name) ∧ w'.cell? ⟨Z, 1, none⟩ = some (.string f) ∧ w'.cell? ⟨Z, 2, none⟩ = some (.int .i64 0) ∧ w'.cell? ⟨Z, 3, none⟩ = some (.slice none 0 0) ∧ w'.cell? ⟨Z, 4, none⟩ = some (.slice none 0 0) ∧ w'.cell? ⟨Z, 5, none⟩ = some (.int .u64 ((((v + 1) % 18446744073709551616 : Nat)) : Int)) ∧ w'.cell? ⟨Z, 6, none⟩ = some (.string (secT ⟨#[114, 111, 111, 116]⟩ pa (drawN U.seed U.drew))) ∧ w'.cell? ⟨Z, 7, none⟩ = some (.slice (some ⟨w7.heap.size, 0, none⟩) 1 1) ∧ w'.cell? ⟨Z, 8, none⟩ = some (.bool false)) [6] (by kernel_rfl) ?_
          have hS := And.intro hp4 HQ
          clear HQ hp4
          refine wpAnyG_pure (i := 0) (v := ?vd0) at0 (by kernel_rfl) (fun _ _ _ h => h) (Or.inl ⟨by rfl, ?hd0⟩) (Or.inr (by assumption)) ?rd0
          case hd0 => (intro w hSw; (try dsimp only at hSw); go_simp; try with_reducible rfl)
          case' rd0 => skip
          try simp only [Act.put, List.setIfInBounds_toArray, List.set_cons_zero, List.set_cons_succ]
          refine wpAnyG_pure (i := 1) (v := ?vd1) at1 (by kernel_rfl) (fun _ _ _ h => h) (Or.inl ⟨by rfl, ?hd1⟩) (Or.inr (by assumption)) ?rd1
          case hd1 => (intro w hSw; (try dsimp only at hSw); go_simp; try with_reducible rfl)
          case' rd1 => skip
          try simp only [Act.put, List.setIfInBounds_toArray, List.set_cons_zero, List.set_cons_succ]
          refine wpAnyG_pure (i := 2) (v := ?vd2) at2 (by kernel_rfl) (fun _ _ _ h => h) (Or.inl ⟨by rfl, ?hd2⟩) (Or.inr (by assumption)) ?rd2
          case hd2 => (intro w hSw; (try dsimp only at hSw); go_simp; try with_reducible rfl)
          case' rd2 => skip
          try simp only [Act.put, List.setIfInBounds_toArray, List.set_cons_zero, List.set_cons_succ]
          refine wpAnyG_take (ws := [3,5]) (i := 3) (v := ?vd3) at3 (by kernel_rfl) (fun _ _ _ h => h) (Or.inl ⟨by rfl, ?hd3⟩) (by assumption) ?rd3
          case hd3 => (intro w hSw; (try dsimp only at hSw); go_simp; try with_reducible rfl)
          case' rd3 => skip
          try simp only [Act.put, List.setIfInBounds_toArray, List.set_cons_zero, List.set_cons_succ]
          refine wpAnyG_pure (i := 4) (v := ?vd4) at4 (by kernel_rfl) (fun _ _ _ h => h) (Or.inl ⟨by rfl, ?hd4⟩) (Or.inr (by assumption)) ?rd4
          case hd4 => (intro w hSw; (try dsimp only at hSw); go_simp; try with_reducible rfl)
          case' rd4 => skip
          try simp only [Act.put, List.setIfInBounds_toArray, List.set_cons_zero, List.set_cons_succ]
          refine wpAnyG_take (ws := [3,5]) (i := 5) (v := ?vd5) at5 (by kernel_rfl) (fun _ _ _ h => h) (Or.inl ⟨by rfl, ?hd5⟩) (by assumption) ?rd5
          case hd5 => (intro w hSw; (try dsimp only at hSw); go_simp; try with_reducible rfl)
          case' rd5 => skip
          try simp only [Act.put, List.setIfInBounds_toArray, List.set_cons_zero, List.set_cons_succ]
          refine wpAnyG_one 6 at6 (by kernel_rfl) (fun Kn hK => ?_)
          refine step_upd rfl _ _ _ _ rfl lawS 111 Tryz.underlying160 m _ rfl HM9.out f rfl _ rfl ?_
          intro w10 hm10 hg10 hz10
          refine hK.out _ _ (Or.inl (by kernel_rfl)) ?_
          have hFin : Hid (UsRet w (U.made f v, 0) F p d b m (.returned (.int .i64 0)) w10) := Lib.hid (by
            have hl7 : w7.heap.size < W9.drew.heap.size := (Array.getElem?_eq_some_iff.1 HG9.out).1
            have hrow : strs W9.drew (.slice (some ⟨w7.heap.size, 0, none⟩) 1 1) [sg] := strs_own (owns_full (w := W9.drew) (l := [sg]) (B := 0) HG9.out (Nat.zero_le _) (by simp))
            have hput := HU9d.out.put (F' := fun i => F i ∨ i = w7.heap.size) (k := f) (r := ⟨⟨⟨U.name, f, 0, [], []⟩, (v + 1) % 18446744073709551616, secT ⟨#[114, 111, 111, 116]⟩ pa (drawN U.seed U.drew), [sg], false⟩, .slice none 0 0, .slice none 0 0, .slice (some ⟨w7.heap.size, 0, none⟩) 1 1⟩) hm10 hg10 ⟨⟨strs_nil _, strs_nil _⟩, hrow⟩ (by
              intro g hg
              have hgg : g = w7.heap.size := by
                rcases hg with hg | hg | hg
                · cases hg
                · cases hg
                · cases hg; rfl
              have := HFL.out _ HU.out.fp
              have := HFL.out _ HU.out.fd
              have := HFL.out _ HU.out.fb
              have := HFL.out _ HU.out.fm
              exact ⟨Or.inr hgg, by omega, by omega, by omega, by omega⟩) (fun i hi => Or.inl hi) (by
              intro i hi
              rcases hi with hi | hi
              · exact HU9d.out.lt i hi
              · omega) (by
              have := HT.out.lt.1
              rintro (hi | hi)
              · exact HU.out.t3 hi
              · omega) (by
              have := HT.out.lt.2
              rintro (hi | hi)
              · exact HU.out.t4 hi
              · omega)
            have hmade : U.made f v = { U with drew := U.drew + 2, files := aput U.files f ⟨⟨U.name, f, 0, [], []⟩, (v + 1) % 18446744073709551616, secT ⟨#[114, 111, 111, 116]⟩ pa (drawN U.seed U.drew), [sg], false⟩ } := by unfold Us.made; rw [HPA.out, HSG.out]
            rw [hmade]
            refine ⟨rfl, fun i => F i ∨ i = w7.heap.size, _, hput, ?_, fun i hi => Or.inl hi, fun i hi => ?_⟩
            · exact (HK9.out.same (Keep.drew F W9)).same (Keep.of_grown hg10 fun i hi => by cases hi; exact HFD.out.2.2)
            · rcases hi with hi | hi
              · exact Or.inl hi
              · exact Or.inr (by omega))
          clear hK Kn hS hm10 hg10 hz10
          refine wpAnyG_done (by kernel_rfl) ?_
          try simp only [Act.put, List.setIfInBounds_toArray, List.set_cons_zero, List.set_cons_succ]
          go_wp2_with fail
          go_ret
          rw [HE.out]
          exact hFin.out
set_option maxRecDepth 100000 in
set_option maxHeartbeats 1000000 in
theorem create_no {w : World} {U : Us} {F : Nat → Prop} {p d b m : Nat} {rows : List (ByteArray × Rw)} (h : UsAt w U F p d b m rows) (hok : U.ok) (hT : Tabs w) (f : ByteArray) (hf : f.size ≤ 9223372036854775807) (hn : nameR f = false) :
    Calls Tryz.prog 88 #[.pointer (some ⟨p, 0, none⟩), .string f] w fun e w' => UsRet w (U, 3) F p d b m e w' := by
  obtain ⟨c0, c1, c2, c3, c4⟩ := h.cells
  have hns := nameR_size hok.name
  have hnew := new_calls w U.name f (by omega) hf hT
  have HU := Lib.hid h
  have hnr : newR U.name f = (⟨ByteArray.empty, ByteArray.empty, 0, [], []⟩, 3) := by unfold newR; rw [hn]; simp
  rw [hnr] at hnew
  simp only [] at hnew
  have HN := Lib.hid hnew
  clear hnr hnew hn h hok hT
  go_enter Tryz.func88, Tryz.ntmps88
  go_wp2_with fail
  refine HN.out.mono ?_
  rintro e w1 ⟨rfl, hb⟩
  have HB := Lib.hid (hb.alloc hb.size (.cells #[.string ByteArray.empty, .string ByteArray.empty, .int .i64 0, .slice none 0 0, .slice none 0 0] 39))
  clear hb
  go_wp2_with fail
  go_ret
  exact UsRet.same HU.out HB.out _
theorem create_calls {w : World} {U : Us} {F : Nat → Prop} {p d b m : Nat} {rows : List (ByteArray × Rw)} (h : UsAt w U F p d b m rows) (hok : U.ok) (hT : Tabs w) (hd : U.drew ≤ 90000) (f : ByteArray) (hf : f.size ≤ 9223372036854775807) :
    Calls Tryz.prog 88 #[.pointer (some ⟨p, 0, none⟩), .string f] w fun e w' => UsRet w (U.create f) F p d b m e w' := by
  unfold Us.create
  cases hn : nameR f with
  | false => rw [if_pos rfl]; exact create_no h hok hT f hf hn
  | true =>
    rw [if_neg (by simp), h.find]
    cases hr : aget rows f with
    | none =>
      have := create_walk h hok hT hd f hn ⟨#[]⟩ ⟨#[]⟩ ⟨#[]⟩ 0 none none none 0 0 0 0 0 0 0 false false (by decide) (Or.inl rfl) fun W hW => by
        have := (h.below hW).look_none hr true
        exact this
      exact this
    | some r =>
      have hOk := hok.all f r.o (by rw [h.find, hr]; rfl)
      have hL := h.lists f r hr
      obtain ⟨A1, q1, hA1, _, _⟩ := hL.rt.rd.form
      obtain ⟨A2, q2, hA2, _, _⟩ := hL.rt.wr.form
      obtain ⟨A3, q3, hA3, _, _⟩ := hL.sg.form
      have := create_walk h hok hT hd f hn r.o.r.owner r.o.r.file r.o.root r.o.r.epoch A1 A2 A3 r.o.r.rd.length r.o.r.wr.length r.o.sg.length q1 q2 q3 r.o.ver r.o.gone true hOk.ver (by cases r.o.gone <;> simp) fun W hW => by
        have := (h.below hW).look hr true
        rw [hA1, hA2, hA3] at this
        exact this
      cases hg : r.o.gone with
      | false => rw [hg] at this; simpa [hg] using this
      | true => rw [hg] at this; simpa [hg] using this
end Go.Proofs.YtckblcfkajpofaaGreatDoor
namespace Go.Proofs.YtckblcfkajpofaaGreatDoor
open Go.RowKit Go.Sort
set_option linter.unusedVariables false
set_option linter.unusedSimpArgs false

theorem create_first {U : Us} (hf : U.files = []) : U.create notesB = (U.made notesB 0, 0) := by
  unfold Us.create
  rw [if_neg (by rw [name_notes]; simp), hf]
  have hl : U.list.length = 0 := by
    unfold Us.list; rw [hf]; simp [akeys, sortB]
  simp [aget, hl]
theorem aget_one (k : ByteArray) (o : Ow) : aget (aput [] k o) k = some o := by rw [aget_aput, if_pos rfl]
theorem own_first {U : Us} (hf : U.files = []) (v : Nat) : (U.made notesB v).own notesB = some ⟨⟨U.name, notesB, 0, [], []⟩, (v + 1) % 18446744073709551616, secT ⟨#[114, 111, 111, 116]⟩ (pathB U.name notesB) (drawN U.seed U.drew), [secT ⟨#[115, 105, 103, 110]⟩ (pathB U.name notesB) (drawN U.seed (U.drew + 1))], false⟩ := by
  unfold Us.own Us.made
  dsimp only
  rw [hf, aget_one]
  simp
theorem umade_ok {U : Us} (hok : U.ok) {f : ByteArray} (hf : nameR f = true) (v : Nat) : (U.made f v).ok := by
  refine ⟨hok.name, hok.seed, hok.secret, fun k o hk => ?_, ?_⟩
  · unfold Us.made at hk
    dsimp only at hk
    rw [aget_aput] at hk
    split at hk
    · rename_i e
      cases hk; subst e
      exact ⟨rfl, rfl, right_new hok.name hf, Nat.mod_lt _ (by decide), secT_size _ _ _, rfl, fun s hs => by
        rw [List.mem_singleton] at hs; subst hs; exact secT_size _ _ _⟩
    · exact hok.all k o hk
  · show (aput U.files f _).length ≤ U.drew + 2
    have := aput_length U.files f (⟨⟨U.name, f, 0, [], []⟩, (v + 1) % 18446744073709551616, secT ⟨#[114, 111, 111, 116]⟩ (pathB U.name f) (drawN U.seed U.drew), [secT ⟨#[115, 105, 103, 110]⟩ (pathB U.name f) (drawN U.seed (U.drew + 1))], false⟩ : Ow)
    have := hok.len
    omega
set_option maxRecDepth 100000 in
set_option maxHeartbeats 2000000 in
theorem shown14_calls {w : World} (hT : Tabs w) : Calls Tryz.prog 21 #[] w fun e w' => e = .returned (.bool true) ∧ Below w.heap.size w w' := by
  have HN := Lib.hid (unew_calls w annaB 1 (by decide) (by decide) hT)
  rw [name_anna] at HN
  have HT := Lib.hid hT
  clear hT
  go_enter Tryz.func21, Tryz.ntmps21
  go_wp2_with fail
  refine HN.out.mono ?_
  rintro e w1 ⟨hb1, hh⟩
  simp only [if_true] at hh
  obtain ⟨p, d, b, m, rfl, hU, hn⟩ := hh
  have HB := Lib.hid hb1
  have hC := create_calls hU (unew_ok name_anna (by decide)) (HT.out.below hb1) (by simp [unew]) notesB (by decide)
  rw [create_first (show (unew annaB 1).files = [] from rfl)] at hC
  have HC := Lib.hid hC
  have HNW := Lib.hid hn
  clear hC hb1 hU hn
  go_wp2_with fail
  refine HC.out.mono ?_
  rintro e w2 ⟨rfl, F', rows, hU2, hK2, _, _⟩
  dsimp only at hU2
  have hb2 : Below w.heap.size w w2 := ((Keep.of_below HB.out (F := fun i => w.heap.size ≤ i)).same (hK2.mono fun i hi => HNW.out i hi)).new
  have hO := uown_calls hU2 (umade_ok (unew_ok name_anna (by decide)) name_notes 0) notesB
  rw [own_first (show (unew annaB 1).files = [] from rfl)] at hO
  have HO := Lib.hid hO
  have HB2 := Lib.hid hb2
  clear hO hU2 hK2 hb2
  go_wp2_with fail
  refine HO.out.mono ?_
  rintro e w3 ⟨hb3, vr, vw, vs, rfl, ho⟩
  obtain ⟨A2, ca2, rfl, _, _⟩ := own_slice ho.rd
  obtain ⟨C2, cb2, rfl, _, _⟩ := own_slice ho.wr
  obtain ⟨D2, cd2, rfl, _, _⟩ := own_slice ho.sg
  have HB3 := Lib.hid (HB2.out.trans (hb3.mono HB2.out.size))
  clear hb3 ho
  simp only [agO]
  go_wp2_with fail
  go_ret
  exact ⟨rfl, HB3.out.alloc HB3.out.size _⟩
end Go.Proofs.YtckblcfkajpofaaGreatDoor
