/- user: what is owned: own. Rights as bytes: plain law. rights: Put. rights: Take. slices.Sort of strings; meta.others. user: in memory; drawn, Name, Secret, Public, New. user: New. user: Files, Own. user: Own. A region that draws its order: two may come up. user: name.Path; Create. law 14: shown. -/
import Derived.Test.YtckblcfkajpofaaGreatDoorZA4
import Derived.Test.YtckblcfkajpofaaGreatDoorZA5
import Derived.Test.YtckblcfkajpofaaGreatDoorZA1
import Derived.Laws.CopyOwn
import Derived.Test.YtckblcfkajpofaaGreatDoorZA3
import Derived.Handy
import Derived.Test.YtckblcfkajpofaaGreatDoorLaySo
import Derived.Shelf.Sort.Plain
import Derived.Shelf.Slices.In.SortNone
import Derived.Test.YtckblcfkajpofaaGreatDoorLayKy
import Derived.Sort.KeysCollected
import Derived.WideMake
namespace Go.Proofs.YtckblcfkajpofaaGreatDoor
open Go.RowKit
set_option linter.unusedVariables false
set_option linter.unusedSimpArgs false

structure Ow where
  r : Rt
  ver : Nat
  root : ByteArray
  sg : List ByteArray
  gone : Bool
def owCells (o : Ow) (vr vw vs : Value) : Array Value := #[.string o.r.owner, .string o.r.file, .int .i64 o.r.epoch, vr, vw, .int .u64 o.ver, .string o.root, vs, .bool o.gone]
abbrev agO (o : Ow) (vr vw vs : Value) : Value := .agg #[.string o.r.owner, .string o.r.file, .int .i64 o.r.epoch, vr, vw, .int .u64 o.ver, .string o.root, vs, .bool o.gone]
structure OLists (w : World) (o : Ow) (vr vw vs : Value) : Prop where
  rt : Lists w o.r vr vw
  sg : strs w vs o.sg
theorem OLists.below {w w' : World} {o : Ow} {vr vw vs : Value} (h : OLists w o vr vw vs) (k : Below w.heap.size w w') : OLists w' o vr vw vs := ⟨h.rt.below k, h.sg.below k⟩
/-- lists of its own, in new blocks -/
structure OOwn (w : World) (B : Nat) (o : Ow) (vr vw vs : Value) : Prop where
  rd : w.ownsRow B 9 1 vr o.r.rd.length (strV o.r.rd)
  wr : w.ownsRow B 9 1 vw o.r.wr.length (strV o.r.wr)
  sg : w.ownsRow B 9 1 vs o.sg.length (strV o.sg)
theorem OOwn.lists {w : World} {B : Nat} {o : Ow} {vr vw vs : Value} (h : OOwn w B o vr vw vs) : OLists w o vr vw vs := ⟨⟨strs_own h.rd, strs_own h.wr⟩, strs_own h.sg⟩
theorem row9 {w : World} {b : Nat} {v0 v1 v2 v3 v4 v5 v6 v7 v8 : Value} {t : TypeId} (h : w.heap[b]? = some (.cells #[v0, v1, v2, v3, v4, v5, v6, v7, v8] t (0, 0))) : w.cell? ⟨b, 0, none⟩ = some v0 ∧ w.cell? ⟨b, 1, none⟩ = some v1 ∧ w.cell? ⟨b, 2, none⟩ = some v2 ∧ w.cell? ⟨b, 3, none⟩ = some v3 ∧ w.cell? ⟨b, 4, none⟩ = some v4 ∧ w.cell? ⟨b, 5, none⟩ = some v5 ∧ w.cell? ⟨b, 6, none⟩ = some v6 ∧ w.cell? ⟨b, 7, none⟩ = some v7 ∧ w.cell? ⟨b, 8, none⟩ = some v8 := by
  refine ⟨?_, ?_, ?_, ?_, ?_, ?_, ?_, ?_, ?_⟩ <;> (rw [cell_of_row _ _ _ _ _ _ h]; rfl)
theorem info_ow : (Tryz.prog.info? 111).map (·.size) = some 9 := by kernel_rfl
theorem infoS1 : (Tryz.prog.info? 9).map (·.size) = some 1 := by kernel_rfl
theorem infoS3 : (Tryz.prog.info? 9).map (fun i => (i.zero, i.size, i.bytes)) = some (some (.string ⟨#[]⟩), 1, 16) := by kernel_rfl
theorem strV_made (n : Nat) : madeCells #[Value.string ⟨#[]⟩] n = (strV (List.replicate n ⟨#[]⟩)).toArray := by
  apply Array.toList_inj.1
  simp only [madeCells, strV, Array.toList_ofFn, List.map_replicate]
  apply List.ext_getElem
  · simp
  · intro i h1 h2
    simp [Nat.mod_one]
theorem owns_full {w : World} {B g : Nat} {l : List ByteArray} (hg : w.heap[g]? = some (.cells (strV l).toArray 9 (0, 0))) (hB : B ≤ g) (hl : l.length ≤ 1000000) : w.ownsRow B 9 1 (.slice (some ⟨g, 0, none⟩) l.length l.length) l.length (strV l) :=
  ⟨by simp [strV], Or.inr ⟨g, l.length, _, rfl, hB, hg, Nat.le_refl _, by unfold maxLen; omega, by simp [strV], by rw [Nat.mul_one]; exact List.take_of_length_le (by simp [strV])⟩⟩
theorem own_lower {w : World} {B B' : Nat} {e : TypeId} {z n : Nat} {v : Value} {xs : List Value} (h : w.ownsRow B e z v n xs) (hb : B' ≤ B) : w.ownsRow B' e z v n xs := by
  obtain ⟨h1, h2⟩ := h
  refine ⟨h1, ?_⟩
  rcases h2 with h2 | ⟨g, cap, cur, h3, h4, h5⟩
  · exact Or.inl h2
  · exact Or.inr ⟨g, cap, cur, h3, Nat.le_trans hb h4, h5⟩
set_option maxRecDepth 100000 in
set_option maxHeartbeats 2000000 in
theorem own_calls (w : World) (o : Ow) (vr vw vs : Value) (hl : OLists w o vr vw vs) (h1 : o.r.rd.length ≤ 1000) (h2 : o.r.wr.length ≤ 1000) (h3 : o.sg.length ≤ 1000) :
    Calls Tryz.prog 186 #[agO o vr vw vs] w fun e w' => ∃ vr' vw' vs', e = .returned (agO o vr' vw' vs') ∧ OOwn w' w.heap.size o vr' vw' vs' ∧ Below w.heap.size w w' := by
  obtain ⟨⟨ow, fi, ep, rd, wr⟩, ver, root, sg, gone⟩ := o
  dsimp only at *
  obtain ⟨A, ca, rfl, a1, a2⟩ := hl.rt.rd.form
  obtain ⟨C, cb, rfl, b1, b2⟩ := hl.rt.wr.form
  obtain ⟨D, cd, rfl, d1, d2⟩ := hl.sg.form
  have hmk := fun W => run_make_row' (P := Tryz.prog) 35 9 (.string ⟨#[]⟩) 16 Tryz.underlying35 infoS3 rfl .i64 .i64 sg.length (by omega) (by omega) W
  rw [strV_made] at hmk
  have HL := Lib.hid hl
  clear hl
  have hsrc : 0 < sg.length → ∀ W, Keep (fun _ => False) w W → ∃ ad, D = some ad ∧ ∀ j v, (strV sg)[j]? = some v → W.cell? (ad.add j) = some v := by
    intro h0 W hW
    obtain ⟨A', c', hv', hc1, hc2, hc3⟩ := HL.out.sg
    cases hv'
    obtain ⟨b, off, rfl, hcell⟩ := hc3 h0
    refine ⟨_, rfl, fun j v hj => ?_⟩
    rw [strV_get] at hj
    obtain ⟨s, hs, rfl⟩ := Option.map_eq_some_iff.1 hj
    rw [add_at]
    exact hW.cell (hcell j s hs) fun e => e
  have HS := Lib.hid hsrc
  clear hsrc
  have hlz : (strV sg).length = sg.length := by simp [strV]
  have hsp : splice (strV (List.replicate sg.length ⟨#[]⟩)) 0 (strV sg) = strV sg := by simp [splice, strV]
  obtain ⟨W, hW⟩ : ∃ W, ((w.alloc (.cells #[.string ow, .string fi, .int .i64 ep, .slice A rd.length ca, .slice C wr.length cb, .int .u64 ver, .string root, .slice D sg.length cd, .bool gone] 111)).alloc (.cells #[.string ⟨#[]⟩, .string ⟨#[]⟩, .int .i64 0, .slice none 0 0, .slice none 0 0, .int .u64 0, .string ⟨#[]⟩, .slice none 0 0, .bool false] 111)) = W := ⟨_, rfl⟩
  obtain ⟨B, hB⟩ : ∃ B, w.heap.size = B := ⟨_, rfl⟩
  have hWs : W.heap.size = B + 2 := by rw [← hW, ← hB]; simp [size_alloc]
  have hWB : Below B w W := by rw [← hW, ← hB]; exact ((Below.refl _ w).alloc (Nat.le_refl _) _).alloc (by simp) _
  have hr0 : W.heap[B]? = some (.cells #[.string ow, .string fi, .int .i64 ep, .slice A rd.length ca, .slice C wr.length cb, .int .u64 ver, .string root, .slice D sg.length cd, .bool gone] 111 (0, 0)) := by
    rw [← hW, ← hB, get_alloc, if_neg (by simp [size_alloc]), get_alloc, if_pos rfl]
  have hr1 : W.heap[B + 1]? = some (.cells #[.string ⟨#[]⟩, .string ⟨#[]⟩, .int .i64 0, .slice none 0 0, .slice none 0 0, .int .u64 0, .string ⟨#[]⟩, .slice none 0 0, .bool false] 111 (0, 0)) := by
    rw [← hW, ← hB, get_alloc, if_pos (by simp [size_alloc])]
  have hkW : Keep (fun _ => False) w W := Keep.of_below (hB ▸ hWB)
  obtain ⟨c0, c1, c2, c3, c4, c5, c6, c7, c8⟩ := row9 hr0
  rw [hB]
  have HR0 := Lib.hid hr0
  have HR1 := Lib.hid hr1
  have HWB := Lib.hid hWB
  have HKW := Lib.hid hkW
  clear hr0 hr1 hWB hkW
  go_enter Tryz.func186, Tryz.ntmps186
  go_wp2_with (with_reducible refine wpList_copy_splice rfl (.tmp 8) (.tmp 10) _ _ rfl _ Tryz.underlying35 infoS1 _ _ _ _ _ _ rfl rfl (B + 2) 0 (strV (List.replicate sg.length ⟨#[]⟩)) 9 (by rw [get_alloc, if_pos hWs.symm]) (strV sg) (by simp [strV]) (fun h0 => ⟨rfl, HS.out (by simpa [strV] using h0) _ (HKW.out.same (Keep.alloc _ _ _))⟩) (by simp [strV]) (strV_one _) W.heap.size W ((Below.refl _ W).alloc (Nat.le_refl _) _) (Nat.le_of_eq hWs) ?_)
  intro w3 hg3 hb3
  have hb3' : Below W.heap.size W w3 := hWs ▸ hb3
  have HB3 := Lib.hid hb3'
  have hg3' := hg3.out
  have HG3 := Lib.hid hg3'
  have hr0' := (Keep.of_below (F := fun _ => False) hb3').at HR0.out fun e => e
  have hr1' := (Keep.of_below (F := fun _ => False) hb3').at HR1.out fun e => e
  clear hg3 hg3' hb3 hb3' c0 c1 c2 c3 c4 c5 c6 c7 c8
  obtain ⟨c0, c1, c2, c3, c4, c5, c6, c7, c8⟩ := row9 hr0'
  have f7 := frozen_of_row hr0' 7
  have hset := set_at hr0' 7 (.slice (some ⟨B + 2, 0, none⟩) sg.length sg.length)
  have hkset : Keep (fun i => i = B) w3 (w3.setCell ⟨B, 7, none⟩ (.slice (some ⟨B + 2, 0, none⟩) sg.length sg.length)) := Keep.setCell (fun i => i = B) w3 (p := ⟨B, 7, none⟩) rfl _
  obtain ⟨W4, hW4⟩ : ∃ W4, w3.setCell ⟨B, 7, none⟩ (.slice (some ⟨B + 2, 0, none⟩) sg.length sg.length) = W4 := ⟨_, rfl⟩
  rw [hW4] at hset hkset
  have HSET := Lib.hid hset
  have HKSET := Lib.hid hkset
  clear hset hkset hr0' hr1'
  go_wp2_with fail
  have hbW4 : Below w.heap.size w W4 := below_keep ((hB ▸ HWB.out : Below w.heap.size w W).trans (HB3.out.mono (by rw [hWs, hB]; omega))) (by rw [hB]; exact HKSET.out)
  have HBW := Lib.hid hbW4
  have hs4 : W4.heap[B]? = some (.cells #[.string ow, .string fi, .int .i64 ep, .slice A rd.length ca, .slice C wr.length cb, .int .u64 ver, .string root, .slice (some ⟨B + 2, 0, none⟩) sg.length sg.length, .bool gone] 111 (0, 0)) := by
    have := HSET.out; simpa using this
  have H4 := Lib.hid hs4
  have hg4 : W4.heap[B + 2]? = some (.cells (strV sg).toArray 9 (0, 0)) := HKSET.out.at HG3.out (by omega)
  have HG4 := Lib.hid hg4
  have hz4 : W4.heap[B + 1]? = some (.cells #[.string ⟨#[]⟩, .string ⟨#[]⟩, .int .i64 0, .slice none 0 0, .slice none 0 0, .int .u64 0, .string ⟨#[]⟩, .slice none 0 0, .bool false] 111 (0, 0)) := HKSET.out.at ((Keep.of_below (F := fun _ => False) HB3.out).at HR1.out fun e => e) (by omega)
  have HZ4 := Lib.hid hz4
  clear hs4 hg4 hz4 hbW4 c0 c1 c2 c3 c4 c5 c6 c7 c8 f7 hW4 hW hlz hsp hmk
  have hl2 : B + 2 < W4.heap.size := (Array.getElem?_eq_some_iff.1 HG4.out).1
  clear hWs
  refine wp_region_G (fun w' => w'.cell? ⟨B, 3, none⟩ = some (.slice A rd.length ca) ∧ w'.cell? ⟨B, 4, none⟩ = some (.slice C wr.length cb)) [10] (by kernel_rfl) ?_
  have hS : W4.drew.cell? ⟨B, 3, none⟩ = some (.slice A rd.length ca) ∧ W4.drew.cell? ⟨B, 4, none⟩ = some (.slice C wr.length cb) := ⟨cell_of_row _ _ _ _ _ _ H4.out, cell_of_row _ _ _ _ _ _ H4.out⟩
  refine wpAnyG_pure (i := 0) (v := ?va0) at0 (by kernel_rfl) (fun _ _ _ h => h) (Or.inl ⟨by rfl, ?ha0⟩) (Or.inr (by assumption)) ?ra0
  case ha0 => (intro w hSw; (try dsimp only at hSw); go_simp; try with_reducible rfl)
  case' ra0 => skip
  try simp only [Act.put, List.setIfInBounds_toArray, List.set_cons_zero, List.set_cons_succ]
  refine wpAnyG_pure (i := 1) (v := ?va1) at1 (by kernel_rfl) (fun _ _ _ h => h) (Or.inl ⟨by rfl, ?ha1⟩) (Or.inr (by assumption)) ?ra1
  case ha1 => (intro w hSw; (try dsimp only at hSw); go_simp; try with_reducible rfl)
  case' ra1 => skip
  try simp only [Act.put, List.setIfInBounds_toArray, List.set_cons_zero, List.set_cons_succ]
  refine wpAnyG_take (ws := [2,6,3,7]) (i := 2) (v := ?va2) at2 (by kernel_rfl) (fun _ _ _ h => h) (Or.inl ⟨by rfl, ?ha2⟩) (by assumption) ?ra2
  case ha2 => (intro w hSw; (try dsimp only at hSw); go_simp; try with_reducible rfl)
  case' ra2 => skip
  try simp only [Act.put, List.setIfInBounds_toArray, List.set_cons_zero, List.set_cons_succ]
  refine wpAnyG_pure (i := 4) (v := ?va4) at4 (by kernel_rfl) (fun _ _ _ h => h) (Or.inl ⟨by rfl, ?ha4⟩) (Or.inr (by assumption)) ?ra4
  case ha4 => (intro w hSw; (try dsimp only at hSw); go_simp; try with_reducible rfl)
  case' ra4 => skip
  try simp only [Act.put, List.setIfInBounds_toArray, List.set_cons_zero, List.set_cons_succ]
  refine wpAnyG_pure (i := 5) (v := ?va5) at5 (by kernel_rfl) (fun _ _ _ h => h) (Or.inl ⟨by rfl, ?ha5⟩) (Or.inr (by assumption)) ?ra5
  case ha5 => (intro w hSw; (try dsimp only at hSw); go_simp; try with_reducible rfl)
  case' ra5 => skip
  try simp only [Act.put, List.setIfInBounds_toArray, List.set_cons_zero, List.set_cons_succ]
  refine wpAnyG_take (ws := [2,6,3,7]) (i := 6) (v := ?va6) at6 (by kernel_rfl) (fun _ _ _ h => h) (Or.inl ⟨by rfl, ?ha6⟩) (by assumption) ?ra6
  case ha6 => (intro w hSw; (try dsimp only at hSw); go_simp; try with_reducible rfl)
  case' ra6 => skip
  try simp only [Act.put, List.setIfInBounds_toArray, List.set_cons_zero, List.set_cons_succ]
  refine wpAnyG_one 3 at3 (by kernel_rfl) (fun Kn hK => ?_)
  go_simp
  refine (clone_strs ((HL.out.rt.rd.below HBW.out).below (Below.refl _ W4).drew) (by dsimp only; omega)).mono ?_
  rintro e w5 ⟨v5, rfl, ho5, hb5⟩
  have hb5' : Below W4.heap.size W4 w5 := (Below.refl _ W4).drew.trans hb5
  have H5 := Lib.hid ((Keep.of_below (F := fun _ => False) hb5').at H4.out fun e => e)
  have G5 := Lib.hid ((Keep.of_below (F := fun _ => False) hb5').at HG4.out fun e => e)
  have Z5 := Lib.hid ((Keep.of_below (F := fun _ => False) hb5').at HZ4.out fun e => e)
  have B5 := Lib.hid (HBW.out.trans (hb5'.mono HBW.out.size))
  have O5 := Lib.hid ho5
  have S5 := Lib.hid hb5'.size
  obtain ⟨A5, c5, rfl, _, _⟩ := own_slice ho5
  have hS5 : w5.cell? ⟨B, 3, none⟩ = some (.slice A rd.length ca) ∧ w5.cell? ⟨B, 4, none⟩ = some (.slice C wr.length cb) := ⟨cell_of_row _ _ _ _ _ _ H5.out, cell_of_row _ _ _ _ _ _ H5.out⟩
  refine hK.out _ _ (Or.inr hS5) ?_
  clear hb5 hb5' ho5 hS hK Kn
  try simp only [Act.put, List.setIfInBounds_toArray, List.set_cons_zero, List.set_cons_succ]
  refine wpAnyG_pure (i := 8) (v := ?vb8) at8 (by kernel_rfl) (fun _ _ _ h => h) (Or.inl ⟨by rfl, ?hb8⟩) (Or.inr (by assumption)) ?rb8
  case hb8 => (intro w hSw; (try dsimp only at hSw); go_simp; try with_reducible rfl)
  case' rb8 => skip
  try simp only [Act.put, List.setIfInBounds_toArray, List.set_cons_zero, List.set_cons_succ]
  refine wpAnyG_pure (i := 9) (v := ?vb9) at9 (by kernel_rfl) (fun _ _ _ h => h) (Or.inl ⟨by rfl, ?hb9⟩) (Or.inr (by assumption)) ?rb9
  case hb9 => (intro w hSw; (try dsimp only at hSw); go_simp; try with_reducible rfl)
  case' rb9 => skip
  try simp only [Act.put, List.setIfInBounds_toArray, List.set_cons_zero, List.set_cons_succ]
  refine wpAnyG_one 7 at7 (by kernel_rfl) (fun Kn hK => ?_)
  go_simp
  refine (clone_strs (HL.out.rt.wr.below B5.out) (by dsimp only; omega)).mono ?_
  rintro e w6 ⟨v6, rfl, ho6, hb6⟩
  have h6 := (Keep.of_below (F := fun _ => False) hb6).at H5.out fun e => e
  have G6 := Lib.hid ((Keep.of_below (F := fun _ => False) hb6).at G5.out fun e => e)
  have Z6 := Lib.hid ((Keep.of_below (F := fun _ => False) hb6).at Z5.out fun e => e)
  have O56 := Lib.hid ((Keep.of_below (F := fun _ => False) hb6).own O5.out fun _ _ e => e)
  have B6 := Lib.hid (B5.out.trans (hb6.mono B5.out.size))
  have O6 := Lib.hid ho6
  obtain ⟨A6, c6, rfl, _, _⟩ := own_slice ho6
  have hS6 : w6.cell? ⟨B, 3, none⟩ = some (.slice A rd.length ca) ∧ w6.cell? ⟨B, 4, none⟩ = some (.slice C wr.length cb) := ⟨cell_of_row _ _ _ _ _ _ h6, cell_of_row _ _ _ _ _ _ h6⟩
  refine hK.out _ _ (Or.inr hS6) ?_
  have d3 := hS6.1
  have d4 := hS6.2
  have e3 := frozen_of_row h6 3
  have e4 := frozen_of_row h6 4
  have H6 := Lib.hid h6
  clear hb6 ho6 hS5 hS6 hK Kn h6
  try simp only [Act.put, List.setIfInBounds_toArray, List.set_cons_zero, List.set_cons_succ]
  refine wpAnyG_one 10 at10 (by kernel_rfl) (fun Kn hK => ?_)
  go_simp
  have h7 := set_at H6.out 3 (.slice A5 rd.length c5)
  have k7 : Keep (fun i => i = B) w6 (w6.setCell ⟨B, 3, none⟩ (.slice A5 rd.length c5)) := Keep.setCell (fun i => i = B) w6 (p := ⟨B, 3, none⟩) rfl _
  obtain ⟨W7, hW7⟩ : ∃ W7, w6.setCell ⟨B, 3, none⟩ (.slice A5 rd.length c5) = W7 := ⟨_, rfl⟩
  rw [hW7] at h7 k7 ⊢
  refine hK.out _ _ (Or.inl (by kernel_rfl)) ?_
  have d4 := cell_of_row _ _ 4 _ _ _ h7
  have e4 := frozen_of_row h7 4
  have h8 := set_at h7 4 (.slice A6 wr.length c6)
  have k8 : Keep (fun i => i = B) W7 (W7.setCell ⟨B, 4, none⟩ (.slice A6 wr.length c6)) := Keep.setCell (fun i => i = B) W7 (p := ⟨B, 4, none⟩) rfl _
  have H7 := Lib.hid (k7.same k8)
  have H8 := Lib.hid h8
  simp at d4
  clear h7 k7 h8 k8 hK Kn hW7 d3 e3
  try simp only [Act.put, List.setIfInBounds_toArray, List.set_cons_zero, List.set_cons_succ]
  refine wpAnyG_pure (i := 11) (v := ?vc11) at11 (by kernel_rfl) (fun _ _ _ h => h) (Or.inl ⟨by rfl, ?hc11⟩) (Or.inl (by kernel_rfl)) ?rc11
  case hc11 => (intro w hSw; (try dsimp only at hSw); go_simp; try with_reducible rfl)
  case' rc11 => skip
  try simp only [Act.put, List.setIfInBounds_toArray, List.set_cons_zero, List.set_cons_succ]
  refine wpAnyG_pure (i := 12) (v := ?vc12) at12 (by kernel_rfl) (fun _ _ _ h => h) (Or.inl ⟨by rfl, ?hc12⟩) (Or.inl (by kernel_rfl)) ?rc12
  case hc12 => (intro w hSw; (try dsimp only at hSw); go_simp; try with_reducible rfl)
  case' rc12 => skip
  try simp only [Act.put, List.setIfInBounds_toArray, List.set_cons_zero, List.set_cons_succ]
  refine wpAnyG_one 13 at13 (by kernel_rfl) (fun Kn hK => ?_)
  go_simp
  obtain ⟨W8, hW8⟩ : ∃ W8, W7.setCell ⟨B, 4, none⟩ (.slice A6 wr.length c6) = W8 := ⟨_, rfl⟩
  rw [hW8] at H7 H8 ⊢
  refine hK.out _ _ (Or.inl (by kernel_rfl)) ?_
  have h8 := H8.out
  simp at h8
  have k8 := H7.out
  clear hK Kn H8 H7 hW8 d4 e4
  refine wpAnyG_done (by kernel_rfl) ?_
  obtain ⟨c0, c1, c2, c3, c4, c5', c6', c7, c8⟩ := row9 h8
  have HZ8 := Lib.hid (k8.at Z6.out (by omega))
  have HS8 := Lib.hid (k8.own O56.out fun b hb e => by have h : W4.drew.heap.size ≤ b := own_new O56.out b hb; have h2 : W4.drew.heap.size = W4.heap.size := rfl; omega)
  have HR8 := Lib.hid (k8.own O6.out fun b hb e => by have := own_new O6.out b hb; have := S5.out; omega)
  have HG8 := Lib.hid (k8.at G6.out (by omega))
  have HB8 := Lib.hid (below_keep B6.out (by rw [hB]; exact k8))
  clear h8 k8
  go_wp2_with (with_reducible refine wp_stop_store _ _ _ rfl ?_)
  unfold Stop
  refine wp_store_all rfl _ _ _ rfl rfl rfl _ _ HZ8.out info_ow rfl (by simp [Value.oneCell']) ?_
  intro w9 h9 k9 s9
  have HF : Hid (OOwn w9 w.heap.size ⟨⟨ow, fi, ep, rd, wr⟩, ver, root, sg, gone⟩ (.slice A5 rd.length c5) (.slice A6 wr.length c6) (.slice (some ⟨B + 2, 0, none⟩) sg.length sg.length) ∧ Below w.heap.size w w9) := Lib.hid (by
    refine ⟨⟨?_, ?_, ?_⟩, ?_⟩
    · exact own_lower (k9.own HS8.out fun b hb e => by have h : W4.drew.heap.size ≤ b := own_new O56.out b hb; have h2 : W4.drew.heap.size = W4.heap.size := rfl; omega) (by have h2 : W4.drew.heap.size = W4.heap.size := rfl; omega)
    · exact own_lower (k9.own HR8.out fun b hb e => by have := own_new O6.out b hb; have := S5.out; omega) (by have := S5.out; omega)
    · exact own_lower (owns_full (k9.at HG8.out (by omega)) (Nat.le_refl _) (by omega)) (by omega)
    · exact ((Keep.of_below HB8.out (F := fun k => w.heap.size ≤ k)).trans k9 fun i hi => Or.inr (by omega)).new)
  clear c0 c1 c2 c3 c4 c5' c6' c7 c8
  obtain ⟨c0, c1, c2, c3, c4, c5', c6', c7, c8⟩ := row9 h9
  clear h9 k9 s9
  go_wp2_with fail
  refine bodyPost_ret (v := .agg #[.string ow, .string fi, .int .i64 ep, .slice A5 rd.length c5, .slice A6 wr.length c6, .int .u64 ver, .string root, .slice (some ⟨B + 2, 0, none⟩) sg.length sg.length, .bool gone]) (by simp [results, Tryz.results186, go_sem, c0, c1, c2, c3, c4, c5', c6', c7, c8]) rfl ⟨_, _, _, rfl, hB ▸ HF.out.1, hB ▸ HF.out.2⟩
end Go.Proofs.YtckblcfkajpofaaGreatDoor
namespace Go.Proofs.YtckblcfkajpofaaGreatDoor
open Go.Lib
set_option linter.unusedVariables false
set_option linter.unusedSimpArgs false

theorem decodeL_width4 (l : List UInt8) : (decodeL l).2 ≤ 4 := by
  rw [decodeL_N]
  unfold decodeN
  repeat' split
  all_goals simp
theorem letters_size : ∀ (n : Nat) (l : List UInt8), l.length ≤ n → ∀ c, letters l = some c → l.length ≤ 4 * c
  | 0, l, h, c, _ => by omega
  | n + 1, l, h, c, hc => by
    by_cases hl : l = []
    · subst hl; simp
    · have h0 : 0 < l.length := List.length_pos_iff.2 hl
      have hw := decodeL_width l
      have hw4 := decodeL_width4 l
      rw [letters_step l hl] at hc
      split at hc
      · cases hr : letters (l.drop (decodeL l).2) with
        | none => rw [hr] at hc; cases hc
        | some d =>
          rw [hr] at hc
          simp at hc
          have := letters_size n _ (by rw [List.length_drop]; omega) d hr
          rw [List.length_drop] at this
          omega
      · cases hc
theorem nameR_size {s : ByteArray} (h : nameR s = true) : s.size ≤ 128 := by
  unfold nameR at h
  cases hl : letters s.data.toList with
  | none => rw [hl] at h; cases h
  | some n =>
    rw [hl] at h
    simp at h
    have := letters_size _ _ (Nat.le_refl _) n hl
    have h2 := list_size s
    omega
theorem nameR_pos {s : ByteArray} (h : nameR s = true) : s ≠ ⟨#[]⟩ := by
  rintro rfl
  have : nameR ⟨#[]⟩ = false := by decide +kernel
  rw [this] at h; cases h

/-! ### rows of texts have one form -/
theorem wtext_len_le {t : List UInt8} (h : t.length < 18446744073709551616) : (wtext t).length ≤ 9 + t.length := by
  unfold wtext; rw [List.length_append]; have := wput_len_le h; omega
theorem flat_len_le (l : List (List UInt8)) (B : Nat) (hB : B < 1000000000000) (h : ∀ t ∈ l, t.length ≤ B) : (l.flatMap wtext).length ≤ l.length * (9 + B) := by
  induction l with
  | nil => simp
  | cons t l ih =>
    rw [List.flatMap_cons, List.length_append, List.length_cons, Nat.succ_mul]
    have h1 := wtext_len_le (t := t) (by have := h t List.mem_cons_self; omega)
    have h2 := h t List.mem_cons_self
    have := ih fun u hu => h u (List.mem_cons_of_mem _ hu)
    omega
theorem wall_len_le (l : List (List UInt8)) (B : Nat) (hB : B < 1000000000000) (hl : l.length < 1000000000000) (h : ∀ t ∈ l, t.length ≤ B) : (wall l).length ≤ 9 + l.length * (9 + B) := by
  unfold wall; rw [List.length_append]
  have := wput_len_le (n := l.length) (by omega)
  have := flat_len_le l B hB h
  omega
theorem wall_item_le {l : List (List UInt8)} {t : List UInt8} (h : t ∈ l) : t.length ≤ (wall l).length := by
  unfold wall
  rw [List.length_append]
  have : (wtext t).length ≤ (l.flatMap wtext).length := by
    obtain ⟨a, b, rfl⟩ := List.append_of_mem h
    simp
    omega
  have h2 : t.length ≤ (wtext t).length := by unfold wtext; rw [List.length_append]; omega
  omega
theorem wall_inj {l m : List (List UInt8)} (h : wall l = wall m) (hl : (wall l).length < 1000000000000) : l = m := by
  have h1 : ∀ t ∈ l, t.length < 1000000000000 := fun t ht => Nat.lt_of_le_of_lt (wall_item_le ht) hl
  have h2 : ∀ t ∈ m, t.length < 1000000000000 := fun t ht => Nat.lt_of_le_of_lt (wall_item_le ht) (by rw [← h]; exact hl)
  have g : ∀ k : List (List UInt8), k.length ≤ (wall k).length := fun k => by
    unfold wall; rw [List.length_append]; have := flat_wtext_len k; omega
  have g1 := g l
  have g2 := g m
  rw [← h] at g2
  have e1 := wtakeAll_put (l := l) (many := 1000000000000) (most := 1000000000000) (by omega) (by omega) (fun t ht => by have := h1 t ht; omega)
  have e2 := wtakeAll_put (l := m) (many := 1000000000000) (most := 1000000000000) (by omega) (by omega) (fun t ht => by have := h2 t ht; omega)
  rw [h, e2] at e1
  cases e1; rfl
theorem toL_inj {a b : ByteArray} (h : toL a = toL b) : a = b := by rw [← list_mkB a, ← list_mkB b]; exact congrArg mkB h
theorem map_toL_inj {l m : List ByteArray} (h : l.map toL = m.map toL) : l = m := by
  have : (l.map toL).map mkB = (m.map toL).map mkB := by rw [h]
  simpa [Function.comp_def, list_mkB] using this
theorem wput_inj {a b : Nat} (h : wput a = wput b) (ha : a < 18446744073709551616) (hb : b < 18446744073709551616) : a = b := by
  have h1 := wtake_put ha []
  have h2 := wtake_put hb []
  rw [h] at h1
  rw [h1] at h2
  cases h2; rfl

/-! ### rights as bytes -/
def putR (r : Rt) : List UInt8 := wall [toL r.owner, toL r.file, wput r.epoch.toNat, wall (r.rd.map toL), wall (r.wr.map toL)]
structure Rt.good (r : Rt) : Prop where
  owner : r.owner.size ≤ 128
  file : r.file.size ≤ 128
  lo : 0 ≤ r.epoch
  hi : r.epoch ≤ 7
  rd : ∀ s ∈ r.rd, s.size ≤ 128
  wr : ∀ s ∈ r.wr, s.size ≤ 128
  len : r.rd.length + r.wr.length ≤ 5
theorem Rt.right_good {r : Rt} (h : r.right = true) : r.good := by
  obtain ⟨_, _, h3, h4, h5, h6, h7⟩ := Rt.right_head h
  unfold Rt.right at h
  rw [Bool.and_eq_true] at h
  have hall := List.all_eq_true.1 h.2
  have hn : ∀ s ∈ r.rd ++ r.wr, s.size ≤ 128 := fun s hs => by
    have := hall s hs
    unfold Rt.fits at this
    rw [Bool.and_eq_true, Bool.and_eq_true] at this
    exact nameR_size this.1.1
  exact ⟨nameR_size h6, nameR_size h7, h4, by omega, fun s hs => hn s (List.mem_append_left _ hs), fun s hs => hn s (List.mem_append_right _ hs), h3⟩
theorem Rt.good.wf {r : Rt} (h : r.good) : r.wf := by
  refine ⟨by have := h.owner; omega, by have := h.file; omega, by have := h.lo; omega, by have := h.hi; omega, fun s hs => ?_, by have := h.len; omega⟩
  rcases List.mem_append.1 hs with hs | hs
  · have := h.rd s hs; omega
  · have := h.wr s hs; omega
theorem names_wall {l : List ByteArray} (h : ∀ s ∈ l, s.size ≤ 128) (hl : l.length ≤ 5) : (wall (l.map toL)).length ≤ 694 := by
  have := wall_len_le (l.map toL) 128 (by omega) (by rw [List.length_map]; omega) (fun t ht => by
    obtain ⟨s, hs, rfl⟩ := List.mem_map.1 ht
    have := h s hs
    have h2 : (toL s).length = s.size := list_size s
    omega)
  rw [List.length_map] at this
  have h3 : l.length * (9 + 128) ≤ 5 * (9 + 128) := Nat.mul_le_mul_right _ hl
  omega
theorem Rt.good.parts {r : Rt} (h : r.good) : ∀ t ∈ [toL r.owner, toL r.file, wput r.epoch.toNat, wall (r.rd.map toL), wall (r.wr.map toL)], t.length ≤ 694 := by
  intro t ht
  simp only [List.mem_cons, List.not_mem_nil, or_false] at ht
  have h1 : (toL r.owner).length = r.owner.size := list_size _
  have h2 : (toL r.file).length = r.file.size := list_size _
  have h3 := wput_len_le (n := r.epoch.toNat) (by have := h.hi; omega)
  have h4 := names_wall h.rd (by have := h.len; omega)
  have h5 := names_wall h.wr (by have := h.len; omega)
  have := h.owner
  have := h.file
  rcases ht with rfl | rfl | rfl | rfl | rfl <;> omega
theorem Rt.good.size {r : Rt} (h : r.good) : (putR r).length ≤ 3524 := by
  have := wall_len_le _ 694 (by omega) (by simp) h.parts
  unfold putR
  simpa using this
theorem putR_inj {r q : Rt} (h : putR r = putR q) (hr : r.good) (hq : q.good) : r = q := by
  have h1 := wall_inj h (by have := hr.size; unfold putR at this; omega)
  simp only [List.cons.injEq, and_true] at h1
  obtain ⟨e1, e2, e3, e4, e5⟩ := h1
  have e3' := wput_inj e3 (by have := hr.hi; omega) (by have := hq.hi; omega)
  have e4' := wall_inj e4 (by have := names_wall hr.rd (by have := hr.len; omega); omega)
  have e5' := wall_inj e5 (by have := names_wall hr.wr (by have := hr.len; omega); omega)
  cases r; cases q
  have := hr.lo
  have := hq.lo
  simp only [Rt.mk.injEq]
  dsimp only at *
  exact ⟨toL_inj e1, toL_inj e2, by omega, map_toL_inj e4', map_toL_inj e5'⟩
end Go.Proofs.YtckblcfkajpofaaGreatDoor
namespace Go.Proofs.YtckblcfkajpofaaGreatDoor
open Go.RowKit
set_option linter.unusedVariables false
set_option linter.unusedSimpArgs false

abbrev agR (r : Rt) (vr vw : Value) : Value := .agg #[.string r.owner, .string r.file, .int .i64 r.epoch, vr, vw]
theorem RtAt.cells5 {w w' : World} {b : Nat} {r : Rt} {vr vw : Value} (h : RtAt w w' b r vr vw) :
    w'.cell? ⟨b, 0, none⟩ = some (.string r.owner) ∧ w'.cell? ⟨b, 1, none⟩ = some (.string r.file) ∧ w'.cell? ⟨b, 2, none⟩ = some (.int .i64 r.epoch) ∧ w'.cell? ⟨b, 3, none⟩ = some vr ∧ w'.cell? ⟨b, 4, none⟩ = some vw := by
  refine ⟨?_, ?_, ?_, ?_, ?_⟩ <;> (rw [cell_of_row _ _ _ _ _ _ h.row]; rfl)
theorem RtAt.drew {w w' : World} {b : Nat} {r : Rt} {vr vw : Value} (h : RtAt w w' b r vr vw) : RtAt w w'.drew b r vr vw := h.next (Below.refl _ _).drew
theorem RtAt.alloc {w w' : World} {b : Nat} {r : Rt} {vr vw : Value} (h : RtAt w w' b r vr vw) (o : Obj) : RtAt w (w'.alloc o) b r vr vw := h.next ((Below.refl _ _).alloc (Nat.le_refl _) o)
def putRV (r : Rt) : Value := if r.right then .tuple #[.string (mkB (putR r)), .int .i64 0] else .tuple #[.string ⟨#[]⟩, .int .i64 1]
theorem putR_list (r : Rt) : wall ([r.owner, r.file, mkB (wput r.epoch.toNat), mkB (wall (r.rd.map toL)), mkB (wall (r.wr.map toL))].map toL) = putR r := by
  unfold putR; simp [mkB_list]
set_option maxRecDepth 100000 in
set_option maxHeartbeats 4000000 in
theorem rput_calls (w : World) (r : Rt) (vr vw : Value) (hl : Lists w r vr vw) (hT : Tabs w) (hw : r.wf) :
    Calls Tryz.prog 249 #[agR r vr vw] w fun e w' => e = .returned (putRV r) ∧ Below w.heap.size w w' := by
  have HX := Lib.hid (rt_box hl hT)
  obtain ⟨A, ca, rfl, a1, a2, _⟩ := hl.rd
  obtain ⟨C, cb, rfl, b1, b2, _⟩ := hl.wr
  have hc5 := HX.out.cells5
  obtain ⟨c0, c1, c2, c3, c4⟩ := hc5
  have hR := fun w' (h : RtAt w w' w.heap.size r (.slice A r.rd.length ca) (.slice C r.wr.length cb)) => rright_calls w' r _ _ h.lists h.tabs hw
  have HR := Lib.hid hR
  obtain ⟨ow, fi, ep, rd, wr'⟩ := r
  dsimp only [rtCells, agR] at c0 c1 c2 c3 c4 HX HR ⊢
  clear hl hT hR
  cases hr : Rt.right ⟨ow, fi, ep, rd, wr'⟩ with
  | false =>
    have HV : Hid (putRV ⟨ow, fi, ep, rd, wr'⟩ = .tuple #[.string ⟨#[]⟩, .int .i64 1]) := Lib.hid (by unfold putRV; rw [hr]; rfl)
    rw [hr] at HR
    clear hr
    go_enter Tryz.func249, Tryz.ntmps249
    go_wp2_with fail
    refine (HR.out _ HX.out).mono ?_
    rintro e w1 ⟨rfl, hb⟩
    have X1 := Lib.hid (HX.out.next hb)
    clear hb
    go_wp2_with fail
    go_ret2
    exact ⟨by rw [HV.out]; rfl, X1.out.below⟩
  | true =>
    have HV : Hid (putRV ⟨ow, fi, ep, rd, wr'⟩ = .tuple #[.string (mkB (putR ⟨ow, fi, ep, rd, wr'⟩)), .int .i64 0]) := Lib.hid (by unfold putRV; rw [hr]; rfl)
    have hg := Rt.right_good hr
    have hep0 : 0 ≤ ep := hg.lo
    have hep7 : ep ≤ 7 := hg.hi
    obtain ⟨m, rfl⟩ : ∃ m : Nat, ep = m := ⟨ep.toNat, by omega⟩
    have HG := Lib.hid hg
    have H1 := Lib.hid (fun w => wput_calls m w (by omega))
    have hlen1 := names_wall hg.rd (by have := hg.len; dsimp only at this ⊢; omega)
    have hlen2 := names_wall hg.wr (by have := hg.len; dsimp only at this ⊢; omega)
    dsimp only at hlen1 hlen2
    have hn1 : rd.length ≤ 5 := by have := hg.len; dsimp only at this; omega
    have hn2 : wr'.length ≤ 5 := by have := hg.len; dsimp only at this; omega
    have H2 := Lib.hid (fun w' (h : RtAt w w' w.heap.size ⟨ow, fi, (m : Int), rd, wr'⟩ (.slice A rd.length ca) (.slice C wr'.length cb)) => putall_calls w' _ rd h.lists.rd (by omega) (by omega))
    have H3 := Lib.hid (fun w' (h : RtAt w w' w.heap.size ⟨ow, fi, (m : Int), rd, wr'⟩ (.slice A rd.length ca) (.slice C wr'.length cb)) => putall_calls w' _ wr' h.lists.wr (by omega) (by omega))
    have hPL := putR_list ⟨ow, fi, (m : Int), rd, wr'⟩
    have hPS := hg.size
    simp only [Int.toNat_natCast] at hPL
    have H4 := Lib.hid (fun w' => putall_calls _ _ _ (strs_lit w' 9 [ow, fi, mkB (wput m), mkB (wall (rd.map toL)), mkB (wall (wr'.map toL))] (by simp)) (by simp) (by rw [hPL]; omega))
    simp only [hPL] at H4
    rw [hr] at HR
    obtain ⟨E, hE⟩ : ∃ E, mkB (wput m) = E := ⟨_, rfl⟩
    obtain ⟨F, hF⟩ : ∃ F, mkB (wall (rd.map toL)) = F := ⟨_, rfl⟩
    obtain ⟨L, hL⟩ : ∃ L, mkB (wall (wr'.map toL)) = L := ⟨_, rfl⟩
    simp only [hE] at H1 H4
    simp only [hF] at H2 H4
    simp only [hL] at H3 H4
    clear hr hg hlen1 hlen2 hPL hPS hE hF hL
    go_enter Tryz.func249, Tryz.ntmps249
    go_wp2_with fail
    refine (HR.out _ HX.out).mono ?_
    rintro e w1 ⟨rfl, hb⟩
    have X1 := Lib.hid (HX.out.next hb)
    clear hb c0 c1 c2 c3 c4
    go_wp2_with fail
    refine wp_region_G (fun w' => w'.cell? ⟨w.heap.size, 0, none⟩ = some (.string ow) ∧ w'.cell? ⟨w.heap.size, 1, none⟩ = some (.string fi) ∧ w'.cell? ⟨w.heap.size, 2, none⟩ = some (.int .i64 m) ∧ w'.cell? ⟨w.heap.size, 3, none⟩ = some (.slice A rd.length ca) ∧ w'.cell? ⟨w.heap.size, 4, none⟩ = some (.slice C wr'.length cb)) [17] (by kernel_rfl) ?_
    have hS := X1.out.drew.cells5
    have hwm : IntKind.u64.wrap (m : Int) = (m : Int) := by rw [IntKind.wrap_u64]; omega
    refine wpAnyG_pure (i := 0) (v := ?va0) at0 (by kernel_rfl) (fun _ _ _ h => h) (Or.inl ⟨by rfl, ?ha0⟩) (Or.inr (by assumption)) ?ra0
    case ha0 => (intro w hSw; (try dsimp only at hSw); go_simp; try with_reducible rfl)
    case' ra0 => skip
    try simp only [Act.put, List.setIfInBounds_toArray, List.set_cons_zero, List.set_cons_succ]
    refine wpAnyG_take (ws := [0,1,2,3,4,5,6,7,8,9,10,11,12,13,14,15,16]) (i := 1) (v := ?va1) at1 (by kernel_rfl) (fun _ _ _ h => h) (Or.inl ⟨by rfl, ?ha1⟩) (by assumption) ?ra1
    case ha1 => (intro w hSw; (try dsimp only at hSw); go_simp; try with_reducible rfl)
    case' ra1 => skip
    try simp only [Act.put, List.setIfInBounds_toArray, List.set_cons_zero, List.set_cons_succ]
    refine wpAnyG_pure (i := 2) (v := ?va2) at2 (by kernel_rfl) (fun _ _ _ h => h) (Or.inl ⟨by rfl, ?ha2⟩) (Or.inr (by assumption)) ?ra2
    case ha2 => (intro w hSw; (try dsimp only at hSw); go_simp; try with_reducible rfl)
    case' ra2 => skip
    try simp only [Act.put, List.setIfInBounds_toArray, List.set_cons_zero, List.set_cons_succ]
    refine wpAnyG_take (ws := [0,1,2,3,4,5,6,7,8,9,10,11,12,13,14,15,16]) (i := 3) (v := ?va3) at3 (by kernel_rfl) (fun _ _ _ h => h) (Or.inl ⟨by rfl, ?ha3⟩) (by assumption) ?ra3
    case ha3 => (intro w hSw; (try dsimp only at hSw); go_simp; try with_reducible rfl)
    case' ra3 => skip
    try simp only [Act.put, List.setIfInBounds_toArray, List.set_cons_zero, List.set_cons_succ]
    refine wpAnyG_pure (i := 4) (v := ?va4) at4 (by kernel_rfl) (fun _ _ _ h => h) (Or.inl ⟨by rfl, ?ha4⟩) (Or.inr (by assumption)) ?ra4
    case ha4 => (intro w hSw; (try dsimp only at hSw); go_simp; try with_reducible rfl)
    case' ra4 => skip
    try simp only [Act.put, List.setIfInBounds_toArray, List.set_cons_zero, List.set_cons_succ]
    refine wpAnyG_take (ws := [0,1,2,3,4,5,6,7,8,9,10,11,12,13,14,15,16]) (i := 5) (v := ?va5) at5 (by kernel_rfl) (fun _ _ _ h => h) (Or.inl ⟨by rfl, ?ha5⟩) (by assumption) ?ra5
    case ha5 => (intro w hSw; (try dsimp only at hSw); go_simp; try with_reducible rfl)
    case' ra5 => skip
    try simp only [Act.put, List.setIfInBounds_toArray, List.set_cons_zero, List.set_cons_succ]
    refine wpAnyG_pure (i := 6) (v := ?va6) at6 (by kernel_rfl) (fun _ _ _ h => h) (Or.inl ⟨by rfl, ?ha6⟩) (Or.inr (by assumption)) ?ra6
    case ha6 => (intro w hSw; (try dsimp only at hSw); go_simp; try with_reducible rfl)
    case' ra6 => skip
    try simp only [Act.put, List.setIfInBounds_toArray, List.set_cons_zero, List.set_cons_succ]
    refine wpAnyG_pure (i := 8) (v := ?va8) at8 (by kernel_rfl) (fun _ _ _ h => h) (Or.inl ⟨by rfl, ?ha8⟩) (Or.inr (by assumption)) ?ra8
    case ha8 => (intro w hSw; (try dsimp only at hSw); go_simp; try with_reducible rfl)
    case' ra8 => skip
    try simp only [Act.put, List.setIfInBounds_toArray, List.set_cons_zero, List.set_cons_succ]
    refine wpAnyG_take (ws := [0,1,2,3,4,5,6,7,8,9,10,11,12,13,14,15,16]) (i := 9) (v := ?va9) at9 (by kernel_rfl) (fun _ _ _ h => h) (Or.inl ⟨by rfl, ?ha9⟩) (by assumption) ?ra9
    case ha9 => (intro w hSw; (try dsimp only at hSw); go_simp; try with_reducible rfl)
    case' ra9 => skip
    try simp only [Act.put, List.setIfInBounds_toArray, List.set_cons_zero, List.set_cons_succ]
    refine wpAnyG_pure (i := 11) (v := ?va11) at11 (by kernel_rfl) (fun _ _ _ h => h) (Or.inl ⟨by rfl, ?ha11⟩) (Or.inr (by assumption)) ?ra11
    case ha11 => (intro w hSw; (try dsimp only at hSw); go_simp; try with_reducible rfl)
    case' ra11 => skip
    try simp only [Act.put, List.setIfInBounds_toArray, List.set_cons_zero, List.set_cons_succ]
    refine wpAnyG_take (ws := [0,1,2,3,4,5,6,7,8,9,10,11,12,13,14,15,16]) (i := 12) (v := ?va12) at12 (by kernel_rfl) (fun _ _ _ h => h) (Or.inl ⟨by rfl, ?ha12⟩) (by assumption) ?ra12
    case ha12 => (intro w hSw; (try dsimp only at hSw); go_simp; try with_reducible rfl)
    case' ra12 => skip
    try simp only [Act.put, List.setIfInBounds_toArray, List.set_cons_zero, List.set_cons_succ]
    refine wpAnyG_one 7 at7 (by kernel_rfl) (fun Kn hK => ?_)
    go_simp
    refine (H1.out _).mono ?_
    rintro e w2 ⟨rfl, hb⟩
    have X2 := Lib.hid (X1.out.drew.next hb)
    have hS2 := X2.out.cells5
    refine hK.out _ _ (Or.inr hS2) ?_
    clear hb hS hS2 hK Kn
    try simp only [Act.put, List.setIfInBounds_toArray, List.set_cons_zero, List.set_cons_succ]
    refine wpAnyG_one 10 at10 (by kernel_rfl) (fun Kn hK => ?_)
    go_simp
    refine (H2.out _ X2.out).mono ?_
    rintro e w3 ⟨rfl, hb⟩
    have X3 := Lib.hid (X2.out.next hb)
    have hS3 := X3.out.cells5
    refine hK.out _ _ (Or.inr hS3) ?_
    clear hb hS3 hK Kn
    try simp only [Act.put, List.setIfInBounds_toArray, List.set_cons_zero, List.set_cons_succ]
    refine wpAnyG_one 13 at13 (by kernel_rfl) (fun Kn hK => ?_)
    go_simp
    refine (H3.out _ X3.out).mono ?_
    rintro e w4 ⟨rfl, hb⟩
    have X4 := Lib.hid (X3.out.next hb)
    have hS4 := X4.out.cells5
    refine hK.out _ _ (Or.inr hS4) ?_
    clear hb hS4 hK Kn
    try simp only [Act.put, List.setIfInBounds_toArray, List.set_cons_zero, List.set_cons_succ]
    refine wpAnyG_one 14 at14 (by kernel_rfl) (fun Kn hK => ?_)
    go_simp
    have hS5 := (X4.out.alloc (.cells #[.string ow, .string fi, .string E, .string F, .string L] 9)).cells5
    refine hK.out _ _ (Or.inr hS5) ?_
    clear hS5 hK Kn
    try simp only [Act.put, List.setIfInBounds_toArray, List.set_cons_zero, List.set_cons_succ]
    refine wpAnyG_one 15 at15 (by kernel_rfl) (fun Kn hK => ?_)
    go_simp
    refine (H4.out _).mono ?_
    rintro e w5 ⟨rfl, hb⟩
    have X5 := Lib.hid ((X4.out.alloc _).next hb)
    have hS5 := X5.out.cells5
    refine hK.out _ _ (Or.inr hS5) ?_
    clear hb hK Kn
    try simp only [Act.put, List.setIfInBounds_toArray, List.set_cons_zero, List.set_cons_succ]
    have hS := hS5
    clear hS5
    refine wpAnyG_pure (i := 16) (v := ?vb16) at16 (by kernel_rfl) (fun _ _ _ h => h) (Or.inl ⟨by rfl, ?hb16⟩) (Or.inr (by assumption)) ?rb16
    case hb16 => (intro w hSw; (try dsimp only at hSw); go_simp; try with_reducible rfl)
    case' rb16 => skip
    try simp only [Act.put, List.setIfInBounds_toArray, List.set_cons_zero, List.set_cons_succ]
    refine wpAnyG_one 17 at17 (by kernel_rfl) (fun Kn hK => ?_)
    go_simp
    refine hK.out _ _ (Or.inl (by kernel_rfl)) ?_
    clear hK Kn hS
    refine wpAnyG_done (by kernel_rfl) ?_
    go_wp2_with fail
    go_ret2
    exact ⟨by rw [HV.out]; rfl, X5.out.below⟩
end Go.Proofs.YtckblcfkajpofaaGreatDoor
namespace Go.Proofs.YtckblcfkajpofaaGreatDoor
open Go.RowKit
set_option linter.unusedVariables false
set_option linter.unusedSimpArgs false

def numOf (s : List UInt8) : Nat := match wtake s with
  | some (n, _) => n
  | none => 0
def cand (a b c d e : List UInt8) : Rt := ⟨mkB a, mkB b, min (numOf c : Int) 8, exL (wtakeAll d 5 4000), exL (wtakeAll e 5 4000)⟩
def takeR (s : List UInt8) : Option Rt := match wtakeAll s 5 4000 with
  | .ok [a, b, c, d, e] => if (cand a b c d e).right = true ∧ putR (cand a b c d e) = s then some (cand a b c d e) else none
  | _ => none
theorem exL_ok {r : Except Int (List (List UInt8))} {l : List (List UInt8)} (h : r = .ok l) : exL r = l.map mkB := by rw [h]; rfl
theorem map_mkB_toL (l : List ByteArray) : (l.map toL).map mkB = l := by simp [Function.comp_def, list_mkB]
theorem takeR_put {r : Rt} (h : r.right = true) : takeR (putR r) = some r := by
  have hg := Rt.right_good h
  have hp := hg.parts
  have h1 : wtakeAll (putR r) 5 4000 = .ok [toL r.owner, toL r.file, wput r.epoch.toNat, wall (r.rd.map toL), wall (r.wr.map toL)] :=
    wtakeAll_put (by show (5 : Int) ≤ max 5 0; omega) (by simp) (fun t ht => by have := hp t ht; omega)
  have hn : numOf (wput r.epoch.toNat) = r.epoch.toNat := by
    have := wtake_put (n := r.epoch.toNat) (by have := hg.hi; omega) []
    rw [List.append_nil] at this
    unfold numOf; rw [this]
  have names : ∀ l : List ByteArray, (∀ s ∈ l, s.size ≤ 128) → l.length ≤ 5 → wtakeAll (wall (l.map toL)) 5 4000 = .ok (l.map toL) := fun l hl hlen =>
    wtakeAll_put (by rw [List.length_map]; omega) (by rw [List.length_map]; omega) (fun t ht => by
      obtain ⟨s, hs, rfl⟩ := List.mem_map.1 ht
      have := hl s hs
      have h2 : (toL s).length = s.size := list_size s
      omega)
  have hc : cand (toL r.owner) (toL r.file) (wput r.epoch.toNat) (wall (r.rd.map toL)) (wall (r.wr.map toL)) = r := by
    unfold cand
    rw [hn, exL_ok (names r.rd hg.rd (by have := hg.len; omega)), exL_ok (names r.wr hg.wr (by have := hg.len; omega)), map_mkB_toL, map_mkB_toL, list_mkB, list_mkB]
    have := hg.lo
    have := hg.hi
    cases r
    simp only [Rt.mk.injEq, and_true, true_and]
    dsimp only at *
    omega
  unfold takeR
  rw [h1]
  simp only
  rw [hc, if_pos ⟨h, rfl⟩]
theorem takeR_some {s : List UInt8} {r : Rt} (h : takeR s = some r) : r.right = true ∧ putR r = s := by
  unfold takeR at h
  split at h
  · split at h
    · rename_i hh; cases h; exact hh
    · cases h
  · cases h
theorem takeR_none {s : List UInt8} (h : takeR s = none) {r : Rt} (hr : r.right = true) : putR r ≠ s := by
  rintro rfl; rw [takeR_put hr] at h; cases h
theorem wtakeAll_err {s : List UInt8} {many most e : Int} (h : wtakeAll s many most = .error e) : e = 2 ∨ e = 10 := by
  unfold wtakeAll at h
  cases hs : wtake s with
  | none => rw [hs] at h; cases h; exact .inl rfl
  | some p =>
    obtain ⟨n, r⟩ := p
    rw [hs] at h; simp only at h
    split at h
    · cases h; exact .inr rfl
    · cases hm : wmany most n r with
      | error e' =>
        rw [hm] at h; cases h
        clear hs
        induction n generalizing r with
        | zero => cases hm
        | succ n ih =>
          rw [wmany_succ] at hm
          cases ht : wtakeText r most with
          | error e2 => rw [ht] at hm; cases hm; exact wtakeText_err ht
          | ok p =>
            obtain ⟨t, q⟩ := p
            rw [ht] at hm; simp only at hm
            cases hq : wmany most n q with
            | error e3 => rw [hq] at hm; cases hm; exact ih _ (by omega) hq
            | ok p => rw [hq] at hm; cases hm
      | ok p =>
        obtain ⟨l, q⟩ := p
        rw [hm] at h; simp only at h
        split at h
        · cases h
        · cases h; exact .inl rfl
theorem takeV_form (s : List UInt8) : ∃ r e, takeV s = .tuple #[.int .u64 (numOf s), .string r, .int .i64 e] := by
  unfold takeV numOf
  cases wtake s with
  | none => exact ⟨_, _, rfl⟩
  | some p => exact ⟨_, _, rfl⟩
theorem exL_props (s : List UInt8) : (exL (wtakeAll s 5 4000)).length ≤ 5 ∧ ∀ x ∈ exL (wtakeAll s 5 4000), x.size ≤ 4000 := by
  cases h : wtakeAll s 5 4000 with
  | error e => exact ⟨by simp [exL], fun x hx => by simp [exL] at hx⟩
  | ok l =>
    obtain ⟨_, h2, h3⟩ := wtakeAll_ok h
    refine ⟨by simp only [exL, List.length_map]; omega, fun x hx => ?_⟩
    obtain ⟨t, ht, rfl⟩ := List.mem_map.1 hx
    have := h3 t ht
    rw [mkB_size]; omega
theorem cand_wf {a b c d e : List UInt8} (ha : (mkB a).size ≤ 4000) (hb : (mkB b).size ≤ 4000) : (cand a b c d e).wf := by
  have h1 := exL_props d
  have h2 := exL_props e
  refine ⟨by show (mkB a).size ≤ _; omega, by show (mkB b).size ≤ _; omega, by show _ ≤ min (numOf c : Int) 8; omega, by show min (numOf c : Int) 8 ≤ _; omega, fun s hs => ?_, by show (exL _).length + (exL _).length ≤ _; omega⟩
  rcases List.mem_append.1 hs with hs | hs
  · have := h1.2 s hs; omega
  · have := h2.2 s hs; omega
def TakeROut (w : World) (s : List UInt8) (e : Ending) (w' : World) : Prop :=
  (match takeR s with
    | none => e = .returned (.tuple #[.agg #[.string ⟨#[]⟩, .string ⟨#[]⟩, .int .i64 0, .slice none 0 0, .slice none 0 0], .int .i64 2])
    | some r => ∃ vr vw, e = .returned (.tuple #[agR r vr vw, .int .i64 0]) ∧ Lists w' r vr vw ∧ ∀ g, (vr.ownBlock = some g ∨ vw.ownBlock = some g) → w.heap.size ≤ g) ∧ Below w.heap.size w w'
theorem TakeROut.bad {w w' : World} {s : List UInt8} (h : takeR s = none) (hb : Below w.heap.size w w') : TakeROut w s (.returned (.tuple #[.agg #[.string ⟨#[]⟩, .string ⟨#[]⟩, .int .i64 0, .slice none 0 0, .slice none 0 0], .int .i64 2])) w' := by
  unfold TakeROut; rw [h]; exact ⟨rfl, hb⟩
set_option maxRecDepth 100000 in
set_option maxHeartbeats 4000000 in
theorem rtake_calls (s : ByteArray) (w : World) (hs : s.size ≤ 1000000000) (hT : Tabs w) :
    Calls Tryz.prog 165 #[.string s] w (TakeROut w (toL s)) := by
  have h1 := takeall_calls s 5 4000 (w.alloc (.cells #[.string ⟨#[]⟩, .string ⟨#[]⟩, .int .i64 0, .slice none 0 0, .slice none 0 0] 39)) hs (by omega) (by omega)
  have HC := Lib.hid h1
  have HT := Lib.hid hT
  clear h1 hT
  have bel0 : Below w.heap.size w (w.alloc (.cells #[.string ⟨#[]⟩, .string ⟨#[]⟩, .int .i64 0, .slice none 0 0, .slice none 0 0] 39)) := (Below.refl _ w).alloc (Nat.le_refl _) _
  have BEL := Lib.hid bel0
  have hblk : (w.alloc (.cells #[.string ⟨#[]⟩, .string ⟨#[]⟩, .int .i64 0, .slice none 0 0, .slice none 0 0] 39)).heap[w.heap.size]? = some (.cells #[.string ⟨#[]⟩, .string ⟨#[]⟩, .int .i64 0, .slice none 0 0, .slice none 0 0] 39 (0, 0)) := by rw [get_alloc]; simp
  have HBK := Lib.hid hblk
  clear bel0 hblk
  go_enter Tryz.func165, Tryz.ntmps165
  go_wp2_with fail
  refine HC.out.mono ?_
  rintro e w1 ⟨v, rfl, hown, hb⟩
  have hb0 : Below w.heap.size w w1 := BEL.out.trans (hb.mono BEL.out.size)
  have HB := Lib.hid hb0
  have HK1 := Lib.hid ((Keep.of_below hb : Keep (fun _ => False) _ w1).at HBK.out fun e => e)
  have HO := Lib.hid hown
  obtain ⟨A, c, rfl, _, _⟩ := own_slice hown
  obtain ⟨G, hG⟩ : ∃ G, wtakeAll (toL s) 5 4000 = G := ⟨_, rfl⟩
  rw [hG] at HO ⊢
  clear hb hb0 hown
  cases G with
  | error er =>
    have NB : takeR (toL s) = none := by unfold takeR; rw [hG]
    have f2 : (er != 0) = true := by rcases wtakeAll_err hG with rfl | rfl <;> rfl
    simp only [exErr]
    clear hG
    go_wp2_with (with_reducible refine wp_stop_store _ _ _ rfl ?_)
    unfold Stop
    refine wp_store_all rfl _ _ _ rfl rfl rfl _ _ HK1.out info_rt rfl (by simp [Value.oneCell']) ?_
    intro w3 h3 k3 s3
    have HN := Lib.hid (TakeROut.bad (w := w) (w' := w3) (s := toL s) NB (below_keep HB.out k3))
    have h4 := row5 h3
    clear h3 k3 s3
    obtain ⟨c0, c1, c2, c3, c4⟩ := h4
    go_wp2_with fail
    refine bodyPost_ret (v := .tuple #[.agg #[.string ⟨#[]⟩, .string ⟨#[]⟩, .int .i64 0, .slice none 0 0, .slice none 0 0], .int .i64 2]) (by simp [results, Tryz.results165, go_sem, c0, c1, c2, c3, c4]) rfl HN.out
  | ok l =>
    have hln : (exL (.ok l : Except Int (List (List UInt8)))).length = l.length := List.length_map ..
    have hl5 : (l.length : Int) ≤ 5 := by have := (wtakeAll_ok hG).2.1; omega
    simp only [exErr, hln]
    clear hln
    by_cases h5 : l.length = 5
    · obtain ⟨a, b, c5, d, e5, rfl⟩ : ∃ a b c d e, l = [a, b, c, d, e] := by
        match l, h5 with
        | [a, b, c, d, e], _ => exact ⟨a, b, c, d, e, rfl⟩
      have hmem := (wtakeAll_ok hG).2.2
      have hz : ∀ t ∈ [a, b, c5, d, e5], (mkB t).size ≤ 4000 := fun t ht => by have := hmem t ht; rw [mkB_size]; omega
      have za := hz a (by simp)
      have zb := hz b (by simp)
      have zc := hz c5 (by simp)
      have zd := hz d (by simp)
      have ze := hz e5 (by simp)
      have hst := strs_own HO.out
      obtain ⟨g, off, cc, hv, _, _, l0⟩ := hst.cell (i := 0) (x := mkB a) rfl
      cases hv
      obtain ⟨_, _, _, hv1, _, _, l1⟩ := hst.cell (i := 1) (x := mkB b) rfl
      cases hv1
      have HST := Lib.hid hst
      have hgl : g < w1.heap.size := World.block_lt_of_cell? w1 _ l0
      rw [Nat.add_zero] at l0
      have hlen5 : (exL (.ok [a, b, c5, d, e5])).length = 5 := rfl
      have CW : Hid ((cand a b c5 d e5).wf) := Lib.hid (cand_wf za zb)
      have CN : Hid (takeR (toL s) = if (cand a b c5 d e5).right = true ∧ putR (cand a b c5 d e5) = toL s then some (cand a b c5 d e5) else none) := Lib.hid (by unfold takeR; rw [hG])
      have HC3 := Lib.hid (fun W => wtake_calls (mkB c5) W (by omega))
      have HC4 := Lib.hid (fun W => takeall_calls (mkB d) 5 4000 W (by omega) (by omega) (by omega))
      have HC5 := Lib.hid (fun W => takeall_calls (mkB e5) 5 4000 W (by omega) (by omega) (by omega))
      clear hG hmem hz hst h5 hl5
      go_wp2_with fail
      refine wp_region_G (fun w' => w'.cell? ⟨g, off, none⟩ = some (.string (mkB a)) ∧ w'.cell? ⟨g, off + 1, none⟩ = some (.string (mkB b))) [8] (by kernel_rfl) ?_
      have hS : w1.drew.cell? ⟨g, off, none⟩ = some (.string (mkB a)) ∧ w1.drew.cell? ⟨g, off + 1, none⟩ = some (.string (mkB b)) := ⟨l0, l1⟩
      refine wpAnyG_pure (i := 0) (v := ?va0) at0 (by kernel_rfl) (fun _ _ _ h => h) (Or.inl ⟨by rfl, ?ha0⟩) (Or.inr (by assumption)) ?ra0
      case ha0 => (intro w hSw; (try dsimp only at hSw); go_simp; try with_reducible rfl)
      case' ra0 => skip
      try simp only [Act.put, List.setIfInBounds_toArray, List.set_cons_zero, List.set_cons_succ]
      refine wpAnyG_pure (i := 1) (v := ?va1) at1 (by kernel_rfl) (fun _ _ _ h => h) (Or.inl ⟨by rfl, ?ha1⟩) (Or.inr (by assumption)) ?ra1
      case ha1 => (intro w hSw; (try dsimp only at hSw); go_simp; try with_reducible rfl)
      case' ra1 => skip
      try simp only [Act.put, List.setIfInBounds_toArray, List.set_cons_zero, List.set_cons_succ]
      refine wpAnyG_take (ws := [0,1,2,3,4,5,6]) (i := 2) (v := ?va2) at2 (by kernel_rfl) (fun _ _ _ h => h) (Or.inl ⟨by rfl, ?ha2⟩) (by assumption) ?ra2
      case ha2 => (intro w hSw; (try dsimp only at hSw); go_simp; try with_reducible rfl)
      case' ra2 => skip
      try simp only [Act.put, List.setIfInBounds_toArray, List.set_cons_zero, List.set_cons_succ]
      refine wpAnyG_pure (i := 3) (v := ?va3) at3 (by kernel_rfl) (fun _ _ _ h => h) (Or.inl ⟨by rfl, ?ha3⟩) (Or.inr (by assumption)) ?ra3
      case ha3 => (intro w hSw; (try dsimp only at hSw); go_simp; try with_reducible rfl)
      case' ra3 => skip
      try simp only [Act.put, List.setIfInBounds_toArray, List.set_cons_zero, List.set_cons_succ]
      refine wpAnyG_pure (i := 4) (v := ?va4) at4 (by kernel_rfl) (fun _ _ _ h => h) (Or.inl ⟨by rfl, ?ha4⟩) (Or.inr (by assumption)) ?ra4
      case ha4 => (intro w hSw; (try dsimp only at hSw); go_simp; try with_reducible rfl)
      case' ra4 => skip
      try simp only [Act.put, List.setIfInBounds_toArray, List.set_cons_zero, List.set_cons_succ]
      refine wpAnyG_take (ws := [0,1,2,3,4,5,6]) (i := 5) (v := ?va5) at5 (by kernel_rfl) (fun _ _ _ h => h) (Or.inl ⟨by rfl, ?ha5⟩) (by assumption) ?ra5
      case ha5 => (intro w hSw; (try dsimp only at hSw); go_simp; try with_reducible rfl)
      case' ra5 => skip
      try simp only [Act.put, List.setIfInBounds_toArray, List.set_cons_zero, List.set_cons_succ]
      refine wpAnyG_pure (i := 6) (v := ?va6) at6 (by kernel_rfl) (fun _ _ _ h => h) (Or.inl ⟨by rfl, ?ha6⟩) (Or.inr (by assumption)) ?ra6
      case ha6 => (intro w hSw; (try dsimp only at hSw); go_simp; try with_reducible rfl)
      case' ra6 => skip
      try simp only [Act.put, List.setIfInBounds_toArray, List.set_cons_zero, List.set_cons_succ]
      refine wpAnyG_one 7 at7 (by kernel_rfl) (fun Kn hK => ?_)
      go_simp
      refine hK.out _ _ (Or.inr ⟨(Keep.alloc (fun _ => False) w1.drew _).cell l0 fun e => e, (Keep.alloc (fun _ => False) w1.drew _).cell l1 fun e => e⟩) ?_
      clear hK Kn hS
      try simp only [Act.put, List.setIfInBounds_toArray, List.set_cons_zero, List.set_cons_succ]
      refine wpAnyG_one 8 at8 (by kernel_rfl) (fun Kn hK => ?_)
      go_simp
      refine hK.out _ _ (Or.inl (by kernel_rfl)) ?_
      clear hK Kn
      refine wpAnyG_done (by kernel_rfl) ?_
      obtain ⟨_, _, _, hv2, _, _, l2⟩ := HST.out.cell (i := 2) (x := mkB c5) rfl
      cases hv2
      have hb6 : (w1.alloc (.cells #[.string (mkB a), .string (mkB b), .int .i64 0, .slice none 0 0, .slice none 0 0] 39)).heap[w1.heap.size]? = some (.cells #[.string (mkB a), .string (mkB b), .int .i64 0, .slice none 0 0, .slice none 0 0] 39 (0, 0)) := by rw [get_alloc]; simp
      have HB6 := Lib.hid hb6
      clear hb6
      obtain ⟨rc, ec, htv⟩ := takeV_form c5
      rw [show toL (mkB c5) = c5 from mkB_list c5, htv] at HC3
      obtain ⟨N, hN⟩ : ∃ N, numOf c5 = N := ⟨_, rfl⟩
      rw [hN] at HC3
      have HNN := Lib.hid hN
      clear htv hN
      go_wp2_with fail
      refine (HC3.out _).mono ?_
      rintro e w2 ⟨rfl, hb⟩
      have hb6 := (Keep.of_below hb : Keep (fun _ => False) _ w2).at HB6.out fun e => e
      have c62 : w2.cell? ⟨w1.heap.size, 2, none⟩ = some (.int .i64 0) := by rw [cell_of_row _ _ _ _ _ _ hb6]; rfl
      have f62 := frozen_of_row hb6 2
      have bel2 : Below w1.heap.size w1 w2 := ((Below.refl _ w1).alloc (Nat.le_refl _) _).drew.trans (hb.mono (by show w1.heap.size ≤ (w1.alloc _).heap.size; rw [size_alloc]; omega))
      obtain ⟨W2, hW2⟩ : ∃ W2, w2.setCell ⟨w1.heap.size, 2, none⟩ (.int .i64 (min (N : Int) 8)) = W2 := ⟨_, rfl⟩
      have hblk2 : W2.heap[w1.heap.size]? = some (.cells #[.string (mkB a), .string (mkB b), .int .i64 (min (N : Int) 8), .slice none 0 0, .slice none 0 0] 39 (0, 0)) := by rw [← hW2]; exact set_at hb6 2 _
      have belW2 : Below w1.heap.size w1 W2 := by rw [← hW2]; exact bel2.setCell (Nat.le_refl _) _
      have HB62 := Lib.hid hblk2
      have BW2 := Lib.hid belW2
      obtain ⟨_, _, _, hv3, _, _, l3⟩ := (HST.out.below belW2).cell (i := 3) (x := mkB d) rfl
      cases hv3
      clear hb hb6 bel2 hblk2 belW2 l0 l1 l2
      rw [show toL (mkB d) = d from mkB_list d] at HC4
      rw [show toL (mkB e5) = e5 from mkB_list e5] at HC5
      obtain ⟨D, hD⟩ : ∃ D, exL (wtakeAll d 5 4000) = D := ⟨_, rfl⟩
      obtain ⟨E, hE⟩ : ∃ E, exL (wtakeAll e5 5 4000) = E := ⟨_, rfl⟩
      rw [hD] at HC4
      rw [hE] at HC5
      have HDE := Lib.hid (And.intro hD hE)
      clear hD hE
      go_wp2_with fail
      refine (HC4.out _).mono ?_
      rintro e w3 ⟨v3, rfl, own3, hb⟩
      clear hW2
      obtain ⟨A3, c3, rfl, _, _⟩ := own_slice own3
      have hb6 := (Keep.of_below hb : Keep (fun _ => False) _ w3).at HB62.out fun e => e
      have c63 : w3.cell? ⟨w1.heap.size, 3, none⟩ = some (.slice none 0 0) := by rw [cell_of_row _ _ _ _ _ _ hb6]; rfl
      have f63 := frozen_of_row hb6 3
      have bel3 : Below w1.heap.size w1 w3 := BW2.out.trans (hb.mono BW2.out.size)
      obtain ⟨W3, hW3⟩ : ∃ W3, w3.setCell ⟨w1.heap.size, 3, none⟩ (.slice A3 D.length c3) = W3 := ⟨_, rfl⟩
      have hblk3 : W3.heap[w1.heap.size]? = some (.cells #[.string (mkB a), .string (mkB b), .int .i64 (min (N : Int) 8), .slice A3 D.length c3, .slice none 0 0] 39 (0, 0)) := by rw [← hW3]; exact set_at hb6 3 _
      have belW3 : Below w1.heap.size w1 W3 := by rw [← hW3]; exact bel3.setCell (Nat.le_refl _) _
      have hl6 : w1.heap.size < W2.heap.size := (Array.getElem?_eq_some_iff.1 HB62.out).1
      have st3 : strs W3 (.slice A3 D.length c3) D := by
        rw [← hW3]
        exact strs_own (Keep.own (F := fun i => i = w1.heap.size) (Keep.setCell (fun i => i = w1.heap.size) w3 (p := ⟨w1.heap.size, 3, none⟩) rfl _) own3 fun q e1 e2 => by have := own_new own3 q e1; omega)
      have HB63 := Lib.hid hblk3
      have BW3 := Lib.hid belW3
      have ST3 := Lib.hid st3
      have OW3 := Lib.hid own3
      have KW3 : Hid (Keep (fun i => i = w1.heap.size) w3 W3) := Lib.hid (by rw [← hW3]; exact Keep.setCell (fun i => i = w1.heap.size) w3 (p := ⟨w1.heap.size, 3, none⟩) rfl _)
      have HL6 := Lib.hid hl6
      have hw01 : w.heap.size < w1.heap.size := (Array.getElem?_eq_some_iff.1 HK1.out).1
      have HW01 := Lib.hid hw01
      have NB3 : Hid (∀ b, (Value.slice A3 D.length c3).ownBlock = some b → w.heap.size < b) := Lib.hid (fun b hb => by have := own_new own3 b hb; omega)
      obtain ⟨_, _, _, hv4, _, _, l4⟩ := (HST.out.below belW3).cell (i := 4) (x := mkB e5) rfl
      cases hv4
      clear hb hb6 bel3 hblk3 belW3 st3 own3 l3 c62 f62 hl6 hw01
      go_wp2_with fail
      refine (HC5.out _).mono ?_
      rintro e w4 ⟨v4, rfl, own4, hb⟩
      clear hW3
      obtain ⟨A4, c4, rfl, _, _⟩ := own_slice own4
      have hb6 := (Keep.of_below hb : Keep (fun _ => False) _ w4).at HB63.out fun e => e
      have c64 : w4.cell? ⟨w1.heap.size, 4, none⟩ = some (.slice none 0 0) := by rw [cell_of_row _ _ _ _ _ _ hb6]; rfl
      have f64 := frozen_of_row hb6 4
      have bel4 : Below w1.heap.size w1 w4 := BW3.out.trans (hb.mono BW3.out.size)
      obtain ⟨W4, hW4⟩ : ∃ W4, w4.setCell ⟨w1.heap.size, 4, none⟩ (.slice A4 E.length c4) = W4 := ⟨_, rfl⟩
      have hblk4 : W4.heap[w1.heap.size]? = some (.cells #[.string (mkB a), .string (mkB b), .int .i64 (min (N : Int) 8), .slice A3 D.length c3, .slice A4 E.length c4] 39 (0, 0)) := by rw [← hW4]; exact set_at hb6 4 _
      have belW4 : Below w1.heap.size w1 W4 := by rw [← hW4]; exact bel4.setCell (Nat.le_refl _) _
      have hl6 : w1.heap.size < W3.heap.size := (Array.getElem?_eq_some_iff.1 HB63.out).1
      have st4 : strs W4 (.slice A4 E.length c4) E := by
        rw [← hW4]
        exact strs_own (Keep.own (F := fun i => i = w1.heap.size) (Keep.setCell (fun i => i = w1.heap.size) w4 (p := ⟨w1.heap.size, 4, none⟩) rfl _) own4 fun q e1 e2 => by have := own_new own4 q e1; omega)
      have NB4 : Hid (∀ b, (Value.slice A4 E.length c4).ownBlock = some b → w.heap.size < b) := Lib.hid (fun b hb => by have := own_new own4 b hb; have := HW01.out; have := BW3.out.size; omega)
      have st3 : strs W4 (.slice A3 D.length c3) D := by
        rw [← hW4]
        exact strs_own (Keep.own (F := fun i => i = w1.heap.size) ((KW3.out.same (Keep.of_below hb)).same (Keep.setCell (fun i => i = w1.heap.size) w4 (p := ⟨w1.heap.size, 4, none⟩) rfl _)) OW3.out fun q e1 e2 => by have := own_new OW3.out q e1; have := HL6.out; omega)
      have r5 := row5 hblk4
      obtain ⟨r0, r1, r2, r3, r4⟩ := r5
      have HB64 := Lib.hid hblk4
      have BW4 := Lib.hid belW4
      have hcand : cand a b c5 d e5 = ⟨mkB a, mkB b, min (N : Int) 8, D, E⟩ := by unfold cand; rw [HNN.out, HDE.out.1, HDE.out.2]
      have hTT : Tabs W4 := HT.out.below (HB.out.trans (belW4.mono HB.out.size))
      have hPut := rput_calls W4 (cand a b c5 d e5) (.slice A3 D.length c3) (.slice A4 E.length c4) (by rw [hcand]; exact ⟨st3, st4⟩) hTT CW.out
      rw [hcand] at hPut
      dsimp only [agR] at hPut
      have HP := Lib.hid hPut
      have HL4 : Hid (Lists W4 ⟨mkB a, mkB b, min (N : Int) 8, D, E⟩ (.slice A3 D.length c3) (.slice A4 E.length c4)) := Lib.hid ⟨st3, st4⟩
      have HCD := Lib.hid hcand
      obtain ⟨q, hq⟩ : ∃ q, (⟨mkB a, mkB b, min (N : Int) 8, D, E⟩ : Rt) = q := ⟨_, rfl⟩
      rw [hq] at HP HCD HL4
      have HQ := Lib.hid hq
      have hKB : W4.heap[w.heap.size]? = some (.cells #[.string ⟨#[]⟩, .string ⟨#[]⟩, .int .i64 0, .slice none 0 0, .slice none 0 0] 39 (0, 0)) := (Keep.of_below belW4 : Keep (fun _ => False) w1 W4).at HK1.out fun e => e
      have HKB := Lib.hid hKB
      clear hb hb6 bel4 hblk4 belW4 st4 st3 own4 l4 c63 f63 hl6 hTT hPut hcand hq hKB
      go_wp2_with fail
      refine HP.out.mono ?_
      rintro e w5 ⟨rfl, hb⟩
      clear hW4
      have HK5 := Lib.hid ((Keep.of_below hb : Keep (fun _ => False) W4 w5).at HKB.out fun e => e)
      have hb5 : Below w.heap.size w w5 := HB.out.trans ((BW4.out.trans (hb.mono BW4.out.size)).mono HB.out.size)
      have HB5 := Lib.hid hb5
      have h6k := (Keep.of_below hb : Keep (fun _ => False) W4 w5).at HB64.out fun e => e
      have HL5 : Hid (Lists w5 q (.slice A3 D.length c3) (.slice A4 E.length c4)) := Lib.hid (HL4.out.below hb)
      have H6K := Lib.hid h6k
      have r5 := row5 h6k
      obtain ⟨r0', r1', r2', r3', r4'⟩ := r5
      clear hb hb5 h6k r0 r1 r2 r3 r4 c64 f64
      unfold putRV
      cases hqr : q.right with
      | false =>
        have NB : takeR (toL s) = none := by rw [CN.out, HCD.out, if_neg (fun h => by rw [hqr] at h; cases h.1)]
        clear hqr
        simp only [Bool.false_eq_true, if_false]
        go_wp2_with (with_reducible refine wp_stop_store _ _ _ rfl ?_)
        unfold Stop
        refine wp_store_all rfl _ _ _ rfl rfl rfl _ _ HK5.out info_rt rfl (by simp [Value.oneCell']) ?_
        intro w6 h6 k6 s6
        have HN := Lib.hid (TakeROut.bad (w := w) (w' := w6) (s := toL s) NB (below_keep HB5.out k6))
        have h4 := row5 h6
        clear h6 k6 s6
        obtain ⟨d0, d1, d2, d3, d4⟩ := h4
        go_wp2_with fail
        refine bodyPost_ret (v := .tuple #[.agg #[.string ⟨#[]⟩, .string ⟨#[]⟩, .int .i64 0, .slice none 0 0, .slice none 0 0], .int .i64 2]) (by simp [results, Tryz.results165, go_sem, d0, d1, d2, d3, d4]) rfl HN.out
      | true =>
        simp only [if_true]
        have hsz5 := (Rt.right_good hqr).size
        by_cases hps : putR q = toL s
        · have YS : takeR (toL s) = some q := by rw [CN.out, HCD.out, if_pos ⟨hqr, hps⟩]
          have hse : mkB (putR q) = s := by rw [hps]; exact list_mkB s
          rw [hse]
          have HQE := HQ.out
          clear hqr hps hse hsz5
          go_wp2_with (with_reducible refine wp_stop_store _ _ _ rfl ?_)
          unfold Stop
          refine wp_store_all rfl _ _ _ rfl rfl rfl _ _ HK5.out info_rt rfl (by simp [Value.oneCell']) ?_
          intro w6 h6 k6 s6
          have HF : Hid (TakeROut w (toL s) (.returned (.tuple #[agR q (.slice A3 D.length c3) (.slice A4 E.length c4), .int .i64 0])) w6) := Lib.hid (by
            unfold TakeROut
            rw [YS]
            refine ⟨⟨_, _, rfl, ?_⟩, below_keep HB5.out k6⟩
            have hDE := HL5.out
            have hd : q.rd = D := by rw [← HQ.out]
            have he : q.wr = E := by rw [← HQ.out]
            exact ⟨⟨hDE.rd.keep k6 fun b hb e => by have := NB3.out b hb; omega, hDE.wr.keep k6 fun b hb e => by have := NB4.out b hb; omega⟩, fun b hb => by
              rcases hb with hb | hb
              · have := NB3.out b hb; omega
              · have := NB4.out b hb; omega⟩)
          have h4 := row5 h6
          clear h6 k6 s6 YS
          obtain ⟨d0, d1, d2, d3, d4⟩ := h4
          go_wp2_with fail
          refine bodyPost_ret (v := .tuple #[agR q (.slice A3 D.length c3) (.slice A4 E.length c4), .int .i64 0]) (by rw [← HQ.out]; simp [results, Tryz.results165, go_sem, d0, d1, d2, d3, d4]) rfl HF.out
        · have NB : takeR (toL s) = none := by rw [CN.out, HCD.out, if_neg (fun h => hps h.2)]
          have f1 : ((mkB (putR q)).toList == s.toList) = false := by
            rw [beq_eq_false_iff_ne]; exact fun e => hps (by rw [← blist_inj e]; exact (mkB_list _).symm)
          have f2 : ((mkB (putR q)).toList != s.toList) = true := by simp only [bne, f1]; rfl
          obtain ⟨X, hX⟩ : ∃ X, mkB (putR q) = X := ⟨_, rfl⟩
          rw [hX] at f1 f2 ⊢
          clear hqr hps hX hsz5
          go_wp2_with (with_reducible refine wp_stop_store _ _ _ rfl ?_)
          unfold Stop
          refine wp_store_all rfl _ _ _ rfl rfl rfl _ _ HK5.out info_rt rfl (by simp [Value.oneCell']) ?_
          intro w6 h6 k6 s6
          have HN := Lib.hid (TakeROut.bad (w := w) (w' := w6) (s := toL s) NB (below_keep HB5.out k6))
          have h4 := row5 h6
          clear h6 k6 s6
          obtain ⟨d0, d1, d2, d3, d4⟩ := h4
          go_wp2_with fail
          refine bodyPost_ret (v := .tuple #[.agg #[.string ⟨#[]⟩, .string ⟨#[]⟩, .int .i64 0, .slice none 0 0, .slice none 0 0], .int .i64 2]) (by simp [results, Tryz.results165, go_sem, d0, d1, d2, d3, d4]) rfl HN.out
    · have NB : takeR (toL s) = none := by
        unfold takeR; rw [hG]
        split
        · rename_i he; cases he; exact absurd rfl h5
        · rfl
      have f1 : ((l.length : Int) == 5) = false := by simp; omega
      have f2 : ((l.length : Int) != 5) = true := by simp only [bne, f1]; rfl
      clear hG h5
      go_wp2_with (with_reducible refine wp_stop_store _ _ _ rfl ?_)
      unfold Stop
      refine wp_store_all rfl _ _ _ rfl rfl rfl _ _ HK1.out info_rt rfl (by simp [Value.oneCell']) ?_
      intro w3 h3 k3 s3
      have HN := Lib.hid (TakeROut.bad (w := w) (w' := w3) (s := toL s) NB (below_keep HB.out k3))
      have h4 := row5 h3
      clear h3 k3 s3
      obtain ⟨c0, c1, c2, c3, c4⟩ := h4
      go_wp2_with fail
      refine bodyPost_ret (v := .tuple #[.agg #[.string ⟨#[]⟩, .string ⟨#[]⟩, .int .i64 0, .slice none 0 0, .slice none 0 0], .int .i64 2]) (by simp [results, Tryz.results165, go_sem, c0, c1, c2, c3, c4]) rfl HN.out
end Go.Proofs.YtckblcfkajpofaaGreatDoor
namespace Go.Proofs.YtckblcfkajpofaaGreatDoor
open Go.RowKit Go.Sort
set_option linter.unusedVariables false
set_option linter.unusedSimpArgs false

theorem put_list {l m : List ByteArray} {cur : Array Value} (hl : m.length = l.length) (hc : l.length ≤ cur.size) : (putCells encStr 0 (m.map toL).toArray cur).toList.take m.length = strV m ∧ (putCells encStr 0 (m.map toL).toArray cur).size = cur.size := by
  have hsz : (putCells encStr 0 (m.map toL).toArray cur).size = cur.size := by simp [putCells]
  refine ⟨?_, hsz⟩
  apply List.ext_getElem?
  intro i
  rw [List.getElem?_take, strV_get]
  split
  · rename_i hi
    have hi' : i < cur.size := by omega
    rw [Array.getElem?_toList]
    have e : encStr (toL m[i]) = Value.string m[i] := congrArg Value.string (list_mkB m[i])
    simp [putCells, hi', hi]
    try exact e
  · rename_i hi
    rw [List.getElem?_eq_none (by omega)]; rfl
theorem sortL_eq (l : List ByteArray) : (l.map toL).mergeSort (fun x y => decide (x ≤ y)) = (sortB l).map toL := by
  unfold sortB
  rw [List.map_mergeSort]
  intro a _ b _
  unfold bLe bLt
  rw [ByteArray.toList_eq, ByteArray.toList_eq, ← decide_not]
  exact decide_eq_decide.2 List.not_lt.symm
set_option maxHeartbeats 800000 in
theorem sort_calls {w : World} {base : Nat} {v : Value} {l : List ByteArray} (h : w.ownsRow base 9 1 v l.length (strV l)) (hl : l.length < 4611686018427387904) :
    Calls Tryz.prog 227 #[v] w fun e w' => e = .returned (.tuple #[]) ∧ w'.ownsRow base 9 1 v l.length (strV (sortB l)) ∧ Keep (fun k => v.ownBlock = some k) w w' := by
  by_cases h0 : l = []
  · subst h0
    have hex : ∃ p c, v = .slice p 0 c := by
      rcases h.2 with ⟨rfl, _⟩ | ⟨g, cap, cur, rfl, _⟩
      · exact ⟨_, _, rfl⟩
      · exact ⟨_, _, rfl⟩
    obtain ⟨p, c, rfl⟩ := hex
    refine (Any.slices_Sort_string_none Tryz.laysSort p c w).mono fun e w' ⟨he, hw⟩ => ⟨he, ?_, ?_⟩
    · rw [hw, sortB_nil]; exact h
    · rw [hw]; exact Keep.refl _ _
  · rcases h.2 with ⟨rfl, hn⟩ | ⟨g, cap, cur, rfl, hb, hg, hnc, hcm, hcs, htake⟩
    · exact absurd (List.eq_nil_of_length_eq_zero hn) h0
    · have hH : Holds encStr w g 0 (l.map toL).toArray := fun j hj => by
        simp at hj
        refine ⟨?_, frozen_of_row hg _⟩
        obtain ⟨A, c, hv, _, _, hcc⟩ := strs_own h
        obtain ⟨b, off, hA, hc⟩ := hcc (by omega)
        subst hA; cases hv
        have := hc j l[j] (List.getElem?_eq_getElem hj)
        rw [this]
        have e : encStr (toL l[j]) = Value.string l[j] := congrArg Value.string (list_mkB l[j])
        simp [hj]
        try exact e.symm
      have hlt : g < w.heap.size := (Array.getElem?_eq_some_iff.1 hg).1
      have hS := Any.slices_Sort_string Tryz.laysSort g 0 cap (l.map toL) w hH hlt (by rw [List.length_map]; exact hl)
      rw [List.length_map, sortL_eq] at hS
      refine hS.mono fun e w' ⟨he, n, os, hw⟩ => ⟨he, ?_⟩
      have hsz : (putRow encStr (Sort.ahead w n) g 0 ((sortB l).map toL).toArray).heap.size = w.heap.size := by simp [putRow, mapBlock, Sort.ahead]
      have hg2 : w'.heap[g]? = some (.cells (putCells encStr 0 ((sortB l).map toL).toArray cur) 9 (0, 0)) := by
        rw [hw, heap_grow_old _ _ (by rw [hsz]; exact hlt)]
        simp only [putRow, mapBlock, Sort.ahead, Array.getElem?_modify, if_true]; rw [hg]; rfl
      obtain ⟨p1, p2⟩ := put_list (cur := cur) (sortB_length l) (by omega)
      refine ⟨⟨by rw [strV_length, sortB_length, Nat.mul_one], Or.inr ⟨g, cap, _, rfl, hb, hg2, hnc, hcm, p2.trans hcs, by rw [Nat.mul_one, ← sortB_length l]; exact p1⟩⟩, ?_⟩
      rw [hw]
      refine ⟨rfl, rfl, rfl, ?_, fun k hk hne => ?_⟩
      · unfold grow; simp only [Array.size_append]; rw [hsz]; omega
      · rw [heap_grow_old _ _ (by rw [hsz]; exact hk)]
        simp only [putRow, mapBlock, Sort.ahead, Array.getElem?_modify]
        rw [if_neg (fun e => hne (by rw [e]; rfl))]

theorem own_baseS {w : World} {base base' : Nat} {e : TypeId} {size n : Nat} {v : Value} {xs : List Value} (h : w.ownsRow base e size v n xs) (hle : base' ≤ base) : w.ownsRow base' e size v n xs := by
  refine ⟨h.1, ?_⟩
  rcases h.2 with h2 | ⟨g, cap, cur, hv, hg, r⟩
  · exact Or.inl h2
  · exact Or.inr ⟨g, cap, cur, hv, Nat.le_trans hle hg, r⟩
/-! ### meta.others -/
def others (r : Rt) : List ByteArray := sortB (r.rd ++ r.wr)
set_option maxRecDepth 100000 in
set_option maxHeartbeats 1000000 in
theorem others_calls (w : World) (r : Rt) (vr vw : Value) (hl : Lists w r vr vw) (hn : r.rd.length + r.wr.length ≤ 100000) :
    Calls Tryz.prog 154 #[agR r vr vw] w fun e w' => ∃ v, e = .returned v ∧ w'.ownsRow w.heap.size 9 1 v (others r).length (strV (others r)) ∧ Below w.heap.size w w' := by
  obtain ⟨ow, fi, ep, rd, wr'⟩ := r
  have HL := Lib.hid hl
  obtain ⟨A, ca, rfl, a1, a2, _⟩ := hl.rd
  obtain ⟨C, cb, rfl, b1, b2, _⟩ := hl.wr
  dsimp only [agR] at *
  have hbx : Below w.heap.size w (w.alloc (.cells #[.string ow, .string fi, .int .i64 ep, .slice A rd.length ca, .slice C wr'.length cb] 39)) := (Below.refl _ w).alloc (Nat.le_refl _) _
  have HBX := Lib.hid hbx
  clear hl hbx
  go_enter Tryz.func154, Tryz.ntmps154
  go_wp2_with fail
  obtain ⟨W, hW⟩ : ∃ W, ((w.alloc (.cells #[.string ow, .string fi, .int .i64 ep, .slice A rd.length ca, .slice C wr'.length cb] 39)).alloc (.cells #[.slice A rd.length ca, .slice C wr'.length cb] 35)) = W := ⟨_, rfl⟩
  have hWb : Below w.heap.size w W := by rw [← hW]; exact HBX.out.alloc HBX.out.size _
  have hWr : W.heap[w.heap.size + 1]? = some (.cells #[.slice A rd.length ca, .slice C wr'.length cb] 35 (0, 0)) := by
    rw [← hW, get_alloc, if_pos (by rw [size_alloc])]
  have hcc := concat_calls W (w.heap.size + 1) (.slice A rd.length ca) (.slice C wr'.length cb) rd wr' hWr (HL.out.rd.below hWb) (HL.out.wr.below hWb) hn
  have hln : (rd ++ wr').length ≤ 100000 := by rw [List.length_append]; exact hn
  have HOT : Hid (others ⟨ow, fi, ep, rd, wr'⟩ = sortB (rd ++ wr')) := Lib.hid rfl
  obtain ⟨L, hL⟩ : ∃ L, rd ++ wr' = L := ⟨_, rfl⟩
  rw [hL] at hcc hln HOT
  rw [hW]
  clear hL
  refine hcc.mono ?_
  rintro e w1 ⟨v, rfl, hown, hb⟩
  have hown2 := own_baseS hown hWb.size
  have hb2 : Below w.heap.size w w1 := hWb.trans (hb.mono hWb.size)
  have HO := Lib.hid hown2
  have HB := Lib.hid hb2
  have HS := Lib.hid (sort_calls hown2 (by omega))
  obtain ⟨Av, cv, rfl, _, _⟩ := own_slice hown
  clear hcc hWr hWb hW hown hb hown2 hb2
  go_wp2_with fail
  refine HS.out.mono ?_
  rintro e w2 ⟨rfl, hown3, hk⟩
  have HR : Hid (w2.ownsRow w.heap.size 9 1 (.slice Av L.length cv) (others ⟨ow, fi, ep, rd, wr'⟩).length (strV (others ⟨ow, fi, ep, rd, wr'⟩)) ∧ Below w.heap.size w w2) := Lib.hid ⟨by rw [HOT.out, sortB_length]; exact hown3, below_own HB.out HO.out hk⟩
  clear hown3 hk
  go_wp2_with fail
  go_ret
  exact ⟨_, rfl, HR.out.1, HR.out.2⟩
end Go.Proofs.YtckblcfkajpofaaGreatDoor
namespace Go.Proofs.YtckblcfkajpofaaGreatDoor
open Go.RowKit Go.Sort
set_option linter.unusedVariables false
set_option linter.unusedSimpArgs false

def exS : Except Int (List UInt8) → List UInt8
  | .error _ => []
  | .ok t => t
theorem exV_L (r : Except Int (List UInt8)) : ∃ n : Int, exV r = .tuple #[.string (mkB (exS r)), .int .i64 n] := by
  cases r with
  | error e => exact ⟨e, rfl⟩
  | ok t => exact ⟨0, rfl⟩
def secT (use who : ByteArray) (n : Nat) : ByteArray := mkB (exS (secretT (toL use) (toL who) n))
def pubT (s : ByteArray) : ByteArray := mkB (exS (ofOne 117 (toL s)))
theorem exS_len {r : Except Int (List UInt8)} (h : ∀ t, r = .ok t → rightT t = true) : (exS r).length ≤ 4000 := by
  cases r with
  | error e => exact Nat.zero_le _
  | ok t => exact right_len (h t rfl)
theorem ofOne_ok2 {k : UInt8} {a t : List UInt8} (h : ofOne k a = .ok t) : t = k :: a ∧ rightT t = true ∧ rightT a = true := by
  unfold ofOne at h; split at h
  · rename_i hr; obtain ⟨rfl, h2⟩ := made_ok h; exact ⟨rfl, h2, hr⟩
  · cases h
theorem secretT_ok {u s t : List UInt8} {n : Nat} (h : secretT u s n = .ok t) : rightT t = true := by
  unfold secretT at h
  split at h
  · cases h
  · split at h
    · cases h
    · exact (ofOne_ok2 h).2.1
theorem secT_size (use who : ByteArray) (n : Nat) : (secT use who n).size ≤ 4000 := by
  unfold secT; rw [mkB_size]; exact exS_len fun t h => secretT_ok h
theorem pubT_size (s : ByteArray) : (pubT s).size ≤ 4000 := by
  unfold pubT; rw [mkB_size]; exact exS_len fun t h => (ofOne_ok2 h).2.1

structure Us where
  name : ByteArray
  secret : ByteArray
  seed : Nat
  drew : Nat
  files : List (ByteArray × Ow)
structure Ow.ok (o : Ow) (n k : ByteArray) : Prop where
  owner : o.r.owner = n
  file : o.r.file = k
  right : o.r.right = true
  ver : o.ver < 18446744073709551616
  root : o.root.size ≤ 4000
  sgn : (o.sg.length : Int) = o.r.epoch + 1
  sgs : ∀ s ∈ o.sg, s.size ≤ 4000
structure Us.ok (U : Us) : Prop where
  name : nameR U.name = true
  seed : U.seed < 18446744073709551616
  secret : U.secret.size ≤ 4000
  all : ∀ k o, aget U.files k = some o → o.ok U.name k
  len : U.files.length ≤ U.drew
structure Rw where
  o : Ow
  vr : Value
  vw : Value
  vs : Value
def Rw.val (r : Rw) : Value := agO r.o r.vr r.vw r.vs
def Rw.off (r : Rw) (F : Nat → Prop) (p d b m : Nat) : Prop := ∀ g, (r.vr.ownBlock = some g ∨ r.vw.ownBlock = some g ∨ r.vs.ownBlock = some g) → F g ∧ g ≠ p ∧ g ≠ d ∧ g ≠ b ∧ g ≠ m
def usCells (U : Us) (d m : Nat) : Array Value := #[.string U.name, .string U.secret, .int .u64 U.seed, .pointer (some ⟨d, 0, none⟩), .map (some m)]
structure UsAt (w : World) (U : Us) (F : Nat → Prop) (p d b m : Nat) (rows : List (ByteArray × Rw)) : Prop where
  row : w.heap[p]? = some (.cells (usCells U d m) 162 (0, 0))
  drs : IsDraws w U.seed U.drew d b
  map : smap w Value.string m (amap Rw.val rows)
  files : U.files = amap Rw.o rows
  lists : ∀ k r, aget rows k = some r → OLists w r.o r.vr r.vw r.vs
  off : ∀ k r, aget rows k = some r → r.off F p d b m
  fp : F p
  fd : F d
  fb : F b
  fm : F m
  lt : ∀ i, F i → i < w.heap.size
  t3 : ¬ F (Tryz.laysValid_ren.g 3)
  t4 : ¬ F (Tryz.laysValid_ren.g 4)
theorem OLists.keep {w w' : World} {o : Ow} {vr vw vs : Value} {F : Nat → Prop} (h : OLists w o vr vw vs) (k : Keep F w w') (hn : ∀ g, (vr.ownBlock = some g ∨ vw.ownBlock = some g ∨ vs.ownBlock = some g) → ¬ F g) : OLists w' o vr vw vs :=
  ⟨⟨h.rt.rd.keep k fun b hb => hn b (Or.inl hb), h.rt.wr.keep k fun b hb => hn b (Or.inr (Or.inl hb))⟩, h.sg.keep k fun b hb => hn b (Or.inr (Or.inr hb))⟩
section
variable {w w' : World} {U : Us} {F G : Nat → Prop} {p d b m : Nat} {rows : List (ByteArray × Rw)}
theorem UsAt.keep (h : UsAt w U F p d b m rows) (k : Keep G w w') (hn : ∀ i, F i → ¬ G i) : UsAt w' U F p d b m rows :=
  ⟨k.at h.row (hn _ h.fp), h.drs.keep k (hn _ h.fd) (hn _ h.fb), k.smap h.map (hn _ h.fm), h.files, fun k' r hr => (h.lists k' r hr).keep k fun g hg => hn g (h.off k' r hr g hg).1, h.off, h.fp, h.fd, h.fb, h.fm, fun i hi => Nat.lt_of_lt_of_le (h.lt i hi) k.size, h.t3, h.t4⟩
theorem UsAt.below (h : UsAt w U F p d b m rows) (k : Below w.heap.size w w') : UsAt w' U F p d b m rows := h.keep (G := fun _ => False) (Keep.of_below k) fun _ _ e => e
theorem UsAt.pd (h : UsAt w U F p d b m rows) : p ≠ d := by
  rintro rfl; have := h.row.symm.trans h.drs.hd; simp [usCells] at this
theorem UsAt.pb (h : UsAt w U F p d b m rows) : p ≠ b := by
  rintro rfl; have := h.row.symm.trans h.drs.hb; simp [usCells] at this
theorem UsAt.mp (h : UsAt w U F p d b m rows) : m ≠ p := by
  rintro rfl; obtain ⟨es, c, h1, _⟩ := h.map; have := h1.symm.trans h.row; simp at this
theorem UsAt.md (h : UsAt w U F p d b m rows) : m ≠ d := by
  rintro rfl; obtain ⟨es, c, h1, _⟩ := h.map; have := h1.symm.trans h.drs.hd; simp at this
theorem UsAt.mb (h : UsAt w U F p d b m rows) : m ≠ b := by
  rintro rfl; obtain ⟨es, c, h1, _⟩ := h.map; have := h1.symm.trans h.drs.hb; simp at this
theorem UsAt.cells (h : UsAt w U F p d b m rows) : w.cell? ⟨p, 0, none⟩ = some (.string U.name) ∧ w.cell? ⟨p, 1, none⟩ = some (.string U.secret) ∧ w.cell? ⟨p, 2, none⟩ = some (.int .u64 U.seed) ∧ w.cell? ⟨p, 3, none⟩ = some (.pointer (some ⟨d, 0, none⟩)) ∧ w.cell? ⟨p, 4, none⟩ = some (.map (some m)) := row5 h.row
theorem UsAt.drawn (h : UsAt w U F p d b m rows) (k : Keep (fun i => i = d ∨ i = b) w w') {n : Nat} (hd : IsDraws w' U.seed n d b) : UsAt w' { U with drew := n } F p d b m rows :=
  ⟨k.at h.row (by have := h.pd; have := h.pb; omega), hd, k.smap h.map (by have := h.md; have := h.mb; omega), h.files,
    fun k' r hr => (h.lists k' r hr).keep k fun g hg e => by have := h.off k' r hr g hg; omega, h.off, h.fp, h.fd, h.fb, h.fm, fun i hi => Nat.lt_of_lt_of_le (h.lt i hi) k.size, h.t3, h.t4⟩
end
set_option maxRecDepth 100000 in
set_option maxHeartbeats 1000000 in
theorem drawn_calls {w : World} {U : Us} {F : Nat → Prop} {p d b m : Nat} {rows : List (ByteArray × Rw)} (h : UsAt w U F p d b m rows) (hd : U.drew < 1000000) (use who : ByteArray) (h1 : use.size ≤ 1000) (h2 : who.size ≤ 1000000) :
    Calls Tryz.prog 120 #[.pointer (some ⟨p, 0, none⟩), .string use, .string who] w fun e w' => e = .returned (.string (secT use who (drawN U.seed U.drew))) ∧ UsAt w' { U with drew := U.drew + 1 } F p d b m rows ∧ Keep (fun i => i = d ∨ i = b) w w' := by
  obtain ⟨c0, c1, c2, c3, c4⟩ := h.cells
  have HN := Lib.hid (next_calls w h.drs hd)
  have hs := fun W => secret_calls use who (drawN U.seed U.drew) W h1 h2 (mixN_lt _)
  obtain ⟨er, he⟩ := exV_L (secretT (toL use) (toL who) (drawN U.seed U.drew))
  rw [he, show mkB (exS (secretT (toL use) (toL who) (drawN U.seed U.drew))) = secT use who (drawN U.seed U.drew) from rfl] at hs
  have HS := Lib.hid hs
  have HU := Lib.hid h
  obtain ⟨T, hT⟩ : ∃ T, secT use who (drawN U.seed U.drew) = T := ⟨_, rfl⟩
  obtain ⟨n, hn⟩ : ∃ n, drawN U.seed U.drew = n := ⟨_, rfl⟩
  rw [hT] at HS ⊢
  rw [hn] at HS HN
  clear hs he h hT hn
  go_enter Tryz.func120, Tryz.ntmps120
  go_wp2_with fail
  refine HN.out.mono ?_
  rintro e w1 ⟨rfl, hd1, hk1⟩
  have H1 := Lib.hid (HU.out.drawn hk1 hd1)
  have K1 := Lib.hid hk1
  clear hd1 hk1
  go_wp2_with fail
  refine (HS.out _).mono ?_
  rintro e w2 ⟨rfl, hb⟩
  have H2 := Lib.hid (H1.out.below hb)
  have K2 := Lib.hid (K1.out.same (Keep.of_below hb))
  clear hb
  go_wp2_with fail
  go_ret
  exact ⟨rfl, H2.out, K2.out⟩
theorem name_calls {w : World} {U : Us} {F : Nat → Prop} {p d b m : Nat} {rows : List (ByteArray × Rw)} (h : UsAt w U F p d b m rows) :
    Calls Tryz.prog 24 #[.pointer (some ⟨p, 0, none⟩)] w fun e w' => e = .returned (.string U.name) ∧ w' = w := by
  obtain ⟨c0, c1, c2, c3, c4⟩ := h.cells
  clear h
  go_enter Tryz.func24, Tryz.ntmps24
  go_wp2_with fail
  go_ret
  exact ⟨rfl, rfl⟩
theorem usecret_calls {w : World} {U : Us} {F : Nat → Prop} {p d b m : Nat} {rows : List (ByteArray × Rw)} (h : UsAt w U F p d b m rows) :
    Calls Tryz.prog 25 #[.pointer (some ⟨p, 0, none⟩)] w fun e w' => e = .returned (.string U.secret) ∧ w' = w := by
  obtain ⟨c0, c1, c2, c3, c4⟩ := h.cells
  clear h
  go_enter Tryz.func25, Tryz.ntmps25
  go_wp2_with fail
  go_ret
  exact ⟨rfl, rfl⟩
theorem public_calls {w : World} {U : Us} {F : Nat → Prop} {p d b m : Nat} {rows : List (ByteArray × Rw)} (h : UsAt w U F p d b m rows) (hs : U.secret.size ≤ 4000) :
    Calls Tryz.prog 26 #[.pointer (some ⟨p, 0, none⟩)] w fun e w' => e = .returned (.string (pubT U.secret)) ∧ Below w.heap.size w w' := by
  obtain ⟨c0, c1, c2, c3, c4⟩ := h.cells
  have hp := ofpublic_calls U.secret w (by omega)
  obtain ⟨er, he⟩ := exV_L (ofOne 117 (toL U.secret))
  rw [he, show mkB (exS (ofOne 117 (toL U.secret))) = pubT U.secret from rfl] at hp
  have HP := Lib.hid hp
  clear hp he h
  go_enter Tryz.func26, Tryz.ntmps26
  go_wp2_with fail
  refine HP.out.mono ?_
  rintro e w1 ⟨rfl, hb⟩
  have HB := Lib.hid hb
  clear hb
  go_wp2_with fail
  go_ret
  exact ⟨rfl, HB.out⟩
end Go.Proofs.YtckblcfkajpofaaGreatDoor
namespace Go.Proofs.YtckblcfkajpofaaGreatDoor
open Go.RowKit Go.Sort
set_option linter.unusedVariables false
set_option linter.unusedSimpArgs false

theorem Tabs.lt {w : World} (h : Tabs w) : Tryz.laysValid_ren.g 3 < w.heap.size ∧ Tryz.laysValid_ren.g 4 < w.heap.size := by
  have hc : ∀ {a : Addr} {v : Value}, w.cell? a = some v → a.block < w.heap.size := by
    intro a v ha
    unfold World.cell? at ha
    cases hb : w.heap[a.block]? with
    | none => rw [hb] at ha; simp at ha
    | some o => exact (Array.getElem?_eq_some_iff.1 hb).1
  exact ⟨hc (h.1 0 (by omega)), hc (h.2 0 (by omega)).1⟩
def unew (s : ByteArray) (seed : Nat) : Us := ⟨s, secT ⟨#[117, 115, 101, 114]⟩ s (drawN seed 0), seed, 1, []⟩
theorem UsAt.secret {w : World} {U : Us} {F : Nat → Prop} {p d b m : Nat} {rows : List (ByteArray × Rw)} (h : UsAt w U F p d b m rows) (s : ByteArray) : UsAt (w.setCell ⟨p, 1, none⟩ (.string s)) { U with secret := s } F p d b m rows := by
  have k : Keep (fun i => i = p) w (w.setCell ⟨p, 1, none⟩ (.string s)) := Keep.setCell (fun i => i = p) w (p := ⟨p, 1, none⟩) rfl _
  refine ⟨?_, h.drs.keep k (Ne.symm h.pd) (Ne.symm h.pb), k.smap h.map h.mp, h.files, fun k' r hr => (h.lists k' r hr).keep k fun g hg e => (h.off k' r hr g hg).2.1 e, h.off, h.fp, h.fd, h.fb, h.fm, fun i hi => Nat.lt_of_lt_of_le (h.lt i hi) k.size, h.t3, h.t4⟩
  have := set_at h.row 1 (.string s)
  simpa [usCells] using this
theorem unew_ok {s : ByteArray} {seed : Nat} (h : nameR s = true) (hs : seed < 18446744073709551616) : (unew s seed).ok :=
  ⟨h, hs, secT_size _ _ _, fun k o hk => by simp [unew, aget] at hk, Nat.zero_le _⟩
def four (p d b m : Nat) : Nat → Prop := fun i => i = p ∨ i = d ∨ i = b ∨ i = m
set_option maxRecDepth 100000 in
set_option maxHeartbeats 2000000 in
theorem unew_calls (w : World) (s : ByteArray) (seed : Nat) (hs : s.size ≤ 9223372036854775807) (hd : seed < 18446744073709551616) (hT : Tabs w) :
    Calls Tryz.prog 22 #[.string s, .int .u64 seed] w fun e w' => Below w.heap.size w w' ∧ if nameR s then ∃ p d b m, e = .returned (.tuple #[.pointer (some ⟨p, 0, none⟩), .int .i64 0]) ∧ UsAt w' (unew s seed) (four p d b m) p d b m [] ∧ (∀ i, four p d b m i → w.heap.size ≤ i)
      else e = .returned (.tuple #[.pointer none, .int .i64 3]) := by
  have HR := Lib.hid (right_calls s w hs hT)
  have HT := Lib.hid hT
  clear hT
  cases hn : nameR s with
  | false =>
    rw [hn] at HR
    clear hn
    go_enter Tryz.func22, Tryz.ntmps22
    go_wp2_with fail
    refine HR.out.mono ?_
    rintro e w1 ⟨rfl, hb⟩
    have HB := Lib.hid hb
    clear hb
    go_wp2_with fail
    go_ret2
    exact ⟨HB.out, by simp⟩
  | true =>
    have hsz := nameR_size hn
    rw [hn] at HR
    have HDN := Lib.hid (fun W => dnew_calls W seed hd)
    clear hn
    go_enter Tryz.func22, Tryz.ntmps22
    go_wp2_with fail
    refine HR.out.mono ?_
    rintro e w1 ⟨rfl, hb1⟩
    have B1 := Lib.hid hb1
    clear hb1
    go_wp2_with fail
    refine (HDN.out w1).mono ?_
    rintro e w2 ⟨rfl, hd2, hs2, hb2⟩
    obtain ⟨B, hB⟩ : ∃ B, w1.heap.size = B := ⟨_, rfl⟩
    have hBw : w.heap.size ≤ B := by rw [← hB]; exact B1.out.size
    rw [hB] at hd2 hs2 ⊢
    have D2 := Lib.hid hd2
    have B2 := Lib.hid (B1.out.trans (hb2.mono B1.out.size))
    clear hd2 hb2
    obtain ⟨W, hW⟩ : ∃ W, ((w2.alloc (.map #[] 0)).alloc (.cells #[.string s, .string ⟨#[]⟩, .int .u64 seed, .pointer (some ⟨B + 1, 0, none⟩), .map (some (B + 2))] 162)) = W := ⟨_, rfl⟩
    have hWS : W.heap.size = B + 4 := by rw [← hW]; simp [size_alloc, hs2]
    have hU : UsAt W ⟨s, ⟨#[]⟩, seed, 0, []⟩ (four (B + 2 + 1) (B + 1) B (B + 2)) (B + 2 + 1) (B + 1) B (B + 2) [] := by
      have hk : Keep (fun _ => False) w2 W := by rw [← hW]; exact (Keep.alloc (fun _ => False) w2 _).same (Keep.alloc (fun _ => False) _ _)
      refine ⟨?_, D2.out.keep hk (fun e => e) fun e => e, ?_, rfl, fun k r hr => by simp [aget] at hr, fun k r hr => by simp [aget] at hr, Or.inl rfl, Or.inr (Or.inl rfl), Or.inr (Or.inr (Or.inl rfl)), Or.inr (Or.inr (Or.inr rfl)), ?_, ?_, ?_⟩
      · rw [← hW, get_alloc, if_pos (by rw [size_alloc, hs2])]; rfl
      · have := (smap_made w2 Value.string).alloc (.cells #[.string s, .string ⟨#[]⟩, .int .u64 seed, .pointer (some ⟨B + 1, 0, none⟩), .map (some (B + 2))] 162)
        rw [hW, hs2] at this
        exact this
      · intro i hi; rw [hWS]; unfold four at hi; omega
      · have := HT.out.lt.1; intro hi; unfold four at hi; omega
      · have := HT.out.lt.2; intro hi; unfold four at hi; omega
    have hbW : Below w.heap.size w W := by rw [← hW]; exact (B2.out.alloc B2.out.size _).alloc (B2.out.alloc B2.out.size _).size _
    have hmm := fun W => run_makeMap_plain (P := Tryz.prog) (w := W) 160
    have HD := Lib.hid (drawn_calls hU (by simp) ⟨#[117, 115, 101, 114]⟩ s (by decide) (by omega))
    have HBW := Lib.hid hbW
    clear hU hbW
    go_wp2_with fail
    refine HD.out.mono ?_
    rintro e w3 ⟨rfl, hU3, hk3⟩
    have hr3 := hU3.row
    unfold usCells at hr3
    have c1 := (row5 hr3).2.1
    have f1 := frozen_of_row hr3 1
    have hU4 := hU3.secret (secT ⟨#[117, 115, 101, 114]⟩ s (drawN seed 0))
    have hk4 : Keep (fun i => w.heap.size ≤ i) w3 (w3.setCell ⟨B + 2 + 1, 1, none⟩ (.string (secT ⟨#[117, 115, 101, 114]⟩ s (drawN seed 0)))) := Keep.setCell (fun i => w.heap.size ≤ i) w3 (p := ⟨B + 2 + 1, 1, none⟩) (by show w.heap.size ≤ B + 2 + 1; omega) _
    have hb4 : Below w.heap.size w (w3.setCell ⟨B + 2 + 1, 1, none⟩ (.string (secT ⟨#[117, 115, 101, 114]⟩ s (drawN seed 0)))) :=
      (((Keep.of_below HBW.out (F := fun i => w.heap.size ≤ i)).trans hk3 fun i hi => Or.inr (by omega)).same hk4).new
    obtain ⟨W4, hW4⟩ : ∃ W4, w3.setCell ⟨B + 2 + 1, 1, none⟩ (.string (secT ⟨#[117, 115, 101, 114]⟩ s (drawN seed 0))) = W4 := ⟨_, rfl⟩
    have HT4 : Hid (UsAt w3 _ _ _ _ _ _ _) := Lib.hid hU3
    rw [hW4] at hU4 hb4
    have HU4 := Lib.hid hU4
    have HB4 := Lib.hid hb4
    obtain ⟨T, hT⟩ : ∃ T, secT ⟨#[117, 115, 101, 114]⟩ s (drawN seed 0) = T := ⟨_, rfl⟩
    rw [hT] at hW4
    simp only [hT]
    clear hU4 hb4 hU3 hk3 hk4 hr3
    go_wp2_with fail
    go_ret2
    refine ⟨HB4.out, ?_⟩
    refine ⟨B + 2 + 1, rfl, B + 1, B, B + 2, HU4.out, fun i hi => ?_⟩
    unfold four at hi; omega
end Go.Proofs.YtckblcfkajpofaaGreatDoor
namespace Go.Proofs.YtckblcfkajpofaaGreatDoor
open Go.RowKit Go.Sort
set_option linter.unusedVariables false
set_option linter.unusedSimpArgs false

def anyR : Value → Option (DataW Unit × List MemPlace) := fun _ => some (.nil, [])
def unL (x : List UInt8) : ByteArray := ⟨x.toArray⟩
theorem unL_data (s : ByteArray) : unL s.data.toList = s := by cases s; simp [unL]
theorem encStr_un (x : List UInt8) : encStr x = Value.string (unL x) := by simp [encStr, unL]

/-- a map of string keys, for the shelf -/
theorem smap.owns {w : World} {b : Nat} {l : List (ByteArray × Value)} (h : smap w Value.string b l) (hl : l.length ≤ 100000) (hk : ∀ k ∈ akeys l, k.size ≤ 200) :
    ∃ D : DataW Unit, w.ownsMap Tryz.prog 9 anyR b l.length D ∧ Maps.size D = l.length ∧ ∀ ss : List (List UInt8), ss.Perm (strKeys D) → (ss.map unL).Perm (akeys l) := by
  obtain ⟨es, clock, hb, hs, he, hn⟩ := h
  have hlen : es.toList.length = l.length := by have := congrArg List.length he; simpa using this
  have hkey : ∀ x ∈ es.toList, ∃ k ∈ akeys l, x.key = .string k := fun x hx => by
    have h1 : (x.key, x.val) ∈ es.toList.map (fun e => (e.key, e.val)) := List.mem_map.2 ⟨x, hx, rfl⟩
    rw [he] at h1
    obtain ⟨p, hp, e⟩ := List.mem_map.1 h1
    simp only [Prod.mk.injEq] at e
    exact ⟨p.1, List.mem_map.2 ⟨p, hp, rfl⟩, e.1.symm⟩
  have hrd : ∀ x ∈ es.toList, ∀ k, x.key = .string k → k ∈ akeys l → Go.WideElems.rd Tryz.prog 9 anyR x = some (.string k.data.toList, .nil) := fun x hx k e hm => by
    have := Go.WideMaps.keyOf_string_mk Tryz.underlying9 (s := k) (by have := hk k hm; unfold maxLen; omega)
    simp [Go.WideElems.rd, e, this, anyR]
  refine ⟨_, ⟨es, clock, hb, ⟨?_, hs, fun x hx => ?_⟩, ?_, rfl⟩, ?_, fun ss hss => ?_⟩
  · rw [← Array.length_toList, hlen]; unfold maxLen; omega
  · obtain ⟨k, hm, e⟩ := hkey x hx; exact ⟨_, hrd x hx k e hm⟩
  · rw [← Array.length_toList, hlen]; exact Nat.le_refl _
  · rw [Maps.size_eq, (Go.WideShapes.sorted_perm _).length_eq, List.length_map, hlen]
  · have hp : (strKeys (.map ((es.toList.map (Go.WideElems.rg Tryz.prog 9 anyR)).foldr DataW.insert []))).Perm ((es.toList.map (Go.WideElems.rg Tryz.prog 9 anyR)).map fun p => strOf p.1) := (Go.WideShapes.sorted_perm _).map _
    have h2 := (hss.trans hp).map unL
    refine h2.trans (List.Perm.of_eq ?_)
    have h3 : es.toList.map (fun x => x.key) = (akeys l).map Value.string := by
      have := congrArg (List.map Prod.fst) he
      simpa [akeys, Function.comp_def] using this
    rw [List.map_map, List.map_map]
    have h4 : es.toList.map ((unL ∘ fun p => strOf p.1) ∘ Go.WideElems.rg Tryz.prog 9 anyR) = es.toList.map (fun x => match x.key with | .string k => k | _ => ByteArray.empty) := by
      apply List.map_congr_left
      intro x hx
      obtain ⟨k, hm, e⟩ := hkey x hx
      simp [Go.WideElems.rg, hrd x hx k e hm, strOf, e, unL_data]
    rw [h4]
    have h5 := congrArg (List.map (fun v : Value => match v with | .string k => k | _ => ByteArray.empty)) h3
    simpa [Function.comp_def] using h5

set_option maxHeartbeats 1000000 in
theorem collect_keys {w : World} {b : Nat} {l : List (ByteArray × Value)} (h : smap w Value.string b l) (hl : l.length ≤ 100000) (hk : ∀ k ∈ akeys l, k.size ≤ 200) :
    (∀ W, Calls Tryz.prog 126 #[.map (some b)] W fun e w' => e = .returned (.func (.func 228) #[] #[.pointer (some ⟨W.heap.size, 0, none⟩)]) ∧ w' = W.alloc (.cells #[.map (some b)] 160)) ∧
    Calls Tryz.prog 226 #[.func (.func 228) #[] #[.pointer (some ⟨w.heap.size, 0, none⟩)]] (w.alloc (.cells #[.map (some b)] 160)) fun e w' => ∃ (v : Value) (m : List ByteArray), e = .returned v ∧ m.Perm (akeys l) ∧ w'.ownsRow w.heap.size 9 1 v m.length (strV m) ∧ Below w.heap.size w w' := by
  refine ⟨fun W => (callsIn_wide (n := 5)).1 (AnyZ.keys_in Tryz.keysA Fence.wide 5 trivial rfl (some b) W), ?_⟩
  obtain ⟨D, hown, hsz, hperm⟩ := h.owns hl hk
  have hbl := hown.lt
  have hseq : SeqGives Fence.wide 3 Tryz.prog 228 #[.pointer (some ⟨w.heap.size, 0, none⟩)] encStr (fun ss => ss.Perm (strKeys D)) (Maps.size D) (w.alloc (.cells #[.map (some b)] 160)) :=
    AnyZ.keys_gives (ρ := Tryz.keysA_ren) { Tryz.keysA with } Fence.wide _ trivial rfl (by omega) w.heap.size b l.length D _ (by simp) (by simp) (by
      obtain ⟨es, clock, hb, Ft, hs, hD⟩ := hown
      exact ⟨es, clock, (Below.heap_alloc _ _ b hbl).trans hb, Ft, hs, hD⟩)
  have cS := AnyZ.collect_in Tryz.collA Fence.wide 5 trivial trivial rfl (by omega) 228 #[.pointer (some ⟨w.heap.size, 0, none⟩)] trivial (enters_of Tryz.func228 (by kernel_rfl) rfl) _ _ (by rw [hsz]; unfold maxLen; omega) (by rw [hsz]; omega) _ hseq
  change CallsIn _ _ Tryz.prog 226 _ _ _ at cS
  refine ((callsIn_wide (n := 5)).1 cS).mono ?_
  rintro e w' ⟨v, ss, rfl, hS, hrow, _, hb⟩
  refine ⟨v, ss.map unL, rfl, hperm ss hS, ?_, ((Below.refl _ w).alloc (Nat.le_refl _) _).trans (hb.mono (by simp))⟩
  have h1 : w'.ownsRow w.heap.size 9 1 v ss.length (ss.map encStr) := ownsRow_base_a hrow (by simp)
  have h2 : ss.map encStr = strV (ss.map unL) := by
    unfold strV; rw [List.map_map]; apply List.map_congr_left; intro x _; exact encStr_un x
  rw [h2] at h1
  simpa using h1


theorem lawS : MK Tryz.prog 9 Value.string := mk_string Tryz.underlying9
theorem zero_ow (w : World) : (zeroValue 111).run Tryz.prog w = .ok (.agg #[.string ⟨#[]⟩, .string ⟨#[]⟩, .int .i64 0, .slice none 0 0, .slice none 0 0, .int .u64 0, .string ⟨#[]⟩, .slice none 0 0, .bool false]) w := by kernel_rfl
set_option maxHeartbeats 1000000 in
theorem sorted_keys {w : World} {b : Nat} {l : List (ByteArray × Value)} (h : smap w Value.string b l) (hl : l.length ≤ 100000) (hk : ∀ k ∈ akeys l, k.size ≤ 200) :
    Calls Tryz.prog 125 #[.func (.func 228) #[] #[.pointer (some ⟨w.heap.size, 0, none⟩)]] (w.alloc (.cells #[.map (some b)] 160)) fun e w' => ∃ (v : Value), e = .returned v ∧ w'.ownsRow w.heap.size 9 1 v (sortB (akeys l)).length (strV (sortB (akeys l))) ∧ Below w.heap.size w w' := by
  have HC := Lib.hid (collect_keys h hl hk).2
  have hkl : (akeys l).length ≤ 100000 := by simpa [akeys] using hl
  have HE : Hid (∀ m : List ByteArray, m.Perm (akeys l) → sortB m = sortB (akeys l) ∧ m.length = (sortB (akeys l)).length ∧ m.length ≤ 100000) := Lib.hid fun m hm => ⟨sortB_congr hm, by rw [sortB_length]; exact hm.length_eq, by rw [hm.length_eq]; exact hkl⟩
  clear h hl hk hkl
  go_enter Tryz.func125, Tryz.ntmps125
  go_wp2_with fail
  refine HC.out.mono ?_
  rintro e w1 ⟨v, m, rfl, hm, ho, hb⟩
  have HM := Lib.hid hm
  have HB := Lib.hid hb
  have HO := Lib.hid ho
  have HS := Lib.hid (sort_calls ho (by have := (HE.out m hm).2.2; omega))
  obtain ⟨A, c, rfl, _, _⟩ := own_slice ho
  clear hm hb ho
  go_wp2_with fail
  refine HS.out.mono ?_
  rintro e w2 ⟨rfl, ho2, hk2⟩
  have h1 := (HE.out m HM.out).1
  have h2 := (HE.out m HM.out).2.1
  rw [h1, h2] at ho2
  have HO2 := Lib.hid ho2
  have HB2 := Lib.hid (below_own HB.out HO.out hk2)
  have HL := Lib.hid h2
  clear ho2 hk2 h1 h2
  go_wp2_with fail
  go_ret
  exact ⟨_, rfl, HL.out ▸ HO2.out, HB2.out⟩

def Us.list (U : Us) : List ByteArray := (sortB (akeys U.files)).filter fun k => ((aget U.files k).map fun o => !o.gone).getD true
theorem filter_take_succ {α : Type} {p : α → Bool} {l : List α} {k : Nat} {x : α} (h : l[k]? = some x) : (l.take (k + 1)).filter p = (l.take k).filter p ++ if p x then [x] else [] := by
  rw [take_succ_get2 h, List.filter_append]
  cases hp : p x <;> simp [hp]
theorem UsAt.find {w : World} {U : Us} {F : Nat → Prop} {p d b m : Nat} {rows : List (ByteArray × Rw)} (h : UsAt w U F p d b m rows) (k : ByteArray) : aget U.files k = (aget rows k).map Rw.o := by rw [h.files, aget_amap]
theorem UsAt.akeys {w : World} {U : Us} {F : Nat → Prop} {p d b m : Nat} {rows : List (ByteArray × Rw)} (h : UsAt w U F p d b m rows) : akeys (amap Rw.val rows) = akeys U.files := by rw [h.files, akeys_amap, akeys_amap]
theorem UsAt.look {w : World} {U : Us} {F : Nat → Prop} {p d b m : Nat} {rows : List (ByteArray × Rw)} (h : UsAt w U F p d b m rows) {k : ByteArray} {r : Rw} (hr : aget rows k = some r) (ok : Bool) :
    (Instr.lookup 160 (.map (some m)) (.string k) ok).run Tryz.prog w = .ok (if ok then .tuple #[agO r.o r.vr r.vw r.vs, .bool true] else agO r.o r.vr r.vw r.vs) w := by
  have := h.map.look (P := Tryz.prog) lawS (t := 160) (et := 111) Tryz.underlying160 (zero_ow w) k ok
  rw [aget_amap, hr] at this
  exact this
theorem UsAt.look_none {w : World} {U : Us} {F : Nat → Prop} {p d b m : Nat} {rows : List (ByteArray × Rw)} (h : UsAt w U F p d b m rows) {k : ByteArray} (hr : aget rows k = none) (ok : Bool) :
    (Instr.lookup 160 (.map (some m)) (.string k) ok).run Tryz.prog w = .ok (if ok then .tuple #[.agg #[.string ⟨#[]⟩, .string ⟨#[]⟩, .int .i64 0, .slice none 0 0, .slice none 0 0, .int .u64 0, .string ⟨#[]⟩, .slice none 0 0, .bool false], .bool false] else .agg #[.string ⟨#[]⟩, .string ⟨#[]⟩, .int .i64 0, .slice none 0 0, .slice none 0 0, .int .u64 0, .string ⟨#[]⟩, .slice none 0 0, .bool false]) w := by
  have := h.map.look (P := Tryz.prog) lawS (t := 160) (et := 111) Tryz.underlying160 (zero_ow w) k ok
  rw [aget_amap, hr] at this
  exact this
theorem field_gone (a0 a1 a2 a3 a4 a5 a6 a7 a8 : Value) (W : World) : (Instr.field 111 (.agg #[a0, a1, a2, a3, a4, a5, a6, a7, a8]) 4).run Tryz.prog W = .ok a8 W := by kernel_rfl
set_option maxRecDepth 100000 in
set_option maxHeartbeats 1000000 in
theorem files_calls {w : World} {U : Us} {F : Nat → Prop} {p d b m : Nat} {rows : List (ByteArray × Rw)} (h : UsAt w U F p d b m rows) (hl : U.files.length ≤ 100000) (hk : ∀ k ∈ akeys U.files, k.size ≤ 200) :
    Calls Tryz.prog 28 #[.pointer (some ⟨p, 0, none⟩)] w fun e w' => ∃ v, e = .returned v ∧ w'.ownsRow w.heap.size 9 1 v U.list.length (strV U.list) ∧ Below w.heap.size w w' := by
  obtain ⟨c0, c1, c2, c3, c4⟩ := h.cells
  have hlen : (amap Rw.val rows).length = U.files.length := by rw [h.files]; simp [amap]
  have hKY := (collect_keys h.map (by omega) (by rw [h.akeys]; exact hk)).1
  have hSO := sorted_keys h.map (by omega) (by rw [h.akeys]; exact hk)
  rw [h.akeys] at hSO
  have hmem : ∀ k ∈ sortB (akeys U.files), ∃ r, aget rows k = some r := by
    intro k hk2
    have h1 := (sortB_perm _).mem_iff.1 hk2
    rw [h.files, akeys_amap] at h1
    have := aget_isSome.2 h1
    exact Option.isSome_iff_exists.1 this
  have HLEN : Hid ((sortB (akeys U.files)).length ≤ 100000) := Lib.hid (by rw [sortB_length]; simpa [akeys] using hl)
  have HLI : Hid (U.list = (sortB (akeys U.files)).filter fun k => ((aget U.files k).map fun o => !o.gone).getD true) := Lib.hid rfl
  have hfg := field_gone
  have HFD := Lib.hid h.find
  have HU := Lib.hid h
  have HSO := Lib.hid hSO
  have HM := Lib.hid hmem
  obtain ⟨L, hL⟩ : ∃ L, sortB (akeys U.files) = L := ⟨_, rfl⟩
  rw [hL] at HSO HM HLEN HLI
  clear hSO hlen hL hmem hk hl
  go_enter Tryz.func28, Tryz.ntmps28
  go_wp2_with fail
  refine (hKY w).mono ?_
  rintro e w1 ⟨rfl, rfl⟩
  go_wp2_with fail
  refine HSO.out.mono ?_
  rintro e w2 ⟨v2, rfl, ho2, hb2⟩
  have HB2 := Lib.hid hb2
  have HS2 := Lib.hid (strs_own ho2)
  have HU2 := Lib.hid (HU.out.below hb2)
  obtain ⟨A, c, rfl, _, _⟩ := own_slice ho2
  clear ho2 hb2 hKY c0 c1 c2 c3 c4 h
  go_wp2_with fail
  go_loopw [3, 13] (fun o i wr => ∃ (k : Nat) (l : List ByteArray), k ≤ L.length ∧ i = .int .i64 k ∧ l.length ≤ k ∧ Hid (l = (L.take k).filter (fun k => ((aget U.files k).map fun o => !o.gone).getD true)) ∧ Hid (wr.ownsRow w2.heap.size 9 1 o l.length (strV l) ∧ Below w2.heap.size w2 wr)) (fun _ i _ => L.length - (intOf i).toNat)
  case atStart => exact ⟨0, [], Nat.zero_le _, rfl, Nat.le_refl _, Lib.hid (by simp), own_nil _ _ _ _, Below.refl _ _⟩
  case round =>
    obtain ⟨k, l, hk, rfl, hlk, HL, HO⟩ := hrel
    by_cases hlt : k < L.length
    · obtain ⟨s, hs⟩ : ∃ x, L[k]? = some x := ⟨_, List.getElem?_eq_getElem hlt⟩
      obtain ⟨g, off, c', hv', _, _, hcell⟩ := (HS2.out.below HO.out.2).cell hs
      cases hv'
      obtain ⟨r, hr⟩ := HM.out s (List.mem_of_getElem? hs)
      have hUr := HU2.out.below HO.out.2
      have hlook := hUr.look hr false
      simp only [Bool.false_eq_true, if_false, agO] at hlook
      obtain ⟨c0, c1, c2, c3, c4⟩ := hUr.cells
      have hf : ((aget U.files s).map fun o => !o.gone).getD true = !r.o.gone := by rw [HFD.out, hr]; rfl
      have HN := filter_take_succ (p := fun k => ((aget U.files k).map fun o => !o.gone).getD true) hs
      simp only [hf] at HN
      rw [← HL.out] at HN
      have HNN := Lib.hid HN
      have HLE := HLEN.out
      clear HN hf hs hr hUr
      cases hgn : r.o.gone with
      | true =>
        rw [hgn] at hlook HNN
        have HN2 : Hid (l = (L.take (k + 1)).filter (fun k => ((aget U.files k).map fun o => !o.gone).getD true)) := Lib.hid (by rw [HNN.out]; simp)
        clear hgn
        go_wp2_with fail
        go_roundw
        case rel => exact ⟨k + 1, l, by omega, by go_num, by omega, HN2, HO⟩
        case measure => simp [intOf]; omega
      | false =>
        rw [hgn] at hlook HNN
        have HN2 : Hid (l ++ [s] = (L.take (k + 1)).filter (fun k => ((aget U.files k).map fun o => !o.gone).getD true)) := Lib.hid (by rw [HNN.out]; simp)
        obtain ⟨p', w3, hrun, ho3, hk3⟩ := append_str HO.out.1 s (by omega) HO.out.2.size
        have HNX : Hid (w3.ownsRow w2.heap.size 9 1 p' (l ++ [s]).length (strV (l ++ [s])) ∧ Below w2.heap.size w2 w3) := Lib.hid ⟨ho3, below_own HO.out.2 HO.out.1 hk3⟩
        have hl1 : (l ++ [s]).length ≤ k + 1 := by rw [List.length_append]; simp; omega
        clear ho3 hk3 hgn
        go_wp2_with (at_builtin; refine wp_append_run rfl _ _ _ rfl rfl rfl hrun ?_)
        clear hrun
        go_wp2_with fail
        go_roundw
        case rel => exact ⟨k + 1, l ++ [s], by omega, by go_num, hl1, HN2, HNX⟩
        case measure => simp [intOf]; omega
    · obtain rfl : k = L.length := by omega
      have HE : Hid (U.list = l) := Lib.hid (by rw [HLI.out, HL.out, List.take_length])
      go_wp2_with fail
      go_ret
      refine ⟨_, rfl, ?_, HB2.out.trans (HO.out.2.mono HB2.out.size)⟩
      rw [HE.out]
      exact own_lower HO.out.1 HB2.out.size
end Go.Proofs.YtckblcfkajpofaaGreatDoor
namespace Go.Proofs.YtckblcfkajpofaaGreatDoor
open Go.RowKit Go.Sort
set_option linter.unusedVariables false
set_option linter.unusedSimpArgs false

def Us.own (U : Us) (f : ByteArray) : Option Ow := match aget U.files f with
  | some o => if o.gone then none else some o
  | none => none
abbrev zeroO : Value := .agg #[.string ⟨#[]⟩, .string ⟨#[]⟩, .int .i64 0, .slice none 0 0, .slice none 0 0, .int .u64 0, .string ⟨#[]⟩, .slice none 0 0, .bool false]
def OwnRet (w : World) (r : Option Ow) (e : Ending) (w' : World) : Prop := Below w.heap.size w w' ∧ match r with
  | some o => ∃ vr vw vs, e = .returned (.tuple #[agO o vr vw vs, .int .i64 0]) ∧ OOwn w' w.heap.size o vr vw vs
  | none => e = .returned (.tuple #[zeroO, .int .i64 4])
theorem Ow.ok.small {o : Ow} {n k : ByteArray} (h : o.ok n k) : o.r.rd.length ≤ 5 ∧ o.r.wr.length ≤ 5 ∧ o.sg.length ≤ 8 ∧ 1 ≤ o.sg.length := by
  have hg := Rt.right_good h.right
  have := hg.len
  have := hg.lo
  have := hg.hi
  have := h.sgn
  omega
set_option maxRecDepth 100000 in
set_option maxHeartbeats 2000000 in
theorem uown_calls {w : World} {U : Us} {F : Nat → Prop} {p d b m : Nat} {rows : List (ByteArray × Rw)} (h : UsAt w U F p d b m rows) (hok : U.ok) (f : ByteArray) :
    Calls Tryz.prog 77 #[.pointer (some ⟨p, 0, none⟩), .string f] w fun e w' => OwnRet w (U.own f) e w' := by
  have hfind := h.find f
  obtain ⟨G, hG⟩ : ∃ G, U.own f = G := ⟨_, rfl⟩
  rw [hG]
  unfold Us.own at hG
  have hall := hok.all f
  obtain ⟨W0, hW0⟩ : ∃ W0, w.alloc (.cells #[.string ⟨#[]⟩, .string ⟨#[]⟩, .int .i64 0, .slice none 0 0, .slice none 0 0, .int .u64 0, .string ⟨#[]⟩, .slice none 0 0, .bool false] 111) = W0 := ⟨_, rfl⟩
  have hb0 : Below w.heap.size w W0 := by rw [← hW0]; exact (Below.refl _ w).alloc (Nat.le_refl _) _
  have hs0 : W0.heap.size = w.heap.size + 1 := by rw [← hW0, size_alloc]
  have hr0 : W0.heap[w.heap.size]? = some (.cells #[.string ⟨#[]⟩, .string ⟨#[]⟩, .int .i64 0, .slice none 0 0, .slice none 0 0, .int .u64 0, .string ⟨#[]⟩, .slice none 0 0, .bool false] 111 (0, 0)) := by rw [← hW0, get_alloc, if_pos rfl]
  have hU0 := h.below hb0
  obtain ⟨c0, c1, c2, c3, c4⟩ := hU0.cells
  cases hr : aget rows f with
  | none =>
    rw [hr] at hfind
    rw [hfind] at hG
    dsimp only [Option.map] at hG
    subst hG
    have hlook := hU0.look_none hr true
    simp only [if_true] at hlook
    obtain ⟨B, hB⟩ : ∃ B, w.heap.size = B := ⟨_, rfl⟩
    rw [hB] at hs0 hr0 hb0
    have HB0 := Lib.hid hb0
    have HR0 := Lib.hid hr0
    have HB := Lib.hid hB
    clear hall hfind hr hU0 hb0 hr0 h hok
    go_enter Tryz.func77, Tryz.ntmps77
    go_wp2_with (with_reducible refine wp_stop_store (o := ⟨none, .store _ (.tmp 4) _, _, _, _, _⟩) _ _ _ rfl ?_)
    unfold Stop
    refine wp_store_all rfl _ _ _ rfl rfl rfl _ _ (by rw [get_alloc, if_neg (by omega)]; exact HR0.out) info_ow rfl (by simp [Value.oneCell']) ?_
    intro w3 h3 k3 s3
    have HF : Hid (Below w.heap.size w w3) := Lib.hid (by
      have hb1 := HB0.out.alloc (by omega : B ≤ W0.heap.size) (.cells #[.string ⟨#[]⟩, .string ⟨#[]⟩, .int .i64 0, .slice none 0 0, .slice none 0 0, .int .u64 0, .string ⟨#[]⟩, .slice none 0 0, .bool false] 111)
      exact below_keep (HB.out ▸ hb1) (by rw [HB.out]; exact k3))
    clear c0 c1 c2 c3 c4
    obtain ⟨c0, c1, c2, c3, c4, c5, c6, c7, c8⟩ := row9 h3
    clear h3 k3 s3 hlook
    go_wp2_with fail
    refine bodyPost_ret (v := .tuple #[zeroO, .int .i64 4]) (by simp [results, Tryz.results77, go_sem, c0, c1, c2, c3, c4, c5, c6, c7, c8]) rfl ⟨HF.out, rfl⟩
  | some r =>
    rw [hr] at hfind
    rw [hfind] at hG
    dsimp only [Option.map] at hG
    have hlook := hU0.look hr true
    have hL := (h.lists f r hr).below hb0
    have hOk := hall _ hfind
    obtain ⟨o, vr, vw, vs⟩ := r
    have hsm := hOk.small
    obtain ⟨⟨ow, fi, ep, rd, wr⟩, ver, root, sg, gone⟩ := o
    dsimp only at hL hsm hG
    obtain ⟨A, ca, rfl, a1, a2⟩ := hL.rt.rd.form
    obtain ⟨C, cb, rfl, b1, b2⟩ := hL.rt.wr.form
    obtain ⟨D, cd, rfl, d1, d2⟩ := hL.sg.form
    simp only [if_true, agO] at hlook
    obtain ⟨B, hB⟩ : ∃ B, w.heap.size = B := ⟨_, rfl⟩
    rw [hB] at hs0 hr0 hb0
    have HB0 := Lib.hid hb0
    have HR0 := Lib.hid hr0
    have HB := Lib.hid hB
    have HL := Lib.hid hL
    obtain ⟨s1, s2, s3, s4⟩ := hsm
    clear hall hfind hr hU0 hb0 hr0 h hok hL hOk
    cases gone with
    | true =>
      simp only [if_true] at hG
      subst hG
      go_enter Tryz.func77, Tryz.ntmps77
      go_wp2_with (with_reducible refine wp_stop_store (o := ⟨none, .store _ (.tmp 4) _, _, _, _, _⟩) _ _ _ rfl ?_)
      unfold Stop
      refine wp_store_all rfl _ _ _ rfl rfl rfl _ _ (by rw [get_alloc, if_neg (by omega)]; exact HR0.out) info_ow rfl (by simp [Value.oneCell']) ?_
      intro w3 h3 k3 s3'
      have HF : Hid (Below w.heap.size w w3) := Lib.hid (by
        have hb1 := HB0.out.alloc (by omega : B ≤ W0.heap.size) (.cells #[.string ow, .string fi, .int .i64 ep, .slice A rd.length ca, .slice C wr.length cb, .int .u64 ver, .string root, .slice D sg.length cd, .bool true] 111)
        exact below_keep (HB.out ▸ hb1) (by rw [HB.out]; exact k3))
      clear c0 c1 c2 c3 c4
      obtain ⟨c0, c1, c2, c3, c4, c5, c6, c7, c8⟩ := row9 h3
      clear h3 k3 s3' hlook
      go_wp2_with fail
      refine bodyPost_ret (v := .tuple #[zeroO, .int .i64 4]) (by simp [results, Tryz.results77, go_sem, c0, c1, c2, c3, c4, c5, c6, c7, c8]) rfl ⟨HF.out, rfl⟩
    | false =>
      simp only [Bool.false_eq_true, if_false] at hG
      subst hG
      obtain ⟨W1, hW1⟩ : ∃ W1, W0.alloc (.cells #[.string ow, .string fi, .int .i64 ep, .slice A rd.length ca, .slice C wr.length cb, .int .u64 ver, .string root, .slice D sg.length cd, .bool false] 111) = W1 := ⟨_, rfl⟩
      have hbW1 : Below W0.heap.size W0 W1 := by rw [← hW1]; exact (Below.refl _ W0).alloc (Nat.le_refl _) _
      have hs1 : W1.heap.size = B + 2 := by rw [← hW1, size_alloc, hs0]
      have hr1 : W1.heap[B]? = some (.cells #[.string ⟨#[]⟩, .string ⟨#[]⟩, .int .i64 0, .slice none 0 0, .slice none 0 0, .int .u64 0, .string ⟨#[]⟩, .slice none 0 0, .bool false] 111 (0, 0)) := (Keep.of_below (F := fun _ => False) hbW1).at HR0.out fun e => e
      have HO := Lib.hid (own_calls W1 ⟨⟨ow, fi, ep, rd, wr⟩, ver, root, sg, false⟩ _ _ _ (HL.out.below hbW1) (by dsimp only; omega) (by dsimp only; omega) (by dsimp only; omega))
      have HB1 := Lib.hid (HB0.out.trans (hbW1.mono (by omega)))
      have HR1 := Lib.hid hr1
      rw [← hW1] at HO
      have HW1 := Lib.hid hW1
      clear hW1
      clear hbW1 hr1
      go_enter Tryz.func77, Tryz.ntmps77
      go_wp2_with fail
      refine HO.out.mono ?_
      rintro e w2 ⟨vr2, vw2, vs2, rfl, ho2, hb2⟩
      rw [HW1.out] at ho2 hb2
      have HO2 := Lib.hid ho2
      have HB2 := Lib.hid hb2
      obtain ⟨A2, ca2, rfl, _, _⟩ := own_slice ho2.rd
      obtain ⟨C2, cb2, rfl, _, _⟩ := own_slice ho2.wr
      obtain ⟨D2, cd2, rfl, _, _⟩ := own_slice ho2.sg
      have hr2 := (Keep.of_below (F := fun _ => False) hb2).at HR1.out fun e => e
      have HR2 := Lib.hid hr2
      clear ho2 hb2 hr2 hlook c0 c1 c2 c3 c4
      go_wp2_with (with_reducible refine wp_stop_store (o := ⟨none, .store _ (.tmp 4) _, _, _, _, _⟩) _ _ _ rfl ?_)
      unfold Stop
      refine wp_store_all rfl _ _ _ rfl rfl rfl _ _ HR2.out info_ow rfl (by simp [Value.oneCell']) ?_
      intro w3 h3 k3 s3'
      have HF : Hid (OOwn w3 w.heap.size ⟨⟨ow, fi, ep, rd, wr⟩, ver, root, sg, false⟩ (.slice A2 rd.length ca2) (.slice C2 wr.length cb2) (.slice D2 sg.length cd2) ∧ Below w.heap.size w w3) := Lib.hid (by
        rw [HB.out]
        have hle : B ≤ W1.heap.size := by omega
        refine ⟨⟨?_, ?_, ?_⟩, ?_⟩
        · exact own_lower (k3.own HO2.out.rd fun b hb e => by have := own_new HO2.out.rd b hb; omega) hle
        · exact own_lower (k3.own HO2.out.wr fun b hb e => by have := own_new HO2.out.wr b hb; omega) hle
        · exact own_lower (k3.own HO2.out.sg fun b hb e => by have := own_new HO2.out.sg b hb; omega) hle
        · have h5 : Below w.heap.size w w2 := HB.out ▸ (HB1.out.trans (HB2.out.mono hle))
          have := below_keep h5 (by rw [HB.out]; exact k3)
          rw [HB.out] at this; exact this)
      obtain ⟨c0, c1, c2, c3, c4, c5, c6, c7, c8⟩ := row9 h3
      clear h3 k3 s3'
      go_wp2_with fail
      refine bodyPost_ret (v := .tuple #[agO ⟨⟨ow, fi, ep, rd, wr⟩, ver, root, sg, false⟩ (.slice A2 rd.length ca2) (.slice C2 wr.length cb2) (.slice D2 sg.length cd2), .int .i64 0]) (by simp [results, Tryz.results77, go_sem, c0, c1, c2, c3, c4, c5, c6, c7, c8]) rfl ⟨HF.out.2, _, _, _, rfl, HF.out.1⟩
end Go.Proofs.YtckblcfkajpofaaGreatDoor
namespace Go.Proofs.YtckblcfkajpofaaGreatDoor
open Go Go.RowKit
section
variable {P : Program} {ops : Array Oper} {md : Region.Mode} {Q : Exit → Act → World → Prop} {S : World → Prop} {ts : List Nat}
/-- either of two may come up -/
theorem wpAnyG_two (i j : Nat) {oi oj : Oper} {fuel : Nat} {listed : Array Bool} {a : Act} {w : World} (hi : ops[i]? = some oi) (hj : ops[j]? = some oj) (hr : Region.ready md ops listed = [i, j])
    (h1 : ∀ K : Act → World → Prop, Hid (∀ a' w', (tailed ts (listed.setIfInBounds i true) = true ∨ S w') → wpAnyG P md ops Q S ts fuel (listed.setIfInBounds i true) a' w' → K a' w') →
      if Region.wanted oi (yielded ops a.tmps) = true then Oper.wp P oi a w K Q else K (a.put oi.dst undef) w)
    (h2 : ∀ K : Act → World → Prop, Hid (∀ a' w', (tailed ts (listed.setIfInBounds j true) = true ∨ S w') → wpAnyG P md ops Q S ts fuel (listed.setIfInBounds j true) a' w' → K a' w') →
      if Region.wanted oj (yielded ops a.tmps) = true then Oper.wp P oj a w K Q else K (a.put oj.dst undef) w) : wpAnyG P md ops Q S ts (fuel + 1) listed a w := by
  refine ⟨fun h0 => (by rw [hr] at h0; cases h0), fun k hk => ?_⟩
  rw [hr] at hk
  have hkk : k = i ∨ k = j := by simpa using hk
  rcases hkk with rfl | rfl
  · have := h1 (fun a' w' => (tailed ts (listed.setIfInBounds k true) = true ∨ S w') ∧ wpAnyG P md ops Q S ts fuel (listed.setIfInBounds k true) a' w') (Lib.hid fun a' w' h1 h2 => ⟨h1, h2⟩)
    unfold wpOp
    simp only [hi]
    split
    · rename_i hw; rw [if_pos hw] at this; exact .inl this
    · rename_i hw; rw [if_neg hw] at this; exact this
  · have := h2 (fun a' w' => (tailed ts (listed.setIfInBounds k true) = true ∨ S w') ∧ wpAnyG P md ops Q S ts fuel (listed.setIfInBounds k true) a' w') (Lib.hid fun a' w' h1 h2 => ⟨h1, h2⟩)
    unfold wpOp
    simp only [hj]
    split
    · rename_i hw; rw [if_pos hw] at this; exact .inl this
    · rename_i hw; rw [if_neg hw] at this; exact this
theorem step_store_all {o : Oper} {a : Act} {w : World} {K : Act → World → Prop} {E : Prop} (hg : o.guard = none) (p v : Operand) (t : TypeId) (hop : o.op = Op.store t p v) {g : Nat} {c : Array Value} (hp : a.eval p = .pointer (some ⟨g, 0, none⟩)) (hv : a.eval v = .agg c) (cur : Array Value) (t' : TypeId) (hb : w.heap[g]? = some (.cells cur t' (0, 0)))
    (hi : (P.info? t).map (·.size) = some c.size) (hl : c.size = cur.size) (h1 : c.all (·.oneCell') = true)
    (hK : ∀ w2, w2.heap[g]? = some (.cells c t' (0, 0)) → Keep (fun k => k = g) w w2 → w2.heap.size = w.heap.size → K (a.put o.dst undef) w2) :
    if Region.wanted o (yielded ops a.tmps) = true then Oper.wp P o a w K Q else E := by
  have hw : Region.wanted o (yielded ops a.tmps) = true := by simp [Region.wanted, hg]
  rw [if_pos hw]
  have hrun := run_storeAt_row (P := P) w t t' g 0 cur c hb hi (by omega) h1
  rw [rowPut_all cur c hl] at hrun
  unfold Oper.wp
  simp [execOp, hop, hp, hv, hrun, Result.andThen]
  exact hK _ (setRow_heap w g cur _ t' _ hb) (Keep.setRow w g _) (by simp)
theorem step_upd {κ : Type} [DecidableEq κ] {mk : κ → Value} {kt : TypeId} {o : Oper} {a : Act} {w : World} {Kc : Act → World → Prop} {E : Prop} (hg : o.guard = none) (m x v : Operand) (t : TypeId) (hop : o.op = Op.mapUpdate t m x v) (K : MK P kt mk) (et : TypeId) (ht : P.underlying t = some (.map kt et)) (b : Nat) (l : List (κ × Value))
    (hm : a.eval m = .map (some b)) (h : smap w mk b l) (k : κ) (hx : a.eval x = mk k) (val : Value) (hv : a.eval v = val)
    (hK : ∀ w', smap w' mk b (aput l k val) → w.grownBy w' (some b) → w'.heap.size = w.heap.size → Kc (a.put o.dst undef) w') :
    if Region.wanted o (yielded ops a.tmps) = true then Oper.wp P o a w Kc Q else E := by
  have hw : Region.wanted o (yielded ops a.tmps) = true := by simp [Region.wanted, hg]
  rw [if_pos hw]
  obtain ⟨w', hrun, r1, r2, r3⟩ := h.upd K ht k val
  unfold Oper.wp
  simp [execOp, hop, hm, hx, hv, hrun, Result.andThen]
  exact hK w' r1 r2 r3
end
end Go.Proofs.YtckblcfkajpofaaGreatDoor
namespace Go.Proofs.YtckblcfkajpofaaGreatDoor
open Go.RowKit Go.Sort
set_option linter.unusedVariables false
set_option linter.unusedSimpArgs false

def pathB (o f : ByteArray) : ByteArray := o ++ ⟨#[47]⟩ ++ f
set_option maxHeartbeats 1000000 in
theorem path_calls (w : World) (o f : ByteArray) (hT : Tabs w) (ho : nameR o = true) (hf : nameR f = true) :
    Calls Tryz.prog 194 #[.string o, .string f] w fun e w' => e = .returned (.tuple #[.string (pathB o f), .int .i64 0]) ∧ Below w.heap.size w w' := by
  have h1 := nameR_size ho
  have h2 := nameR_size hf
  have HT := Lib.hid hT
  have c1 := right_calls o w (by omega) hT
  rw [ho] at c1
  have HP : Hid (pathB o f = o ++ ⟨#[47]⟩ ++ f) := Lib.hid rfl
  have HF := Lib.hid hf
  clear hT ho hf
  go_enter Tryz.func194, Tryz.ntmps194
  go_wp2_with fail
  refine c1.mono ?_
  rintro e w1 ⟨rfl, hb⟩
  have HB := Lib.hid hb
  have c2 := right_calls f w1 (by omega) (HT.out.below hb)
  rw [HF.out] at c2
  clear hb c1
  go_wp2_with fail
  refine c2.mono ?_
  rintro e w2 ⟨rfl, hb⟩
  have HB2 := Lib.hid (HB.out.trans (hb.mono HB.out.size))
  clear hb c2
  go_wp2_with fail
  go_ret2
  exact ⟨by rw [HP.out]; rfl, HB2.out⟩
theorem below_at {w w1 w2 : World} {g : Nat} (h : Below w.heap.size w w1) (k : Keep (fun i => i = g) w1 w2) (hg : w.heap.size ≤ g) : Below w.heap.size w w2 :=
  ((Keep.of_below h (F := fun k => w.heap.size ≤ k)).trans k fun i hi => Or.inr (by omega)).new
theorem UsAt.put {w w' : World} {U : Us} {F F' : Nat → Prop} {p d b m : Nat} {rows : List (ByteArray × Rw)} (h : UsAt w U F p d b m rows) {k : ByteArray} {r : Rw} (hm : smap w' Value.string m (aput (amap Rw.val rows) k r.val)) (hg : w.grownBy w' (some m)) (hl : OLists w r.o r.vr r.vw r.vs) (ho : r.off F' p d b m)
    (h1 : ∀ i, F i → F' i) (h2 : ∀ i, F' i → i < w.heap.size) (h3 : ¬ F' (Tryz.laysValid_ren.g 3)) (h4 : ¬ F' (Tryz.laysValid_ren.g 4)) : UsAt w' { U with files := aput U.files k r.o } F' p d b m (aput rows k r) := by
  have kp : Keep (fun i => i = m) w w' := Keep.of_grown hg fun i hi => by cases hi; rfl
  refine ⟨kp.at h.row (Ne.symm h.mp), h.drs.keep kp (Ne.symm h.md) (Ne.symm h.mb), by rw [aput_amap] at hm; exact hm, by show aput U.files k r.o = _; rw [h.files, aput_amap], fun k' r' hr => ?_, fun k' r' hr => ?_, h1 _ h.fp, h1 _ h.fd, h1 _ h.fb, h1 _ h.fm, fun i hi => Nat.lt_of_lt_of_le (h2 i hi) kp.size, h3, h4⟩
  · rw [aget_aput] at hr
    split at hr
    · cases hr; exact hl.keep kp fun g hg e => (ho g hg).2.2.2.2 e
    · exact (h.lists k' r' hr).keep kp fun g hg e => (h.off k' r' hr g hg).2.2.2.2 e
  · rw [aget_aput] at hr
    split at hr
    · cases hr; exact ho
    · exact fun g hg => ⟨h1 _ (h.off k' r' hr g hg).1, (h.off k' r' hr g hg).2⟩
def Us.made (U : Us) (f : ByteArray) (v : Nat) : Us := { U with
  drew := U.drew + 2
  files := aput U.files f ⟨⟨U.name, f, 0, [], []⟩, (v + 1) % 18446744073709551616, secT ⟨#[114, 111, 111, 116]⟩ (pathB U.name f) (drawN U.seed U.drew), [secT ⟨#[115, 105, 103, 110]⟩ (pathB U.name f) (drawN U.seed (U.drew + 1))], false⟩ }
def Us.create (U : Us) (f : ByteArray) : Us × Int :=
  if nameR f = false then (U, 3) else match aget U.files f with
    | some o => if o.gone = false then (U, 5) else if 8 ≤ U.list.length then (U, 10) else (U.made f o.ver, 0)
    | none => if 8 ≤ U.list.length then (U, 10) else (U.made f 0, 0)
def UsRet (w : World) (r : Us × Int) (F : Nat → Prop) (p d b m : Nat) (e : Ending) (w' : World) : Prop :=
  e = .returned (.int .i64 r.2) ∧ ∃ F' rows, UsAt w' r.1 F' p d b m rows ∧ Keep F w w' ∧ (∀ i, F i → F' i) ∧ ∀ i, F' i → F i ∨ w.heap.size ≤ i
theorem UsRet.same {w w' : World} {U : Us} {F : Nat → Prop} {p d b m : Nat} {rows : List (ByteArray × Rw)} (h : UsAt w U F p d b m rows) (hb : Below w.heap.size w w') (n : Int) : UsRet w (U, n) F p d b m (.returned (.int .i64 n)) w' :=
  ⟨rfl, F, rows, h.below hb, Keep.of_below hb, fun _ e => e, fun _ e => Or.inl e⟩
set_option maxRecDepth 100000 in
set_option maxHeartbeats 4000000 in
theorem create_walk {w : World} {U : Us} {F : Nat → Prop} {p d b m : Nat} {rows : List (ByteArray × Rw)} (h : UsAt w U F p d b m rows) (hok : U.ok) (hT : Tabs w) (hd : U.drew ≤ 90000) (f : ByteArray) (hn : nameR f = true)
    (s0 s1 s2 : ByteArray) (e0 : Int) (A1 A2 A3 : Option Addr) (n1 n2 n3 q1 q2 q3 v : Nat) (g ev : Bool) (hv : v < 18446744073709551616) (hc : ev = g ∨ (ev = true ∧ g = false))
    (hlook : ∀ W, Below w.heap.size w W → (Instr.lookup 160 (.map (some m)) (.string f) true).run Tryz.prog W = .ok (.tuple #[.agg #[.string s0, .string s1, .int .i64 e0, .slice A1 n1 q1, .slice A2 n2 q2, .int .u64 v, .string s2, .slice A3 n3 q3, .bool g], .bool ev]) W) :
    Calls Tryz.prog 88 #[.pointer (some ⟨p, 0, none⟩), .string f] w fun e w' => UsRet w (if (ev && !g) = true then (U, 5) else if 8 ≤ U.list.length then (U, 10) else (U.made f v, 0)) F p d b m e w' := by
  obtain ⟨c0, c1, c2, c3, c4⟩ := h.cells
  have hns := nameR_size hok.name
  have hfs := nameR_size hn
  have hnew := new_calls w U.name f (by omega) (by omega) hT
  have HU := Lib.hid h
  have HOK := Lib.hid hok
  have HT := Lib.hid hT
  have HLK := Lib.hid hlook
  obtain ⟨G, hG⟩ : ∃ G, (if (ev && !g) = true then (U, (5 : Int)) else if 8 ≤ U.list.length then (U, 10) else (U.made f v, 0)) = G := ⟨_, rfl⟩
  rw [hG]
  have hnr : newR U.name f = (⟨U.name, f, 0, [], []⟩, 0) := by unfold newR; rw [hn, HOK.out.name]; rfl
  rw [hnr] at hnew
  simp only [] at hnew
  have HN := Lib.hid hnew
  have HNM := Lib.hid hn
  have HG := Lib.hid hG
  clear hnr hnew hn hok hT hlook hG
  go_enter Tryz.func88, Tryz.ntmps88
  go_wp2_with fail
  refine HN.out.mono ?_
  rintro e w1 ⟨rfl, hb⟩
  have hbA := hb.alloc hb.size (.cells #[.string ⟨#[]⟩, .string ⟨#[]⟩, .int .i64 0, .slice none 0 0, .slice none 0 0] 39)
  have HBA := Lib.hid hbA
  have hwR : w.heap.size ≤ w1.heap.size := hb.size
  clear hb hbA
  go_wp2_with (with_reducible refine wp_stop_store (o := ⟨none, .store _ (.tmp 5) _, _, _, _, _⟩) _ _ _ rfl ?_)
  unfold Stop
  refine wp_store_all rfl _ _ _ rfl rfl rfl _ _ ((get_alloc _ _ _).trans (if_pos rfl)) info_rt rfl (by simp [Value.oneCell']) ?_
  intro w2 h2 k2 s2
  obtain ⟨R, hR⟩ : ∃ R, w1.heap.size = R := ⟨_, rfl⟩
  rw [size_alloc] at s2
  rw [hR] at h2 k2 s2 hwR ⊢
  have hb2 : Below w.heap.size w w2 := below_at HBA.out k2 hwR
  have hU2 := HU.out.below hb2
  have HU2 := Lib.hid hU2
  have HB2 := Lib.hid hb2
  have HR2 := Lib.hid h2
  have hlook2 := HLK.out _ hb2
  clear c0 c1 c2 c3 c4 hR
  obtain ⟨c0, c1, c2, c3, c4⟩ := hU2.cells
  clear h2 k2 hU2 hb2
  go_wp2_with (with_reducible refine wp_stop_store (o := ⟨none, .store _ (.tmp 7) _, _, _, _, _⟩) _ _ _ rfl ?_)
  unfold Stop
  refine wp_store_all rfl _ _ _ rfl rfl rfl _ _ ((get_alloc _ _ _).trans (if_pos s2.symm)) info_ow rfl (by simp [Value.oneCell']) ?_
  intro w3 h3 k3 s3
  rw [size_alloc, s2] at s3
  have hb3 : Below w.heap.size w w3 := below_at (HB2.out.alloc HB2.out.size _) k3 (by omega)
  have hU3 := HU.out.below hb3
  have HU3 := Lib.hid hU3
  have HB3 := Lib.hid hb3
  have hR3 := k3.at ((Keep.alloc (fun _ => False) w2 _).at HR2.out fun e => e) (by omega)
  have HRR3 := Lib.hid hR3
  have HR3 := Lib.hid h3
  clear c0 c1 c2 c3 c4 hlook2 k3
  obtain ⟨e0', e1', e2', e3', e4', e5', e6', e7', e8'⟩ := row9 h3
  clear h3 hb3 hR3
  obtain ⟨c0, c1, c2, c3, c4⟩ := hU3.cells
  clear hU3
  cases hq : (ev && !g) with
  | true =>
    have HE : Hid (G = (U, 5)) := Lib.hid (by rw [← HG.out, hq]; rfl)
    rw [Bool.and_eq_true] at hq
    obtain ⟨rfl, hg2⟩ := hq
    obtain rfl : g = false := by simpa using hg2
    clear hg2
    go_wp2_with fail
    go_ret
    rw [HE.out]
    exact UsRet.same HU.out HB3.out _
  | false =>
    have HE : Hid (G = if 8 ≤ U.list.length then (U, 10) else (U.made f v, 0)) := Lib.hid (by rw [← HG.out, hq]; rfl)
    have hFL := files_calls HU3.out (by have := HOK.out.len; omega) (by
      intro k hk
      obtain ⟨o, ho⟩ := Option.isSome_iff_exists.1 (aget_isSome.2 hk)
      have hf := HOK.out.all k o ho
      have h1 := (Rt.right_good hf.right).file
      rw [hf.file] at h1; omega)
    obtain rfl : ev = g := by
      rcases hc with hc | ⟨rfl, rfl⟩
      · exact hc
      · cases hq
    clear hq hc
    have HFL := Lib.hid hFL
    clear hFL
    go_upto_region 5 with fail
    go_cut [33] from 34 to 39 (fun c wx => c = .bool false ∧ wx = w3)
    case first =>
      cases ev
      all_goals (go_wp2_with fail; go_meet; exact ⟨rfl, rfl⟩)
    case rest =>
      obtain ⟨rfl, rfl⟩ := hcut
      go_wp2_with fail
      refine HFL.out.mono ?_
      rintro e w4 ⟨vl, rfl, hl4, hb4⟩
      have HB4 := Lib.hid (HB3.out.trans (hb4.mono HB3.out.size))
      have HU4 := Lib.hid (HU3.out.below hb4)
      have hR4 := (Keep.of_below (F := fun _ => False) hb4).at HR3.out fun e => e
      have hRR4 := (Keep.of_below (F := fun _ => False) hb4).at HRR3.out fun e => e
      have HR4 := Lib.hid hR4
      have HRR4 := Lib.hid hRR4
      obtain ⟨Al, cl, rfl, _, _⟩ := own_slice hl4
      obtain ⟨nl, hnl⟩ : ∃ nl, U.list.length = nl := ⟨_, rfl⟩
      rw [hnl] at HE ⊢
      clear hb4 hl4 hR4 hRR4 c0 c1 c2 c3 c4 e0' e1' e2' e3' e4' e5' e6' e7' e8'
      obtain ⟨c0, c1, c2, c3, c4⟩ := HU4.out.cells
      by_cases h8 : 8 ≤ nl
      · rw [if_pos h8] at HE
        go_wp2_with fail
        go_ret
        rw [HE.out]
        exact UsRet.same HU.out HB4.out _
      · rw [if_neg h8] at HE
        have hP := path_calls w4 U.name f (HT.out.below HB4.out) HOK.out.name HNM.out
        have hpz : (pathB U.name f).size ≤ 1000000 := by unfold pathB; rw [ByteArray.size_append, ByteArray.size_append]; have : (⟨#[47]⟩ : ByteArray).size = 1 := rfl; omega
        obtain ⟨pa, hpa⟩ : ∃ pa, pathB U.name f = pa := ⟨_, rfl⟩
        rw [hpa] at hP hpz
        have HP := Lib.hid hP
        have HPA := Lib.hid hpa
        clear hnl hP hpa
        go_wp2_with fail
        refine HP.out.mono ?_
        rintro e w5 ⟨rfl, hb5⟩
        have HB5 := Lib.hid (HB4.out.trans (hb5.mono HB4.out.size))
        have HU5 := Lib.hid (HU4.out.below hb5)
        have hR5 := (Keep.of_below (F := fun _ => False) hb5).at HR4.out fun e => e
        have hRR5 := (Keep.of_below (F := fun _ => False) hb5).at HRR4.out fun e => e
        have HR5 := Lib.hid hR5
        have HRR5 := Lib.hid hRR5
        clear hb5 hR5 hRR5 c0 c1 c2 c3 c4
        go_upto_region 10 with fail
        go_cut [11] from 54 to 61 (fun q wx => ∃ Z, q = .pointer (some ⟨Z, 0, none⟩) ∧ w.heap.size ≤ Z ∧ Hid (UsAt wx { U with drew := U.drew + 1 } F p d b m rows ∧ Keep F w wx ∧ wx.heap[Z]? = some (.cells #[.string U.name, .string f, .int .i64 0, .slice none 0 0, .slice none 0 0, .int .u64 (((v + 1) % 18446744073709551616 : Nat) : Int), .string (secT ⟨#[114, 111, 111, 116]⟩ pa (drawN U.seed U.drew)), .slice none 0 0, .bool false] 111 (0, 0))))
        case first =>
          have hwr : IntKind.u64.wrap ((v : Int) + 1) = (((v + 1) % 18446744073709551616 : Nat) : Int) := by rw [IntKind.wrap_u64]; omega
          obtain ⟨v2, hv2⟩ : ∃ v2, (v + 1) % 18446744073709551616 = v2 := ⟨_, rfl⟩
          rw [hv2] at hwr
          have HV2 := Lib.hid hv2
          obtain ⟨rt, hrt⟩ : ∃ rt, secT ⟨#[114, 111, 111, 116]⟩ pa (drawN U.seed U.drew) = rt := ⟨_, rfl⟩
          have HRT := Lib.hid hrt
          have hlt : ∀ i, F i → i < R := fun i hi => Nat.lt_of_lt_of_le (HU.out.lt i hi) hwR
          have hDC : ∀ W, UsAt W U F p d b m rows → Calls Tryz.prog 120 #[.pointer (some ⟨p, 0, none⟩), .string ⟨#[114, 111, 111, 116]⟩, .string pa] W fun e w' => e = .returned (.string rt) ∧ UsAt w' { U with drew := U.drew + 1 } F p d b m rows ∧ Keep (fun i => i = d ∨ i = b) W w' := by
            intro W hW
            have := drawn_calls hW (by omega) ⟨#[114, 111, 111, 116]⟩ pa (by decide) hpz
            rw [hrt] at this; exact this
          have HDC := Lib.hid hDC
          have HLT := Lib.hid hlt
          clear hDC hrt hv2 hlt
          refine wp_region_G (fun w' => (w'.cell? ⟨R, 0, none⟩ = some (.string U.name) ∧ w'.cell? ⟨R, 1, none⟩ = some (.string f) ∧ w'.cell? ⟨R, 2, none⟩ = some (.int .i64 0) ∧ w'.cell? ⟨R, 3, none⟩ = some (.slice none 0 0) ∧ w'.cell? ⟨R, 4, none⟩ = some (.slice none 0 0)) ∧ w'.cell? ⟨R + 1, 5, none⟩ = some (.int .u64 v)) [9] (by kernel_rfl) ?_
          have hrow : w5.drew.heap[R]? = _ := HRR5.out
          have hrow9 : w5.drew.heap[R + 1]? = _ := HR5.out
          have hS : (w5.drew.cell? ⟨R, 0, none⟩ = some (.string U.name) ∧ w5.drew.cell? ⟨R, 1, none⟩ = some (.string f) ∧ w5.drew.cell? ⟨R, 2, none⟩ = some (.int .i64 0) ∧ w5.drew.cell? ⟨R, 3, none⟩ = some (.slice none 0 0) ∧ w5.drew.cell? ⟨R, 4, none⟩ = some (.slice none 0 0)) ∧ w5.drew.cell? ⟨R + 1, 5, none⟩ = some (.int .u64 v) := ⟨row5 hrow, (row9 hrow9).2.2.2.2.2.1⟩
          refine wpAnyG_take (ws := [0,2]) (i := 0) (v := ?va0) at0 (by kernel_rfl) (fun _ _ _ h => h) (Or.inl ⟨by rfl, ?ha0⟩) (by assumption) ?ra0
          case ha0 => (intro w hSw; (try dsimp only at hSw); go_simp; try with_reducible rfl)
          case' ra0 => skip
          try simp only [Act.put, List.setIfInBounds_toArray, List.set_cons_zero, List.set_cons_succ]
          refine wpAnyG_pure (i := 1) (v := ?va1) at1 (by kernel_rfl) (fun _ _ _ h => h) (Or.inl ⟨by rfl, ?ha1⟩) (Or.inr (by assumption)) ?ra1
          case ha1 => (intro w hSw; (try dsimp only at hSw); go_simp; try with_reducible rfl)
          case' ra1 => skip
          try simp only [Act.put, List.setIfInBounds_toArray, List.set_cons_zero, List.set_cons_succ]
          refine wpAnyG_take (ws := [0,2]) (i := 2) (v := ?va2) at2 (by kernel_rfl) (fun _ _ _ h => h) (Or.inl ⟨by rfl, ?ha2⟩) (by assumption) ?ra2
          case ha2 => (intro w hSw; (try dsimp only at hSw); go_simp; try with_reducible rfl)
          case' ra2 => skip
          try simp only [Act.put, List.setIfInBounds_toArray, List.set_cons_zero, List.set_cons_succ]
          refine wpAnyG_pure (i := 3) (v := ?va3) at3 (by kernel_rfl) (fun _ _ _ h => h) (Or.inl ⟨by rfl, ?ha3⟩) (Or.inr (by assumption)) ?ra3
          case ha3 => (intro w hSw; (try dsimp only at hSw); go_simp; try with_reducible rfl)
          case' ra3 => skip
          try simp only [Act.put, List.setIfInBounds_toArray, List.set_cons_zero, List.set_cons_succ]
          refine wpAnyG_pure (i := 4) (v := ?va4) at4 (by kernel_rfl) (fun _ _ _ h => h) (Or.inl ⟨by rfl, ?ha4⟩) (Or.inr (by assumption)) ?ra4
          case ha4 => (intro w hSw; (try dsimp only at hSw); go_simp; try with_reducible rfl)
          case' ra4 => skip
          try simp only [Act.put, List.setIfInBounds_toArray, List.set_cons_zero, List.set_cons_succ]
          refine wpAnyG_pure (i := 5) (v := ?va5) at5 (by kernel_rfl) (fun _ _ _ h => h) (Or.inl ⟨by rfl, ?ha5⟩) (Or.inr (by assumption)) ?ra5
          case ha5 => (intro w hSw; (try dsimp only at hSw); go_simp; try with_reducible rfl)
          case' ra5 => skip
          try simp only [Act.put, List.setIfInBounds_toArray, List.set_cons_zero, List.set_cons_succ]
          have HZ : Hid (∀ (W : World) (Z : Nat), w.heap.size ≤ Z → UsAt W { U with drew := U.drew + 1 } F p d b m rows → Keep F w W → W.heap[Z]? = some (.cells #[.string U.name, .string f, .int .i64 0, .slice none 0 0, .slice none 0 0, .int .u64 (v2 : Int), .string rt, .slice none 0 0, .bool false] 111 (0, 0)) → w.heap.size ≤ Z ∧ Hid (UsAt W { U with drew := U.drew + 1 } F p d b m rows ∧ Keep F w W ∧ W.heap[Z]? = some (.cells #[.string U.name, .string f, .int .i64 0, .slice none 0 0, .slice none 0 0, .int .u64 (((v + 1) % 18446744073709551616 : Nat) : Int), .string (secT ⟨#[114, 111, 111, 116]⟩ pa (drawN U.seed U.drew)), .slice none 0 0, .bool false] 111 (0, 0)))) := Lib.hid fun W Z h1 h2 h3 h4 => ⟨h1, Lib.hid ⟨h2, h3, by rw [HV2.out, HRT.out]; exact h4⟩⟩
          have HKD : Hid (∀ {W1 W2 : World}, Keep F w W1 → Keep (fun i => i = d ∨ i = b) W1 W2 → Keep F w W2) := Lib.hid fun h1 h2 => h1.same (h2.mono fun i hi => by rcases hi with rfl | rfl; exact HU.out.fd; exact HU.out.fb)
          have hdR : d < R := HLT.out _ HU.out.fd
          have hbR : b < R := HLT.out _ HU.out.fb
          have h5s : R + 1 < w5.heap.size := (Array.getElem?_eq_some_iff.1 HR5.out).1
          refine wpAnyG_two 6 8 at6 at8 (by kernel_rfl) (fun Kn hK => ?_) (fun Kn hK => ?_)
          · go_simp
            refine (HDC.out w5.drew (HU5.out.below (Below.refl _ w5).drew)).mono ?_
            rintro e w6 ⟨rfl, hU6, hk6⟩
            have hr6 := hk6.at hrow (by omega)
            have hr96 := hk6.at hrow9 (by omega)
            refine hK.out _ _ (Or.inr ⟨row5 hr6, (row9 hr96).2.2.2.2.2.1⟩) ?_
            have HU6 := Lib.hid hU6
            have HK6 : Hid (Keep F w w6) := Lib.hid (HKD.out ((Keep.of_below HB5.out).same (Keep.drew F w5)) hk6)
            have hS6 := (⟨row5 hr6, (row9 hr96).2.2.2.2.2.1⟩ : (w6.cell? ⟨R, 0, none⟩ = some (.string U.name) ∧ w6.cell? ⟨R, 1, none⟩ = some (.string f) ∧ w6.cell? ⟨R, 2, none⟩ = some (.int .i64 0) ∧ w6.cell? ⟨R, 3, none⟩ = some (.slice none 0 0) ∧ w6.cell? ⟨R, 4, none⟩ = some (.slice none 0 0)) ∧ w6.cell? ⟨R + 1, 5, none⟩ = some (.int .u64 v))
            have HR6 := Lib.hid hr6
            have HR96 := Lib.hid hr96
            have HS6 := Lib.hid hk6.size
            clear hK Kn hU6 hk6 hr6 hr96 hS
            try simp only [Act.put, List.setIfInBounds_toArray, List.set_cons_zero, List.set_cons_succ]
            have hS := hS6
            refine wpAnyG_pure (i := 7) (v := ?vb7) at7 (by kernel_rfl) (fun _ _ _ h => h) (Or.inl ⟨by rfl, ?hb7⟩) (Or.inr (by assumption)) ?rb7
            case hb7 => (intro w hSw; (try dsimp only at hSw); go_simp; try with_reducible rfl)
            case' rb7 => skip
            try simp only [Act.put, List.setIfInBounds_toArray, List.set_cons_zero, List.set_cons_succ]
            refine wpAnyG_one 8 at8 (by kernel_rfl) (fun Kn hK => ?_)
            go_simp
            refine hK.out _ _ (Or.inr ⟨row5 ((Keep.alloc (fun _ => False) w6 _).at HR6.out fun e => e), (row9 ((Keep.alloc (fun _ => False) w6 _).at HR96.out fun e => e)).2.2.2.2.2.1⟩) ?_
            clear hK Kn hS hS6
            try simp only [Act.put, List.setIfInBounds_toArray, List.set_cons_zero, List.set_cons_succ]
            refine wpAnyG_one 9 at9 (by kernel_rfl) (fun Kn hK => ?_)
            refine step_store_all rfl _ _ _ rfl rfl rfl _ _ ((get_alloc _ _ _).trans (if_pos rfl)) info_ow rfl (by simp [Value.oneCell']) ?_
            intro w7 h7 k7 s7
            refine hK.out _ _ (Or.inl (by kernel_rfl)) ?_
            have h56 : w5.heap.size ≤ w6.heap.size := HS6.out
            have hFin := HZ.out w7 w6.heap.size (by omega) ((HU6.out.below ((Below.refl _ w6).alloc (Nat.le_refl _) _)).keep k7 fun i hi e => by have := HLT.out i hi; omega) ((HK6.out.same (Keep.alloc F w6 _)).trans k7 fun i hi => Or.inr (by omega)) h7
            clear hK Kn h7 k7 s7
            refine wpAnyG_done (by kernel_rfl) ?_
            try simp only [Act.put, List.setIfInBounds_toArray, List.set_cons_zero, List.set_cons_succ]
            go_wp2_with fail
            go_meet
            exact ⟨_, rfl, hFin⟩
          · go_simp
            refine hK.out _ _ (Or.inr ⟨row5 ((Keep.alloc (fun _ => False) w5.drew _).at hrow fun e => e), (row9 ((Keep.alloc (fun _ => False) w5.drew _).at hrow9 fun e => e)).2.2.2.2.2.1⟩) ?_
            clear hK Kn hS
            try simp only [Act.put, List.setIfInBounds_toArray, List.set_cons_zero, List.set_cons_succ]
            refine wpAnyG_one 6 at6 (by kernel_rfl) (fun Kn hK => ?_)
            go_simp
            refine (HDC.out _ ((HU5.out.below (Below.refl _ w5).drew).below ((Below.refl _ w5.drew).alloc (Nat.le_refl _) _))).mono ?_
            rintro e w6 ⟨rfl, hU6, hk6⟩
            have hz6 := hk6.at ((get_alloc w5.drew _ _).trans (if_pos rfl)) (by show ¬ (w5.heap.size = d ∨ w5.heap.size = b); omega)
            have hr6 := hk6.at ((Keep.alloc (fun _ => False) w5.drew _).at hrow fun e => e) (by omega)
            have hr96 := hk6.at ((Keep.alloc (fun _ => False) w5.drew _).at hrow9 fun e => e) (by omega)
            have hS6 := (⟨row5 hr6, (row9 hr96).2.2.2.2.2.1⟩ : (w6.cell? ⟨R, 0, none⟩ = some (.string U.name) ∧ w6.cell? ⟨R, 1, none⟩ = some (.string f) ∧ w6.cell? ⟨R, 2, none⟩ = some (.int .i64 0) ∧ w6.cell? ⟨R, 3, none⟩ = some (.slice none 0 0) ∧ w6.cell? ⟨R, 4, none⟩ = some (.slice none 0 0)) ∧ w6.cell? ⟨R + 1, 5, none⟩ = some (.int .u64 v))
            refine hK.out _ _ (Or.inr hS6) ?_
            have HU6 := Lib.hid hU6
            have HK6 : Hid (Keep F w w6) := Lib.hid (HKD.out (((Keep.of_below HB5.out).same (Keep.drew F w5)).same (Keep.alloc F _ _)) hk6)
            have HZ6 := Lib.hid hz6
            clear hK Kn hU6 hk6 hr6 hr96 hz6
            try simp only [Act.put, List.setIfInBounds_toArray, List.set_cons_zero, List.set_cons_succ]
            have hS := hS6
            refine wpAnyG_pure (i := 7) (v := ?vc7) at7 (by kernel_rfl) (fun _ _ _ h => h) (Or.inl ⟨by rfl, ?hc7⟩) (Or.inr (by assumption)) ?rc7
            case hc7 => (intro w hSw; (try dsimp only at hSw); go_simp; try with_reducible rfl)
            case' rc7 => skip
            try simp only [Act.put, List.setIfInBounds_toArray, List.set_cons_zero, List.set_cons_succ]
            refine wpAnyG_one 9 at9 (by kernel_rfl) (fun Kn hK => ?_)
            refine step_store_all rfl _ _ _ rfl rfl rfl _ _ HZ6.out info_ow rfl (by simp [Value.oneCell']) ?_
            intro w7 h7 k7 s7
            refine hK.out _ _ (Or.inl (by kernel_rfl)) ?_
            have hFin := HZ.out w7 w5.heap.size (by omega) (HU6.out.keep k7 fun i hi e => by have := HLT.out i hi; have e2 : i = w5.heap.size := e; omega) (HK6.out.trans k7 fun i hi => Or.inr (by have e2 : i = w5.heap.size := hi; omega)) h7
            clear hK Kn h7 k7 s7 hS hS6
            refine wpAnyG_done (by kernel_rfl) ?_
            try simp only [Act.put, List.setIfInBounds_toArray, List.set_cons_zero, List.set_cons_succ]
            go_wp2_with fail
            go_meet
            exact ⟨_, rfl, hFin⟩
        case rest =>
          obtain ⟨Z, rfl, hZw, HF⟩ := hcut
          obtain ⟨hU6, hK6, hZ6⟩ := HF.out
          have hd6 := drawn_calls hU6 (by dsimp only; omega) ⟨#[115, 105, 103, 110]⟩ pa (by decide) hpz
          dsimp only at hd6
          have HD6 := Lib.hid hd6
          have HZ6 := Lib.hid hZ6
          have HK6 := Lib.hid hK6
          have hFl : ∀ i, F i → i < w.heap.size := HU.out.lt
          have HFL := Lib.hid hFl
          have hdZ : ¬ (Z = d ∨ Z = b) := by have := hFl _ HU.out.fd; have := hFl _ HU.out.fb; omega
          have HFD := Lib.hid (⟨HU.out.fd, HU.out.fb, HU.out.fm⟩ : F d ∧ F b ∧ F m)
          clear hd6 hZ6 hK6 hU6 HF hFl
          go_wp2_with fail
          refine HD6.out.mono ?_
          rintro e w7 ⟨rfl, hU7, hk7⟩
          have hZ7 := hk7.at HZ6.out hdZ
          have HK7 : Hid (Keep F w w7) := Lib.hid (HK6.out.same (hk7.mono fun i hi => by rcases hi with rfl | rfl; exact HFD.out.1; exact HFD.out.2.1))
          obtain ⟨sg, hsg⟩ : ∃ sg, secT ⟨#[115, 105, 103, 110]⟩ pa (drawN U.seed (U.drew + 1)) = sg := ⟨_, rfl⟩
          obtain ⟨W8, hW8⟩ : ∃ W8, w7.alloc (.cells #[.string sg] 9) = W8 := ⟨_, rfl⟩
          have hZ8 := (Keep.alloc (fun _ => False) w7 (.cells #[.string sg] 9)).at hZ7 fun e => e
          rw [hW8] at hZ8
          have hs8 : W8.heap.size = w7.heap.size + 1 := by rw [← hW8, size_alloc]
          have hg8 : W8.heap[w7.heap.size]? = some (.cells #[.string sg] 9 (0, 0)) := by rw [← hW8, get_alloc, if_pos rfl]
          have hK8 : Keep F w W8 := by rw [← hW8]; exact HK7.out.same (Keep.alloc F _ _)
          have hU8 := hU7.below ((Below.refl _ w7).alloc (Nat.le_refl _) (.cells #[.string sg] 9))
          rw [hW8] at hU8
          obtain ⟨c0, c1, c2, c3, c4, c5, c6, c7, c8⟩ := row9 hZ8
          have f7 := frozen_of_row hZ8 7
          have hset := set_at hZ8 7 (.slice (some ⟨w7.heap.size, 0, none⟩) 1 1)
          have hkset : Keep (fun i => i = Z) W8 (W8.setCell ⟨Z, 7, none⟩ (.slice (some ⟨w7.heap.size, 0, none⟩) 1 1)) := Keep.setCell (fun i => i = Z) W8 (p := ⟨Z, 7, none⟩) rfl _
          obtain ⟨W9, hW9⟩ : ∃ W9, W8.setCell ⟨Z, 7, none⟩ (.slice (some ⟨w7.heap.size, 0, none⟩) 1 1) = W9 := ⟨_, rfl⟩
          rw [hW9] at hset hkset
          rw [hsg]
          have HU9 := Lib.hid (hU8.keep hkset fun i hi e => by have := HFL.out i hi; have e2 : i = Z := e; omega)
          have HK9 := Lib.hid (hK8.trans hkset fun i hi => Or.inr (by have e2 : i = Z := hi; omega))
          have hZlt : Z < w7.heap.size := (Array.getElem?_eq_some_iff.1 hZ7).1
          have HG9 := Lib.hid (hkset.at hg8 (by omega))
          simp at hset
          have HZ9 := Lib.hid hset
          have HSG := Lib.hid hsg
          clear hU7 hk7 hZ7 hZ8 hg8 hK8 hU8 hset hkset hsg
          go_wp2_with fail
          have hZ9 : W9.drew.heap[Z]? = _ := HZ9.out
          have hU9 := HU9.out.below (Below.refl _ W9).drew
          have HU9d := Lib.hid hU9
          have HM9 := Lib.hid hU9.map
          have hp4 := hU9.cells.2.2.2.2
          have HQ := row9 hZ9
          clear hZ9 hU9 c0 c1 c2 c3 c4 c5 c6 c7 c8 f7 hW9 hW8
          refine wp_region_G (fun w' => w'.cell? ⟨p, 4, none⟩ = some (.map (some m)) ∧ w'.cell? ⟨Z, 0, none⟩ = some (.string U.name) ∧ w'.cell? ⟨Z, 1, none⟩ = some (.string f) ∧ w'.cell? ⟨Z, 2, none⟩ = some (.int .i64 0) ∧ w'.cell? ⟨Z, 3, none⟩ = some (.slice none 0 0) ∧ w'.cell? ⟨Z, 4, none⟩ = some (.slice none 0 0) ∧ w'.cell? ⟨Z, 5, none⟩ = some (.int .u64 ((((v + 1) % 18446744073709551616 : Nat)) : Int)) ∧ w'.cell? ⟨Z, 6, none⟩ = some (.string (secT ⟨#[114, 111, 111, 116]⟩ pa (drawN U.seed U.drew))) ∧ w'.cell? ⟨Z, 7, none⟩ = some (.slice (some ⟨w7.heap.size, 0, none⟩) 1 1) ∧ w'.cell? ⟨Z, 8, none⟩ = some (.bool false)) [6] (by kernel_rfl) ?_
          have hS := And.intro hp4 HQ
          clear HQ hp4
          refine wpAnyG_pure (i := 0) (v := ?vd0) at0 (by kernel_rfl) (fun _ _ _ h => h) (Or.inl ⟨by rfl, ?hd0⟩) (Or.inr (by assumption)) ?rd0
          case hd0 => (intro w hSw; (try dsimp only at hSw); go_simp; try with_reducible rfl)
          case' rd0 => skip
          try simp only [Act.put, List.setIfInBounds_toArray, List.set_cons_zero, List.set_cons_succ]
          refine wpAnyG_pure (i := 1) (v := ?vd1) at1 (by kernel_rfl) (fun _ _ _ h => h) (Or.inl ⟨by rfl, ?hd1⟩) (Or.inr (by assumption)) ?rd1
          case hd1 => (intro w hSw; (try dsimp only at hSw); go_simp; try with_reducible rfl)
          case' rd1 => skip
          try simp only [Act.put, List.setIfInBounds_toArray, List.set_cons_zero, List.set_cons_succ]
          refine wpAnyG_pure (i := 2) (v := ?vd2) at2 (by kernel_rfl) (fun _ _ _ h => h) (Or.inl ⟨by rfl, ?hd2⟩) (Or.inr (by assumption)) ?rd2
          case hd2 => (intro w hSw; (try dsimp only at hSw); go_simp; try with_reducible rfl)
          case' rd2 => skip
          try simp only [Act.put, List.setIfInBounds_toArray, List.set_cons_zero, List.set_cons_succ]
          refine wpAnyG_take (ws := [3,5]) (i := 3) (v := ?vd3) at3 (by kernel_rfl) (fun _ _ _ h => h) (Or.inl ⟨by rfl, ?hd3⟩) (by assumption) ?rd3
          case hd3 => (intro w hSw; (try dsimp only at hSw); go_simp; try with_reducible rfl)
          case' rd3 => skip
          try simp only [Act.put, List.setIfInBounds_toArray, List.set_cons_zero, List.set_cons_succ]
          refine wpAnyG_pure (i := 4) (v := ?vd4) at4 (by kernel_rfl) (fun _ _ _ h => h) (Or.inl ⟨by rfl, ?hd4⟩) (Or.inr (by assumption)) ?rd4
          case hd4 => (intro w hSw; (try dsimp only at hSw); go_simp; try with_reducible rfl)
          case' rd4 => skip
          try simp only [Act.put, List.setIfInBounds_toArray, List.set_cons_zero, List.set_cons_succ]
          refine wpAnyG_take (ws := [3,5]) (i := 5) (v := ?vd5) at5 (by kernel_rfl) (fun _ _ _ h => h) (Or.inl ⟨by rfl, ?hd5⟩) (by assumption) ?rd5
          case hd5 => (intro w hSw; (try dsimp only at hSw); go_simp; try with_reducible rfl)
          case' rd5 => skip
          try simp only [Act.put, List.setIfInBounds_toArray, List.set_cons_zero, List.set_cons_succ]
          refine wpAnyG_one 6 at6 (by kernel_rfl) (fun Kn hK => ?_)
          refine step_upd rfl _ _ _ _ rfl lawS 111 Tryz.underlying160 m _ rfl HM9.out f rfl _ rfl ?_
          intro w10 hm10 hg10 hz10
          refine hK.out _ _ (Or.inl (by kernel_rfl)) ?_
          have hFin : Hid (UsRet w (U.made f v, 0) F p d b m (.returned (.int .i64 0)) w10) := Lib.hid (by
            have hl7 : w7.heap.size < W9.drew.heap.size := (Array.getElem?_eq_some_iff.1 HG9.out).1
            have hrow : strs W9.drew (.slice (some ⟨w7.heap.size, 0, none⟩) 1 1) [sg] := strs_own (owns_full (w := W9.drew) (l := [sg]) (B := 0) HG9.out (Nat.zero_le _) (by simp))
            have hput := HU9d.out.put (F' := fun i => F i ∨ i = w7.heap.size) (k := f) (r := ⟨⟨⟨U.name, f, 0, [], []⟩, (v + 1) % 18446744073709551616, secT ⟨#[114, 111, 111, 116]⟩ pa (drawN U.seed U.drew), [sg], false⟩, .slice none 0 0, .slice none 0 0, .slice (some ⟨w7.heap.size, 0, none⟩) 1 1⟩) hm10 hg10 ⟨⟨strs_nil _, strs_nil _⟩, hrow⟩ (by
              intro g hg
              have hgg : g = w7.heap.size := by
                rcases hg with hg | hg | hg
                · cases hg
                · cases hg
                · cases hg; rfl
              have := HFL.out _ HU.out.fp
              have := HFL.out _ HU.out.fd
              have := HFL.out _ HU.out.fb
              have := HFL.out _ HU.out.fm
              exact ⟨Or.inr hgg, by omega, by omega, by omega, by omega⟩) (fun i hi => Or.inl hi) (by
              intro i hi
              rcases hi with hi | hi
              · exact HU9d.out.lt i hi
              · omega) (by
              have := HT.out.lt.1
              rintro (hi | hi)
              · exact HU.out.t3 hi
              · omega) (by
              have := HT.out.lt.2
              rintro (hi | hi)
              · exact HU.out.t4 hi
              · omega)
            have hmade : U.made f v = { U with drew := U.drew + 2, files := aput U.files f ⟨⟨U.name, f, 0, [], []⟩, (v + 1) % 18446744073709551616, secT ⟨#[114, 111, 111, 116]⟩ pa (drawN U.seed U.drew), [sg], false⟩ } := by unfold Us.made; rw [HPA.out, HSG.out]
            rw [hmade]
            refine ⟨rfl, fun i => F i ∨ i = w7.heap.size, _, hput, ?_, fun i hi => Or.inl hi, fun i hi => ?_⟩
            · exact (HK9.out.same (Keep.drew F W9)).same (Keep.of_grown hg10 fun i hi => by cases hi; exact HFD.out.2.2)
            · rcases hi with hi | hi
              · exact Or.inl hi
              · exact Or.inr (by omega))
          clear hK Kn hS hm10 hg10 hz10
          refine wpAnyG_done (by kernel_rfl) ?_
          try simp only [Act.put, List.setIfInBounds_toArray, List.set_cons_zero, List.set_cons_succ]
          go_wp2_with fail
          go_ret
          rw [HE.out]
          exact hFin.out
set_option maxRecDepth 100000 in
set_option maxHeartbeats 1000000 in
theorem create_no {w : World} {U : Us} {F : Nat → Prop} {p d b m : Nat} {rows : List (ByteArray × Rw)} (h : UsAt w U F p d b m rows) (hok : U.ok) (hT : Tabs w) (f : ByteArray) (hf : f.size ≤ 9223372036854775807) (hn : nameR f = false) :
    Calls Tryz.prog 88 #[.pointer (some ⟨p, 0, none⟩), .string f] w fun e w' => UsRet w (U, 3) F p d b m e w' := by
  obtain ⟨c0, c1, c2, c3, c4⟩ := h.cells
  have hns := nameR_size hok.name
  have hnew := new_calls w U.name f (by omega) hf hT
  have HU := Lib.hid h
  have hnr : newR U.name f = (⟨ByteArray.empty, ByteArray.empty, 0, [], []⟩, 3) := by unfold newR; rw [hn]; simp
  rw [hnr] at hnew
  simp only [] at hnew
  have HN := Lib.hid hnew
  clear hnr hnew hn h hok hT
  go_enter Tryz.func88, Tryz.ntmps88
  go_wp2_with fail
  refine HN.out.mono ?_
  rintro e w1 ⟨rfl, hb⟩
  have HB := Lib.hid (hb.alloc hb.size (.cells #[.string ByteArray.empty, .string ByteArray.empty, .int .i64 0, .slice none 0 0, .slice none 0 0] 39))
  clear hb
  go_wp2_with fail
  go_ret
  exact UsRet.same HU.out HB.out _
theorem create_calls {w : World} {U : Us} {F : Nat → Prop} {p d b m : Nat} {rows : List (ByteArray × Rw)} (h : UsAt w U F p d b m rows) (hok : U.ok) (hT : Tabs w) (hd : U.drew ≤ 90000) (f : ByteArray) (hf : f.size ≤ 9223372036854775807) :
    Calls Tryz.prog 88 #[.pointer (some ⟨p, 0, none⟩), .string f] w fun e w' => UsRet w (U.create f) F p d b m e w' := by
  unfold Us.create
  cases hn : nameR f with
  | false => rw [if_pos rfl]; exact create_no h hok hT f hf hn
  | true =>
    rw [if_neg (by simp), h.find]
    cases hr : aget rows f with
    | none =>
      have := create_walk h hok hT hd f hn ⟨#[]⟩ ⟨#[]⟩ ⟨#[]⟩ 0 none none none 0 0 0 0 0 0 0 false false (by decide) (Or.inl rfl) fun W hW => by
        have := (h.below hW).look_none hr true
        exact this
      exact this
    | some r =>
      have hOk := hok.all f r.o (by rw [h.find, hr]; rfl)
      have hL := h.lists f r hr
      obtain ⟨A1, q1, hA1, _, _⟩ := hL.rt.rd.form
      obtain ⟨A2, q2, hA2, _, _⟩ := hL.rt.wr.form
      obtain ⟨A3, q3, hA3, _, _⟩ := hL.sg.form
      have := create_walk h hok hT hd f hn r.o.r.owner r.o.r.file r.o.root r.o.r.epoch A1 A2 A3 r.o.r.rd.length r.o.r.wr.length r.o.sg.length q1 q2 q3 r.o.ver r.o.gone true hOk.ver (by cases r.o.gone <;> simp) fun W hW => by
        have := (h.below hW).look hr true
        rw [hA1, hA2, hA3] at this
        exact this
      cases hg : r.o.gone with
      | false => rw [hg] at this; simpa [hg] using this
      | true => rw [hg] at this; simpa [hg] using this
end Go.Proofs.YtckblcfkajpofaaGreatDoor
namespace Go.Proofs.YtckblcfkajpofaaGreatDoor
open Go.RowKit Go.Sort
set_option linter.unusedVariables false
set_option linter.unusedSimpArgs false

abbrev annaB : ByteArray := ⟨#[97, 110, 110, 97]⟩
abbrev notesB : ByteArray := ⟨#[110, 111, 116, 101, 115]⟩
theorem name_anna : nameR annaB = true := by kernel_rfl
theorem name_notes : nameR notesB = true := by kernel_rfl
theorem create_first {U : Us} (hf : U.files = []) : U.create notesB = (U.made notesB 0, 0) := by
  unfold Us.create
  rw [if_neg (by rw [name_notes]; simp), hf]
  have hl : U.list.length = 0 := by
    unfold Us.list; rw [hf]; simp [akeys, sortB]
  simp [aget, hl]
theorem aget_one (k : ByteArray) (o : Ow) : aget (aput [] k o) k = some o := by rw [aget_aput, if_pos rfl]
theorem own_first {U : Us} (hf : U.files = []) (v : Nat) : (U.made notesB v).own notesB = some ⟨⟨U.name, notesB, 0, [], []⟩, (v + 1) % 18446744073709551616, secT ⟨#[114, 111, 111, 116]⟩ (pathB U.name notesB) (drawN U.seed U.drew), [secT ⟨#[115, 105, 103, 110]⟩ (pathB U.name notesB) (drawN U.seed (U.drew + 1))], false⟩ := by
  unfold Us.own Us.made
  dsimp only
  rw [hf, aget_one]
  simp
theorem right_new {o f : ByteArray} (ho : nameR o = true) (hf : nameR f = true) : (⟨o, f, 0, [], []⟩ : Rt).right = true := by
  unfold Rt.right Rt.head
  simp [ho, hf, risesB, Rising]
theorem umade_ok {U : Us} (hok : U.ok) {f : ByteArray} (hf : nameR f = true) (v : Nat) : (U.made f v).ok := by
  refine ⟨hok.name, hok.seed, hok.secret, fun k o hk => ?_, ?_⟩
  · unfold Us.made at hk
    dsimp only at hk
    rw [aget_aput] at hk
    split at hk
    · rename_i e
      cases hk; subst e
      exact ⟨rfl, rfl, right_new hok.name hf, Nat.mod_lt _ (by decide), secT_size _ _ _, rfl, fun s hs => by
        rw [List.mem_singleton] at hs; subst hs; exact secT_size _ _ _⟩
    · exact hok.all k o hk
  · show (aput U.files f _).length ≤ U.drew + 2
    have := aput_length U.files f (⟨⟨U.name, f, 0, [], []⟩, (v + 1) % 18446744073709551616, secT ⟨#[114, 111, 111, 116]⟩ (pathB U.name f) (drawN U.seed U.drew), [secT ⟨#[115, 105, 103, 110]⟩ (pathB U.name f) (drawN U.seed (U.drew + 1))], false⟩ : Ow)
    have := hok.len
    omega
set_option maxRecDepth 100000 in
set_option maxHeartbeats 2000000 in
theorem shown14_calls {w : World} (hT : Tabs w) : Calls Tryz.prog 21 #[] w fun e w' => e = .returned (.bool true) ∧ Below w.heap.size w w' := by
  have HN := Lib.hid (unew_calls w annaB 1 (by decide) (by decide) hT)
  rw [name_anna] at HN
  have HT := Lib.hid hT
  clear hT
  go_enter Tryz.func21, Tryz.ntmps21
  go_wp2_with fail
  refine HN.out.mono ?_
  rintro e w1 ⟨hb1, hh⟩
  simp only [if_true] at hh
  obtain ⟨p, d, b, m, rfl, hU, hn⟩ := hh
  have HB := Lib.hid hb1
  have hC := create_calls hU (unew_ok name_anna (by decide)) (HT.out.below hb1) (by simp [unew]) notesB (by decide)
  rw [create_first (show (unew annaB 1).files = [] from rfl)] at hC
  have HC := Lib.hid hC
  have HNW := Lib.hid hn
  clear hC hb1 hU hn
  go_wp2_with fail
  refine HC.out.mono ?_
  rintro e w2 ⟨rfl, F', rows, hU2, hK2, _, _⟩
  dsimp only at hU2
  have hb2 : Below w.heap.size w w2 := ((Keep.of_below HB.out (F := fun i => w.heap.size ≤ i)).same (hK2.mono fun i hi => HNW.out i hi)).new
  have hO := uown_calls hU2 (umade_ok (unew_ok name_anna (by decide)) name_notes 0) notesB
  rw [own_first (show (unew annaB 1).files = [] from rfl)] at hO
  have HO := Lib.hid hO
  have HB2 := Lib.hid hb2
  clear hO hU2 hK2 hb2
  go_wp2_with fail
  refine HO.out.mono ?_
  rintro e w3 ⟨hb3, vr, vw, vs, rfl, ho⟩
  obtain ⟨A2, ca2, rfl, _, _⟩ := own_slice ho.rd
  obtain ⟨C2, cb2, rfl, _, _⟩ := own_slice ho.wr
  obtain ⟨D2, cd2, rfl, _, _⟩ := own_slice ho.sg
  have HB3 := Lib.hid (HB2.out.trans (hb3.mono HB2.out.size))
  clear hb3 ho
  simp only [agO]
  go_wp2_with fail
  go_ret
  exact ⟨rfl, HB3.out.alloc HB3.out.size _⟩
end Go.Proofs.YtckblcfkajpofaaGreatDoor
