/- document 7's Same, of what is the same. -/
import Derived.Test.YtckblcfkajpofaaGreatDoorZA8
import Derived.Test.YtckblcfkajpofaaGreatDoorZA3
namespace Go.Proofs.YtckblcfkajpofaaGreatDoor
open Go.RowKit Go.Sort
set_option linter.unusedVariables false
set_option linter.unusedSimpArgs false

set_option maxRecDepth 100000 in
set_option maxHeartbeats 2000000 in
theorem same7_calls (w : World) (r : Rt) (vr vw vr' vw' : Value) (h : Lists w r vr vw) (h' : Lists w r vr' vw') (hl : r.rd.length ≤ 1000000) (hl2 : r.wr.length ≤ 1000000) :
    Calls Tryz.prog 98 #[.agg #[.string r.owner, .string r.file, .int .i64 r.epoch, vr, vw], .agg #[.string r.owner, .string r.file, .int .i64 r.epoch, vr', vw']] w fun e w' => e = .returned (.bool true) ∧ Below w.heap.size w w' := by
  obtain ⟨ow, fi, ep, rd, wl⟩ := r
  dsimp only at hl hl2
  obtain ⟨A, ca, rfl, _, _⟩ := h.rd.form
  obtain ⟨C, cb, rfl, _, _⟩ := h.wr.form
  obtain ⟨A2, ca2, rfl, _, _⟩ := h'.rd.form
  obtain ⟨C2, cb2, rfl, _, _⟩ := h'.wr.form
  obtain ⟨W, hW⟩ : ∃ W, (w.alloc (.cells #[.string ow, .string fi, .int .i64 ep, .slice A rd.length ca, .slice C wl.length cb] 39)).alloc (.cells #[.string ow, .string fi, .int .i64 ep, .slice A2 rd.length ca2, .slice C2 wl.length cb2] 39) = W := ⟨_, rfl⟩
  have hb : Below w.heap.size w W := by rw [← hW]; exact ((Below.refl _ w).alloc (Nat.le_refl _) _).alloc (by simp [size_alloc]) _
  have hr0 : W.heap[w.heap.size]? = some (.cells #[.string ow, .string fi, .int .i64 ep, .slice A rd.length ca, .slice C wl.length cb] 39 (0, 0)) := by rw [← hW, get_alloc, if_neg (by simp [size_alloc]), get_alloc, if_pos rfl]
  have hr1 : W.heap[w.heap.size + 1]? = some (.cells #[.string ow, .string fi, .int .i64 ep, .slice A2 rd.length ca2, .slice C2 wl.length cb2] 39 (0, 0)) := by rw [← hW, get_alloc, if_pos (by simp [size_alloc])]
  have H1 := Lib.hid (h.below hb)
  have H2 := Lib.hid (h'.below hb)
  have HB0 := Lib.hid hb
  have HR0 := Lib.hid hr0
  have HR1 := Lib.hid hr1
  obtain ⟨c0, c1, c2, c3, c4⟩ := row5 hr0
  obtain ⟨d0, d1, d2, d3, d4⟩ := row5 hr1
  obtain ⟨n, hn⟩ : ∃ n, rd.length = n := ⟨_, rfl⟩
  obtain ⟨n2, hn2⟩ : ∃ n2, wl.length = n2 := ⟨_, rfl⟩
  have HN := Lib.hid hn
  have HN2 := Lib.hid hn2
  rw [hn] at hl HR0 HR1 c3 d3 hW ⊢
  rw [hn2] at hl2 HR0 HR1 c4 d4 hW ⊢
  clear h h' hn hn2 hb hr0 hr1
  go_enter Tryz.func98, Tryz.ntmps98
  go_wp2_with fail
  clear c0 c1 c2 c3 c4 d0 d1 d2 d3 d4
  go_loopw [5] (fun i wr => ∃ k : Nat, k ≤ n ∧ i = .int .i64 k ∧ Hid (Below W.heap.size W wr)) (fun i _ => n - (intOf i).toNat)
  case atStart => exact ⟨0, Nat.zero_le _, rfl, Lib.hid (Below.refl _ _)⟩
  case round =>
    obtain ⟨k, hk, rfl, HB⟩ := hrel
    have hr0 := (Keep.of_below HB.out : Keep (fun _ => False) W wr).at HR0.out fun e => e
    have hr1 := (Keep.of_below HB.out : Keep (fun _ => False) W wr).at HR1.out fun e => e
    obtain ⟨c0, c1, c2, c3, c4⟩ := row5 hr0
    obtain ⟨d0, d1, d2, d3, d4⟩ := row5 hr1
    clear hr0 hr1
    by_cases hlt : k < n
    · obtain ⟨s, hs⟩ : ∃ s, rd[k]? = some s := ⟨_, List.getElem?_eq_getElem (by rw [HN.out]; exact hlt)⟩
      obtain ⟨g, off, c1', hv1, _, _, hc1⟩ := (H1.out.rd.below HB.out).cell hs
      cases hv1
      obtain ⟨g2, off2, c2', hv2, _, _, hc2⟩ := (H2.out.rd.below HB.out).cell hs
      cases hv2
      clear hs
      go_wp2_with fail
      refine wp_region_G (fun w' => (w'.cell? ⟨w.heap.size, 3, none⟩ = some (.slice (some ⟨g, off, none⟩) n ca) ∧ w'.cell? ⟨w.heap.size + 1, 3, none⟩ = some (.slice (some ⟨g2, off2, none⟩) n ca2)) ∧ w'.cell? ⟨g, off + k, none⟩ = some (.string s) ∧ w'.cell? ⟨g2, off2 + k, none⟩ = some (.string s)) [10] (by kernel_rfl) ?_
      have hS : (fun w' : World => (w'.cell? ⟨w.heap.size, 3, none⟩ = some (.slice (some ⟨g, off, none⟩) n ca) ∧ w'.cell? ⟨w.heap.size + 1, 3, none⟩ = some (.slice (some ⟨g2, off2, none⟩) n ca2)) ∧ w'.cell? ⟨g, off + k, none⟩ = some (.string s) ∧ w'.cell? ⟨g2, off2 + k, none⟩ = some (.string s)) wr.drew := ⟨⟨c3, d3⟩, hc1, hc2⟩
      have HB2 := Lib.hid (HB.out.trans ((Below.refl _ wr).drew.mono HB.out.size))
      refine wpAnyG_pure (i := 0) (v := ?va0) at0 (by kernel_rfl) (fun _ _ _ h => h) (Or.inl ⟨by rfl, ?ha0⟩) (Or.inr (by assumption)) ?ra0
      case ha0 => (intro w hSw; (try dsimp only at hSw); go_simp; try with_reducible rfl)
      case' ra0 => skip
      try simp only [Act.put, List.setIfInBounds_toArray, List.set_cons_zero, List.set_cons_succ]
      refine wpAnyG_take (ws := [0,1,2,3,4,5,6,7,8,9]) (i := 1) (v := ?va1) at1 (by kernel_rfl) (fun _ _ _ h => h) (Or.inl ⟨by rfl, ?ha1⟩) (by assumption) ?ra1
      case ha1 => (intro w hSw; (try dsimp only at hSw); go_simp; try with_reducible rfl)
      case' ra1 => skip
      try simp only [Act.put, List.setIfInBounds_toArray, List.set_cons_zero, List.set_cons_succ]
      refine wpAnyG_pure (i := 2) (v := ?va2) at2 (by kernel_rfl) (fun _ _ _ h => h) (Or.inl ⟨by rfl, ?ha2⟩) (Or.inr (by assumption)) ?ra2
      case ha2 => (intro w hSw; (try dsimp only at hSw); go_simp; try with_reducible rfl)
      case' ra2 => skip
      try simp only [Act.put, List.setIfInBounds_toArray, List.set_cons_zero, List.set_cons_succ]
      refine wpAnyG_pure (i := 3) (v := ?va3) at3 (by kernel_rfl) (fun _ _ _ h => h) (Or.inl ⟨by rfl, ?ha3⟩) (Or.inr (by assumption)) ?ra3
      case ha3 => (intro w hSw; (try dsimp only at hSw); go_simp; try with_reducible rfl)
      case' ra3 => skip
      try simp only [Act.put, List.setIfInBounds_toArray, List.set_cons_zero, List.set_cons_succ]
      refine wpAnyG_take (ws := [0,1,2,3,4,5,6,7,8,9]) (i := 4) (v := ?va4) at4 (by kernel_rfl) (fun _ _ _ h => h) (Or.inl ⟨by rfl, ?ha4⟩) (by assumption) ?ra4
      case ha4 => (intro w hSw; (try dsimp only at hSw); go_simp; try with_reducible rfl)
      case' ra4 => skip
      try simp only [Act.put, List.setIfInBounds_toArray, List.set_cons_zero, List.set_cons_succ]
      refine wpAnyG_pure (i := 5) (v := ?va5) at5 (by kernel_rfl) (fun _ _ _ h => h) (Or.inl ⟨by rfl, ?ha5⟩) (Or.inr (by assumption)) ?ra5
      case ha5 => (intro w hSw; (try dsimp only at hSw); go_simp; try with_reducible rfl)
      case' ra5 => skip
      try simp only [Act.put, List.setIfInBounds_toArray, List.set_cons_zero, List.set_cons_succ]
      refine wpAnyG_take (ws := [0,1,2,3,4,5,6,7,8,9]) (i := 6) (v := ?va6) at6 (by kernel_rfl) (fun _ _ _ h => h) (Or.inl ⟨by rfl, ?ha6⟩) (by assumption) ?ra6
      case ha6 => (intro w hSw; (try dsimp only at hSw); go_simp; try with_reducible rfl)
      case' ra6 => skip
      try simp only [Act.put, List.setIfInBounds_toArray, List.set_cons_zero, List.set_cons_succ]
      refine wpAnyG_pure (i := 7) (v := ?va7) at7 (by kernel_rfl) (fun _ _ _ h => h) (Or.inl ⟨by rfl, ?ha7⟩) (Or.inr (by assumption)) ?ra7
      case ha7 => (intro w hSw; (try dsimp only at hSw); go_simp; try with_reducible rfl)
      case' ra7 => skip
      try simp only [Act.put, List.setIfInBounds_toArray, List.set_cons_zero, List.set_cons_succ]
      refine wpAnyG_pure (i := 8) (v := ?va8) at8 (by kernel_rfl) (fun _ _ _ h => h) (Or.inl ⟨by rfl, ?ha8⟩) (Or.inr (by assumption)) ?ra8
      case ha8 => (intro w hSw; (try dsimp only at hSw); go_simp; try with_reducible rfl)
      case' ra8 => skip
      try simp only [Act.put, List.setIfInBounds_toArray, List.set_cons_zero, List.set_cons_succ]
      refine wpAnyG_take (ws := [0,1,2,3,4,5,6,7,8,9]) (i := 9) (v := ?va9) at9 (by kernel_rfl) (fun _ _ _ h => h) (Or.inl ⟨by rfl, ?ha9⟩) (by assumption) ?ra9
      case ha9 => (intro w hSw; (try dsimp only at hSw); go_simp; try with_reducible rfl)
      case' ra9 => skip
      try simp only [Act.put, List.setIfInBounds_toArray, List.set_cons_zero, List.set_cons_succ]
      refine wpAnyG_one 10 at10 (by kernel_rfl) (fun Kn hK => ?_)
      go_simp
      refine hK.out _ _ (Or.inl (by kernel_rfl)) ?_
      clear hK Kn hS hc1 hc2 c0 c1 c2 c3 c4 d0 d1 d2 d3 d4
      refine wpAnyG_done (by kernel_rfl) ?_
      try simp only [Act.put, List.setIfInBounds_toArray, List.set_cons_zero, List.set_cons_succ]
      go_wp2_with fail
      go_roundw
      case rel => exact ⟨k + 1, by omega, by go_num, HB2⟩
      case measure => simp [intOf]; omega
    · obtain rfl : k = n := by omega
      have HBA := Lib.hid HB.out
      clear HB
      go_wp2_with fail
      clear c0 c1 c2 c3 c4 d0 d1 d2 d3 d4
      go_loopw [6] (fun i wz => ∃ j : Nat, j ≤ n2 ∧ i = .int .i64 j ∧ Hid (Below W.heap.size W wz)) (fun i _ => n2 - (intOf i).toNat)
      case atStart => exact ⟨0, Nat.zero_le _, rfl, HBA⟩
      case round =>
        obtain ⟨j, hj, rfl, HB⟩ := hrel
        have hr0 := (Keep.of_below HB.out : Keep (fun _ => False) W wr).at HR0.out fun e => e
        have hr1 := (Keep.of_below HB.out : Keep (fun _ => False) W wr).at HR1.out fun e => e
        obtain ⟨c0, c1, c2, c3, c4⟩ := row5 hr0
        obtain ⟨d0, d1, d2, d3, d4⟩ := row5 hr1
        clear hr0 hr1
        by_cases hlt2 : j < n2
        · obtain ⟨s, hs⟩ : ∃ s, wl[j]? = some s := ⟨_, List.getElem?_eq_getElem (by rw [HN2.out]; exact hlt2)⟩
          obtain ⟨g, off, c1', hv1, _, _, hc1⟩ := (H1.out.wr.below HB.out).cell hs
          cases hv1
          obtain ⟨g2, off2, c2', hv2, _, _, hc2⟩ := (H2.out.wr.below HB.out).cell hs
          cases hv2
          clear hs
          go_wp2_with fail
          refine wp_region_G (fun w' => (w'.cell? ⟨w.heap.size, 4, none⟩ = some (.slice (some ⟨g, off, none⟩) n2 cb) ∧ w'.cell? ⟨w.heap.size + 1, 4, none⟩ = some (.slice (some ⟨g2, off2, none⟩) n2 cb2)) ∧ w'.cell? ⟨g, off + j, none⟩ = some (.string s) ∧ w'.cell? ⟨g2, off2 + j, none⟩ = some (.string s)) [10] (by kernel_rfl) ?_
          have hS : (fun w' : World => (w'.cell? ⟨w.heap.size, 4, none⟩ = some (.slice (some ⟨g, off, none⟩) n2 cb) ∧ w'.cell? ⟨w.heap.size + 1, 4, none⟩ = some (.slice (some ⟨g2, off2, none⟩) n2 cb2)) ∧ w'.cell? ⟨g, off + j, none⟩ = some (.string s) ∧ w'.cell? ⟨g2, off2 + j, none⟩ = some (.string s)) wr.drew := ⟨⟨c4, d4⟩, hc1, hc2⟩
          have HB2 := Lib.hid (HB.out.trans ((Below.refl _ wr).drew.mono HB.out.size))
          refine wpAnyG_pure (i := 0) (v := ?vb0) at0 (by kernel_rfl) (fun _ _ _ h => h) (Or.inl ⟨by rfl, ?hb0⟩) (Or.inr (by assumption)) ?rb0
          case hb0 => (intro w hSw; (try dsimp only at hSw); go_simp; try with_reducible rfl)
          case' rb0 => skip
          try simp only [Act.put, List.setIfInBounds_toArray, List.set_cons_zero, List.set_cons_succ]
          refine wpAnyG_take (ws := [0,1,2,3,4,5,6,7,8,9]) (i := 1) (v := ?vb1) at1 (by kernel_rfl) (fun _ _ _ h => h) (Or.inl ⟨by rfl, ?hb1⟩) (by assumption) ?rb1
          case hb1 => (intro w hSw; (try dsimp only at hSw); go_simp; try with_reducible rfl)
          case' rb1 => skip
          try simp only [Act.put, List.setIfInBounds_toArray, List.set_cons_zero, List.set_cons_succ]
          refine wpAnyG_pure (i := 2) (v := ?vb2) at2 (by kernel_rfl) (fun _ _ _ h => h) (Or.inl ⟨by rfl, ?hb2⟩) (Or.inr (by assumption)) ?rb2
          case hb2 => (intro w hSw; (try dsimp only at hSw); go_simp; try with_reducible rfl)
          case' rb2 => skip
          try simp only [Act.put, List.setIfInBounds_toArray, List.set_cons_zero, List.set_cons_succ]
          refine wpAnyG_pure (i := 3) (v := ?vb3) at3 (by kernel_rfl) (fun _ _ _ h => h) (Or.inl ⟨by rfl, ?hb3⟩) (Or.inr (by assumption)) ?rb3
          case hb3 => (intro w hSw; (try dsimp only at hSw); go_simp; try with_reducible rfl)
          case' rb3 => skip
          try simp only [Act.put, List.setIfInBounds_toArray, List.set_cons_zero, List.set_cons_succ]
          refine wpAnyG_take (ws := [0,1,2,3,4,5,6,7,8,9]) (i := 4) (v := ?vb4) at4 (by kernel_rfl) (fun _ _ _ h => h) (Or.inl ⟨by rfl, ?hb4⟩) (by assumption) ?rb4
          case hb4 => (intro w hSw; (try dsimp only at hSw); go_simp; try with_reducible rfl)
          case' rb4 => skip
          try simp only [Act.put, List.setIfInBounds_toArray, List.set_cons_zero, List.set_cons_succ]
          refine wpAnyG_pure (i := 5) (v := ?vb5) at5 (by kernel_rfl) (fun _ _ _ h => h) (Or.inl ⟨by rfl, ?hb5⟩) (Or.inr (by assumption)) ?rb5
          case hb5 => (intro w hSw; (try dsimp only at hSw); go_simp; try with_reducible rfl)
          case' rb5 => skip
          try simp only [Act.put, List.setIfInBounds_toArray, List.set_cons_zero, List.set_cons_succ]
          refine wpAnyG_take (ws := [0,1,2,3,4,5,6,7,8,9]) (i := 6) (v := ?vb6) at6 (by kernel_rfl) (fun _ _ _ h => h) (Or.inl ⟨by rfl, ?hb6⟩) (by assumption) ?rb6
          case hb6 => (intro w hSw; (try dsimp only at hSw); go_simp; try with_reducible rfl)
          case' rb6 => skip
          try simp only [Act.put, List.setIfInBounds_toArray, List.set_cons_zero, List.set_cons_succ]
          refine wpAnyG_pure (i := 7) (v := ?vb7) at7 (by kernel_rfl) (fun _ _ _ h => h) (Or.inl ⟨by rfl, ?hb7⟩) (Or.inr (by assumption)) ?rb7
          case hb7 => (intro w hSw; (try dsimp only at hSw); go_simp; try with_reducible rfl)
          case' rb7 => skip
          try simp only [Act.put, List.setIfInBounds_toArray, List.set_cons_zero, List.set_cons_succ]
          refine wpAnyG_pure (i := 8) (v := ?vb8) at8 (by kernel_rfl) (fun _ _ _ h => h) (Or.inl ⟨by rfl, ?hb8⟩) (Or.inr (by assumption)) ?rb8
          case hb8 => (intro w hSw; (try dsimp only at hSw); go_simp; try with_reducible rfl)
          case' rb8 => skip
          try simp only [Act.put, List.setIfInBounds_toArray, List.set_cons_zero, List.set_cons_succ]
          refine wpAnyG_take (ws := [0,1,2,3,4,5,6,7,8,9]) (i := 9) (v := ?vb9) at9 (by kernel_rfl) (fun _ _ _ h => h) (Or.inl ⟨by rfl, ?hb9⟩) (by assumption) ?rb9
          case hb9 => (intro w hSw; (try dsimp only at hSw); go_simp; try with_reducible rfl)
          case' rb9 => skip
          try simp only [Act.put, List.setIfInBounds_toArray, List.set_cons_zero, List.set_cons_succ]
          refine wpAnyG_one 10 at10 (by kernel_rfl) (fun Kn hK => ?_)
          go_simp
          refine hK.out _ _ (Or.inl (by kernel_rfl)) ?_
          clear hK Kn hS hc1 hc2 c0 c1 c2 c3 c4 d0 d1 d2 d3 d4
          refine wpAnyG_done (by kernel_rfl) ?_
          try simp only [Act.put, List.setIfInBounds_toArray, List.set_cons_zero, List.set_cons_succ]
          go_wp2_with fail
          go_roundw
          case rel => exact ⟨j + 1, by omega, by go_num, HB2⟩
          case measure => simp [intOf]; omega
        · obtain rfl : j = n2 := by omega
          go_wp2_with fail
          go_ret
          exact ⟨rfl, HB0.out.trans (HB.out.mono HB0.out.size)⟩
end Go.Proofs.YtckblcfkajpofaaGreatDoor
