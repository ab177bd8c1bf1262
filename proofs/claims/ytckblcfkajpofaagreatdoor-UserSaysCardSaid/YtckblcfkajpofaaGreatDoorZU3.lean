/- document 7's Same, of what is the same. meta: Open: plain law. law 14: what grows: plain law. law 14: UserSays: what a user holds is small, and known: plain law. user: Meta. law 14: secretOf, known. meta: Open, of a right meta and a right secret. document 6's State of a right root; document 7's Can of right rights. -/
import Derived.Test.YtckblcfkajpofaaGreatDoorZA8
import Derived.Test.YtckblcfkajpofaaGreatDoorZA3
import Derived.Test.YtckblcfkajpofaaGreatDoorZC3
import Derived.Test.YtckblcfkajpofaaGreatDoorZU2
import Derived.Test.YtckblcfkajpofaaGreatDoorZC4
import Derived.Test.YtckblcfkajpofaaGreatDoorZMr
import Derived.Test.YtckblcfkajpofaaGreatDoorZC2
import Derived.BigQuiet
import Derived.Test.YtckblcfkajpofaaGreatDoorZA6
import Derived.Test.YtckblcfkajpofaaGreatDoorZD5
namespace Go.Proofs.YtckblcfkajpofaaGreatDoor
open Go.RowKit Go.Sort
set_option linter.unusedVariables false
set_option linter.unusedSimpArgs false

set_option maxRecDepth 100000 in
set_option maxHeartbeats 2000000 in
theorem same7_calls (w : World) (r : Rt) (vr vw vr' vw' : Value) (h : Lists w r vr vw) (h' : Lists w r vr' vw') (hl : r.rd.length ≤ 1000000) (hl2 : r.wr.length ≤ 1000000) :
    Calls Tryz.prog 98 #[.agg #[.string r.owner, .string r.file, .int .i64 r.epoch, vr, vw], .agg #[.string r.owner, .string r.file, .int .i64 r.epoch, vr', vw']] w fun e w' => e = .returned (.bool true) ∧ Below w.heap.size w w' := by
  obtain ⟨ow, fi, ep, rd, wl⟩ := r
  dsimp only at hl hl2
  obtain ⟨A, ca, rfl, _, _⟩ := h.rd.form
  obtain ⟨C, cb, rfl, _, _⟩ := h.wr.form
  obtain ⟨A2, ca2, rfl, _, _⟩ := h'.rd.form
  obtain ⟨C2, cb2, rfl, _, _⟩ := h'.wr.form
  obtain ⟨W, hW⟩ : ∃ W, (w.alloc (.cells #[.string ow, .string fi, .int .i64 ep, .slice A rd.length ca, .slice C wl.length cb] 39)).alloc (.cells #[.string ow, .string fi, .int .i64 ep, .slice A2 rd.length ca2, .slice C2 wl.length cb2] 39) = W := ⟨_, rfl⟩
  have hb : Below w.heap.size w W := by rw [← hW]; exact ((Below.refl _ w).alloc (Nat.le_refl _) _).alloc (by simp [size_alloc]) _
  have hr0 : W.heap[w.heap.size]? = some (.cells #[.string ow, .string fi, .int .i64 ep, .slice A rd.length ca, .slice C wl.length cb] 39 (0, 0)) := by rw [← hW, get_alloc, if_neg (by simp [size_alloc]), get_alloc, if_pos rfl]
  have hr1 : W.heap[w.heap.size + 1]? = some (.cells #[.string ow, .string fi, .int .i64 ep, .slice A2 rd.length ca2, .slice C2 wl.length cb2] 39 (0, 0)) := by rw [← hW, get_alloc, if_pos (by simp [size_alloc])]
  have H1 := Lib.hid (h.below hb)
  have H2 := Lib.hid (h'.below hb)
  have HB0 := Lib.hid hb
  have HR0 := Lib.hid hr0
  have HR1 := Lib.hid hr1
  obtain ⟨c0, c1, c2, c3, c4⟩ := row5 hr0
  obtain ⟨d0, d1, d2, d3, d4⟩ := row5 hr1
  obtain ⟨n, hn⟩ : ∃ n, rd.length = n := ⟨_, rfl⟩
  obtain ⟨n2, hn2⟩ : ∃ n2, wl.length = n2 := ⟨_, rfl⟩
  have HN := Lib.hid hn
  have HN2 := Lib.hid hn2
  rw [hn] at hl HR0 HR1 c3 d3 hW ⊢
  rw [hn2] at hl2 HR0 HR1 c4 d4 hW ⊢
  clear h h' hn hn2 hb hr0 hr1
  go_enter Tryz.func98, Tryz.ntmps98
  go_wp2_with fail
  clear c0 c1 c2 c3 c4 d0 d1 d2 d3 d4
  go_loopw [5] (fun i wr => ∃ k : Nat, k ≤ n ∧ i = .int .i64 k ∧ Hid (Below W.heap.size W wr)) (fun i _ => n - (intOf i).toNat)
  case atStart => exact ⟨0, Nat.zero_le _, rfl, Lib.hid (Below.refl _ _)⟩
  case round =>
    obtain ⟨k, hk, rfl, HB⟩ := hrel
    have hr0 := (Keep.of_below HB.out : Keep (fun _ => False) W wr).at HR0.out fun e => e
    have hr1 := (Keep.of_below HB.out : Keep (fun _ => False) W wr).at HR1.out fun e => e
    obtain ⟨c0, c1, c2, c3, c4⟩ := row5 hr0
    obtain ⟨d0, d1, d2, d3, d4⟩ := row5 hr1
    clear hr0 hr1
    by_cases hlt : k < n
    · obtain ⟨s, hs⟩ : ∃ s, rd[k]? = some s := ⟨_, List.getElem?_eq_getElem (by rw [HN.out]; exact hlt)⟩
      obtain ⟨g, off, c1', hv1, _, _, hc1⟩ := (H1.out.rd.below HB.out).cell hs
      cases hv1
      obtain ⟨g2, off2, c2', hv2, _, _, hc2⟩ := (H2.out.rd.below HB.out).cell hs
      cases hv2
      clear hs
      go_wp2_with fail
      refine wp_region_G (fun w' => (w'.cell? ⟨w.heap.size, 3, none⟩ = some (.slice (some ⟨g, off, none⟩) n ca) ∧ w'.cell? ⟨w.heap.size + 1, 3, none⟩ = some (.slice (some ⟨g2, off2, none⟩) n ca2)) ∧ w'.cell? ⟨g, off + k, none⟩ = some (.string s) ∧ w'.cell? ⟨g2, off2 + k, none⟩ = some (.string s)) [10] (by kernel_rfl) ?_
      have hS : (fun w' : World => (w'.cell? ⟨w.heap.size, 3, none⟩ = some (.slice (some ⟨g, off, none⟩) n ca) ∧ w'.cell? ⟨w.heap.size + 1, 3, none⟩ = some (.slice (some ⟨g2, off2, none⟩) n ca2)) ∧ w'.cell? ⟨g, off + k, none⟩ = some (.string s) ∧ w'.cell? ⟨g2, off2 + k, none⟩ = some (.string s)) wr.drew := ⟨⟨c3, d3⟩, hc1, hc2⟩
      have HB2 := Lib.hid (HB.out.trans ((Below.refl _ wr).drew.mono HB.out.size))
      refine wpAnyG_pure (i := 0) (v := ?va0) at0 (by kernel_rfl) (fun _ _ _ h => h) (Or.inl ⟨by rfl, ?ha0⟩) (Or.inr (by assumption)) ?ra0
      case ha0 => (intro w hSw; (try dsimp only at hSw); go_simp; try with_reducible rfl)
      case' ra0 => skip
      try simp only [Act.put, List.setIfInBounds_toArray, List.set_cons_zero, List.set_cons_succ]
      refine wpAnyG_take (ws := [0,1,2,3,4,5,6,7,8,9]) (i := 1) (v := ?va1) at1 (by kernel_rfl) (fun _ _ _ h => h) (Or.inl ⟨by rfl, ?ha1⟩) (by assumption) ?ra1
      case ha1 => (intro w hSw; (try dsimp only at hSw); go_simp; try with_reducible rfl)
      case' ra1 => skip
      try simp only [Act.put, List.setIfInBounds_toArray, List.set_cons_zero, List.set_cons_succ]
      refine wpAnyG_pure (i := 2) (v := ?va2) at2 (by kernel_rfl) (fun _ _ _ h => h) (Or.inl ⟨by rfl, ?ha2⟩) (Or.inr (by assumption)) ?ra2
      case ha2 => (intro w hSw; (try dsimp only at hSw); go_simp; try with_reducible rfl)
      case' ra2 => skip
      try simp only [Act.put, List.setIfInBounds_toArray, List.set_cons_zero, List.set_cons_succ]
      refine wpAnyG_pure (i := 3) (v := ?va3) at3 (by kernel_rfl) (fun _ _ _ h => h) (Or.inl ⟨by rfl, ?ha3⟩) (Or.inr (by assumption)) ?ra3
      case ha3 => (intro w hSw; (try dsimp only at hSw); go_simp; try with_reducible rfl)
      case' ra3 => skip
      try simp only [Act.put, List.setIfInBounds_toArray, List.set_cons_zero, List.set_cons_succ]
      refine wpAnyG_take (ws := [0,1,2,3,4,5,6,7,8,9]) (i := 4) (v := ?va4) at4 (by kernel_rfl) (fun _ _ _ h => h) (Or.inl ⟨by rfl, ?ha4⟩) (by assumption) ?ra4
      case ha4 => (intro w hSw; (try dsimp only at hSw); go_simp; try with_reducible rfl)
      case' ra4 => skip
      try simp only [Act.put, List.setIfInBounds_toArray, List.set_cons_zero, List.set_cons_succ]
      refine wpAnyG_pure (i := 5) (v := ?va5) at5 (by kernel_rfl) (fun _ _ _ h => h) (Or.inl ⟨by rfl, ?ha5⟩) (Or.inr (by assumption)) ?ra5
      case ha5 => (intro w hSw; (try dsimp only at hSw); go_simp; try with_reducible rfl)
      case' ra5 => skip
      try simp only [Act.put, List.setIfInBounds_toArray, List.set_cons_zero, List.set_cons_succ]
      refine wpAnyG_take (ws := [0,1,2,3,4,5,6,7,8,9]) (i := 6) (v := ?va6) at6 (by kernel_rfl) (fun _ _ _ h => h) (Or.inl ⟨by rfl, ?ha6⟩) (by assumption) ?ra6
      case ha6 => (intro w hSw; (try dsimp only at hSw); go_simp; try with_reducible rfl)
      case' ra6 => skip
      try simp only [Act.put, List.setIfInBounds_toArray, List.set_cons_zero, List.set_cons_succ]
      refine wpAnyG_pure (i := 7) (v := ?va7) at7 (by kernel_rfl) (fun _ _ _ h => h) (Or.inl ⟨by rfl, ?ha7⟩) (Or.inr (by assumption)) ?ra7
      case ha7 => (intro w hSw; (try dsimp only at hSw); go_simp; try with_reducible rfl)
      case' ra7 => skip
      try simp only [Act.put, List.setIfInBounds_toArray, List.set_cons_zero, List.set_cons_succ]
      refine wpAnyG_pure (i := 8) (v := ?va8) at8 (by kernel_rfl) (fun _ _ _ h => h) (Or.inl ⟨by rfl, ?ha8⟩) (Or.inr (by assumption)) ?ra8
      case ha8 => (intro w hSw; (try dsimp only at hSw); go_simp; try with_reducible rfl)
      case' ra8 => skip
      try simp only [Act.put, List.setIfInBounds_toArray, List.set_cons_zero, List.set_cons_succ]
      refine wpAnyG_take (ws := [0,1,2,3,4,5,6,7,8,9]) (i := 9) (v := ?va9) at9 (by kernel_rfl) (fun _ _ _ h => h) (Or.inl ⟨by rfl, ?ha9⟩) (by assumption) ?ra9
      case ha9 => (intro w hSw; (try dsimp only at hSw); go_simp; try with_reducible rfl)
      case' ra9 => skip
      try simp only [Act.put, List.setIfInBounds_toArray, List.set_cons_zero, List.set_cons_succ]
      refine wpAnyG_one 10 at10 (by kernel_rfl) (fun Kn hK => ?_)
      go_simp
      refine hK.out _ _ (Or.inl (by kernel_rfl)) ?_
      clear hK Kn hS hc1 hc2 c0 c1 c2 c3 c4 d0 d1 d2 d3 d4
      refine wpAnyG_done (by kernel_rfl) ?_
      try simp only [Act.put, List.setIfInBounds_toArray, List.set_cons_zero, List.set_cons_succ]
      go_wp2_with fail
      go_roundw
      case rel => exact ⟨k + 1, by omega, by go_num, HB2⟩
      case measure => simp [intOf]; omega
    · obtain rfl : k = n := by omega
      have HBA := Lib.hid HB.out
      clear HB
      go_wp2_with fail
      clear c0 c1 c2 c3 c4 d0 d1 d2 d3 d4
      go_loopw [6] (fun i wz => ∃ j : Nat, j ≤ n2 ∧ i = .int .i64 j ∧ Hid (Below W.heap.size W wz)) (fun i _ => n2 - (intOf i).toNat)
      case atStart => exact ⟨0, Nat.zero_le _, rfl, HBA⟩
      case round =>
        obtain ⟨j, hj, rfl, HB⟩ := hrel
        have hr0 := (Keep.of_below HB.out : Keep (fun _ => False) W wr).at HR0.out fun e => e
        have hr1 := (Keep.of_below HB.out : Keep (fun _ => False) W wr).at HR1.out fun e => e
        obtain ⟨c0, c1, c2, c3, c4⟩ := row5 hr0
        obtain ⟨d0, d1, d2, d3, d4⟩ := row5 hr1
        clear hr0 hr1
        by_cases hlt2 : j < n2
        · obtain ⟨s, hs⟩ : ∃ s, wl[j]? = some s := ⟨_, List.getElem?_eq_getElem (by rw [HN2.out]; exact hlt2)⟩
          obtain ⟨g, off, c1', hv1, _, _, hc1⟩ := (H1.out.wr.below HB.out).cell hs
          cases hv1
          obtain ⟨g2, off2, c2', hv2, _, _, hc2⟩ := (H2.out.wr.below HB.out).cell hs
          cases hv2
          clear hs
          go_wp2_with fail
          refine wp_region_G (fun w' => (w'.cell? ⟨w.heap.size, 4, none⟩ = some (.slice (some ⟨g, off, none⟩) n2 cb) ∧ w'.cell? ⟨w.heap.size + 1, 4, none⟩ = some (.slice (some ⟨g2, off2, none⟩) n2 cb2)) ∧ w'.cell? ⟨g, off + j, none⟩ = some (.string s) ∧ w'.cell? ⟨g2, off2 + j, none⟩ = some (.string s)) [10] (by kernel_rfl) ?_
          have hS : (fun w' : World => (w'.cell? ⟨w.heap.size, 4, none⟩ = some (.slice (some ⟨g, off, none⟩) n2 cb) ∧ w'.cell? ⟨w.heap.size + 1, 4, none⟩ = some (.slice (some ⟨g2, off2, none⟩) n2 cb2)) ∧ w'.cell? ⟨g, off + j, none⟩ = some (.string s) ∧ w'.cell? ⟨g2, off2 + j, none⟩ = some (.string s)) wr.drew := ⟨⟨c4, d4⟩, hc1, hc2⟩
          have HB2 := Lib.hid (HB.out.trans ((Below.refl _ wr).drew.mono HB.out.size))
          refine wpAnyG_pure (i := 0) (v := ?vb0) at0 (by kernel_rfl) (fun _ _ _ h => h) (Or.inl ⟨by rfl, ?hb0⟩) (Or.inr (by assumption)) ?rb0
          case hb0 => (intro w hSw; (try dsimp only at hSw); go_simp; try with_reducible rfl)
          case' rb0 => skip
          try simp only [Act.put, List.setIfInBounds_toArray, List.set_cons_zero, List.set_cons_succ]
          refine wpAnyG_take (ws := [0,1,2,3,4,5,6,7,8,9]) (i := 1) (v := ?vb1) at1 (by kernel_rfl) (fun _ _ _ h => h) (Or.inl ⟨by rfl, ?hb1⟩) (by assumption) ?rb1
          case hb1 => (intro w hSw; (try dsimp only at hSw); go_simp; try with_reducible rfl)
          case' rb1 => skip
          try simp only [Act.put, List.setIfInBounds_toArray, List.set_cons_zero, List.set_cons_succ]
          refine wpAnyG_pure (i := 2) (v := ?vb2) at2 (by kernel_rfl) (fun _ _ _ h => h) (Or.inl ⟨by rfl, ?hb2⟩) (Or.inr (by assumption)) ?rb2
          case hb2 => (intro w hSw; (try dsimp only at hSw); go_simp; try with_reducible rfl)
          case' rb2 => skip
          try simp only [Act.put, List.setIfInBounds_toArray, List.set_cons_zero, List.set_cons_succ]
          refine wpAnyG_pure (i := 3) (v := ?vb3) at3 (by kernel_rfl) (fun _ _ _ h => h) (Or.inl ⟨by rfl, ?hb3⟩) (Or.inr (by assumption)) ?rb3
          case hb3 => (intro w hSw; (try dsimp only at hSw); go_simp; try with_reducible rfl)
          case' rb3 => skip
          try simp only [Act.put, List.setIfInBounds_toArray, List.set_cons_zero, List.set_cons_succ]
          refine wpAnyG_take (ws := [0,1,2,3,4,5,6,7,8,9]) (i := 4) (v := ?vb4) at4 (by kernel_rfl) (fun _ _ _ h => h) (Or.inl ⟨by rfl, ?hb4⟩) (by assumption) ?rb4
          case hb4 => (intro w hSw; (try dsimp only at hSw); go_simp; try with_reducible rfl)
          case' rb4 => skip
          try simp only [Act.put, List.setIfInBounds_toArray, List.set_cons_zero, List.set_cons_succ]
          refine wpAnyG_pure (i := 5) (v := ?vb5) at5 (by kernel_rfl) (fun _ _ _ h => h) (Or.inl ⟨by rfl, ?hb5⟩) (Or.inr (by assumption)) ?rb5
          case hb5 => (intro w hSw; (try dsimp only at hSw); go_simp; try with_reducible rfl)
          case' rb5 => skip
          try simp only [Act.put, List.setIfInBounds_toArray, List.set_cons_zero, List.set_cons_succ]
          refine wpAnyG_take (ws := [0,1,2,3,4,5,6,7,8,9]) (i := 6) (v := ?vb6) at6 (by kernel_rfl) (fun _ _ _ h => h) (Or.inl ⟨by rfl, ?hb6⟩) (by assumption) ?rb6
          case hb6 => (intro w hSw; (try dsimp only at hSw); go_simp; try with_reducible rfl)
          case' rb6 => skip
          try simp only [Act.put, List.setIfInBounds_toArray, List.set_cons_zero, List.set_cons_succ]
          refine wpAnyG_pure (i := 7) (v := ?vb7) at7 (by kernel_rfl) (fun _ _ _ h => h) (Or.inl ⟨by rfl, ?hb7⟩) (Or.inr (by assumption)) ?rb7
          case hb7 => (intro w hSw; (try dsimp only at hSw); go_simp; try with_reducible rfl)
          case' rb7 => skip
          try simp only [Act.put, List.setIfInBounds_toArray, List.set_cons_zero, List.set_cons_succ]
          refine wpAnyG_pure (i := 8) (v := ?vb8) at8 (by kernel_rfl) (fun _ _ _ h => h) (Or.inl ⟨by rfl, ?hb8⟩) (Or.inr (by assumption)) ?rb8
          case hb8 => (intro w hSw; (try dsimp only at hSw); go_simp; try with_reducible rfl)
          case' rb8 => skip
          try simp only [Act.put, List.setIfInBounds_toArray, List.set_cons_zero, List.set_cons_succ]
          refine wpAnyG_take (ws := [0,1,2,3,4,5,6,7,8,9]) (i := 9) (v := ?vb9) at9 (by kernel_rfl) (fun _ _ _ h => h) (Or.inl ⟨by rfl, ?hb9⟩) (by assumption) ?rb9
          case hb9 => (intro w hSw; (try dsimp only at hSw); go_simp; try with_reducible rfl)
          case' rb9 => skip
          try simp only [Act.put, List.setIfInBounds_toArray, List.set_cons_zero, List.set_cons_succ]
          refine wpAnyG_one 10 at10 (by kernel_rfl) (fun Kn hK => ?_)
          go_simp
          refine hK.out _ _ (Or.inl (by kernel_rfl)) ?_
          clear hK Kn hS hc1 hc2 c0 c1 c2 c3 c4 d0 d1 d2 d3 d4
          refine wpAnyG_done (by kernel_rfl) ?_
          try simp only [Act.put, List.setIfInBounds_toArray, List.set_cons_zero, List.set_cons_succ]
          go_wp2_with fail
          go_roundw
          case rel => exact ⟨j + 1, by omega, by go_num, HB2⟩
          case measure => simp [intOf]; omega
        · obtain rfl : j = n2 := by omega
          go_wp2_with fail
          go_ret
          exact ⟨rfl, HB0.out.trans (HB.out.mono HB0.out.size)⟩
end Go.Proofs.YtckblcfkajpofaaGreatDoor
namespace Go.Proofs.YtckblcfkajpofaaGreatDoor
open Go.RowKit
set_option linter.unusedVariables false
set_option linter.unusedSimpArgs false

def nthB (l : List ByteArray) (i : Nat) : ByteArray := (l[i]?).getD ⟨#[]⟩
/-- what a user opens: the state, the last signer, what is wrong -/
def openM (m : Mt) (user secret : ByteArray) : ByteArray × ByteArray × Int :=
  if rightM m = false ∨ rightT (toL secret) = false then (⟨#[]⟩, ⟨#[]⟩, 1) else match m.bl.find? fun x => decide (x.1 = user) with
  | none => (⟨#[]⟩, ⟨#[]⟩, 6)
  | some b => match unboxT (toL secret) (toL b.2) with
    | .error _ => (⟨#[]⟩, ⟨#[]⟩, 7)
    | .ok t => if kindL t ≠ 112 then (⟨#[]⟩, ⟨#[]⟩, 7) else if kindL (toL (nthB (partsL t) 1)) = 116 then (nthB (partsL t) 0, ⟨#[]⟩, 0) else (nthB (partsL t) 0, nthB (partsL t) 1, 0)
theorem isT.whole {d n : Nat} {s : List UInt8} (h : isT d n s) (hd : d ≤ 40) (hn : n ≤ 4000) : ∃ t : Tm, s = t.enc ∧ t.wf d ∧ whole s = some t := by
  obtain ⟨t, h1, h2, h3⟩ := h
  exact ⟨t, h1, h2, by rw [h1]; exact whole_enc (Tm.wf_mono h2 hd) (by rw [← h1]; omega)⟩
theorem find_blk {β : Type} (g : ByteArray → β) (l : List ByteArray) (s : ByteArray) : (l.map (fun u => (u, g u))).find? (fun x => decide (x.1 = s)) = if memB s l = true then some (s, g s) else none := by
  induction l with
  | nil => rfl
  | cons x l ih =>
    rw [List.map_cons, List.find?_cons]
    by_cases e : x = s
    · subst e
      rw [if_pos (memB_iff.2 List.mem_cons_self)]; simp
    · rw [show decide ((x, g x).1 = s) = false from decide_eq_false e]
      show List.find? _ _ = _
      rw [ih]
      by_cases h : s ∈ l
      · rw [if_pos (memB_iff.2 h), if_pos (memB_iff.2 (List.mem_cons_of_mem _ h))]
      · rw [if_neg (fun h2 => h (memB_iff.1 h2)), if_neg (fun h2 => by rcases List.mem_cons.1 (memB_iff.1 h2) with h2 | h2; exact e h2.symm; exact h h2)]
/-- each other one opens what was built; nobody else -/
theorem Bld.opens {secret root : ByteArray} {r : Rt} {sg : List ByteArray} {kn : Knowns} {pk : ByteArray → ByteArray} (h : Bld secret r root sg kn pk) (ver : Nat) (hv : ver < 18446744073709551616) (u su : ByteArray) (hsu : isT 4 100 (toL su)) (hpu : u ∈ others r → toL (pk u) = 117 :: toL su)
    (hsk : ∀ s ∈ sg, kindL (toL s) ≠ 116) : openM (builtM secret r ver root sg pk) u su = if memB u (others r) = true then (mkB (stateL root r.epoch), if r.can u true = true then lastB r sg else ⟨#[]⟩, 0) else (⟨#[]⟩, ⟨#[]⟩, 6) := by
  obtain ⟨_, hg, _⟩ := h.ok ver hv
  have hgr := Rt.right_good h.right
  have hlo := hgr.lo
  have hhi := hgr.hi
  unfold openM
  rw [if_neg (by rw [good_rightM hg, hsu.right (by omega) (by omega)]; simp)]
  have ef : (builtM secret r ver root sg pk).bl.find? (fun x => decide (x.1 = u)) = if memB u (others r) = true then some (u, mkB (boxL r u root (lastB r sg) (pk u))) else none := find_blk _ _ _
  rw [ef]
  by_cases hu : u ∈ others r
  · rw [if_pos (memB_iff.2 hu), if_pos (memB_iff.2 hu)]
    simp only
    have hL := h.sgs _ h.last.1
    obtain ⟨h1, h2⟩ := stateT_is h.root hlo hhi (by omega) (by omega)
    have h3 : isT 4 100 (secondL r u (lastB r sg)) := by
      unfold secondL
      split
      · exact hL
      · exact isT_none.mono (by omega) (by omega)
    obtain ⟨ts, e1, w1, _⟩ := hsu.whole (by omega) (by omega)
    obtain ⟨t2, e2, w2, _⟩ := h2.whole (by omega) (by omega)
    obtain ⟨t3, e3, w3, k3⟩ := h3.whole (by omega) (by omega)
    have eb : boxL r u root (lastB r sg) (pk u) = (Tm.two 98 (.one 117 ts) (.two 112 t2 t3)).enc := by
      unfold boxL
      rw [hpu hu, e1, e2, e3]; rfl
    have hbi := (boxR_is (r := r) (u := u) h.root hL (h.pub u hu).2.1 (h.pub u hu).2.2 hlo hhi).2
    have hlen : (boxL r u root (lastB r sg) (pk u)).length ≤ 310 := by obtain ⟨_, _, _, h⟩ := hbi; exact h
    have wb : (Tm.two 98 (.one 117 ts) (.two 112 t2 t3)).wf 40 := ⟨rfl, ⟨rfl, Tm.wf_mono (e := 38) w1 (by omega)⟩, ⟨rfl, Tm.wf_mono (e := 38) w2 (by omega), Tm.wf_mono (e := 38) w3 (by omega), fun e => absurd e (by decide)⟩, fun _ => rfl⟩
    have hwb : whole (boxL r u root (lastB r sg) (pk u)) = some (.two 98 (.one 117 ts) (.two 112 t2 t3)) := by
      rw [eb]; exact whole_enc wb (by rw [← eb]; omega)
    have hwp := (whole_two hwb).2
    have hun : unboxT (toL su) (boxL r u root (lastB r sg) (pk u)) = .ok (Tm.two 112 t2 t3).enc := by
      unfold unboxT underT
      have hrb : rightT (boxL r u root (lastB r sg) (pk u)) = true := by unfold rightT; rw [hwb]; rfl
      rw [hsu.right (by omega) (by omega), hrb, if_pos (show (true && true) = true from rfl), hwb]
      simp only
      rw [if_pos trivial, if_pos (by rw [e1]; rfl)]
    rw [show toL (mkB (boxL r u root (lastB r sg) (pk u))) = _ from toL_mkB _, hun]
    simp only
    have hk : kindL (Tm.two 112 t2 t3).enc = 112 := by unfold kindL; rw [hwp]; rfl
    have hp : partsL (Tm.two 112 t2 t3).enc = [mkB t2.enc, mkB t3.enc] := by unfold partsL; rw [hwp]; rfl
    rw [hk, if_neg (by simp), hp]
    show (if kindL (toL (mkB t3.enc)) = 116 then (mkB t2.enc, (⟨#[]⟩ : ByteArray), (0 : Int)) else (mkB t2.enc, mkB t3.enc, 0)) = _
    rw [toL_mkB, ← e3, ← e2]
    unfold secondL
    by_cases hc : r.can u true = true
    · rw [if_pos hc, if_pos hc, if_neg (hsk _ h.last.1), list_mkB]
    · rw [if_neg hc, if_neg hc, if_pos (isT_none.kind (by omega) (by omega))]
  · rw [if_neg (fun h2 => hu (memB_iff.1 h2)), if_neg (fun h2 => hu (memB_iff.1 h2))]
end Go.Proofs.YtckblcfkajpofaaGreatDoor
namespace Go.Proofs.YtckblcfkajpofaaGreatDoor
set_option linter.unusedVariables false
set_option linter.unusedSimpArgs false

def verOf (U : Us) (f : ByteArray) : Nat := ((aget U.files f).map Ow.ver).getD 0
theorem verOf_put (U : Us) (k : Nat) (f : ByteArray) (o : Ow) (j : ByteArray) : verOf { U with drew := k, files := aput U.files f o } j = if j = f then o.ver else verOf U j := by
  unfold verOf
  show ((aget (aput U.files f o) j).map Ow.ver).getD 0 = _
  rw [aget_aput]
  split <;> rfl
theorem own_put (U : Us) (k : Nat) (f : ByteArray) (o : Ow) (hg : o.gone = false) : ({ U with drew := k, files := aput U.files f o } : Us).own f = some o := by
  unfold Us.own
  show (match aget (aput U.files f o) f with | some o => if o.gone = true then none else some o | none => none) = _
  rw [aget_aput, if_pos rfl]
  simp [hg]
theorem create_grows {U : Us} {f : ByteArray} (h : (U.create f).2 = 0) : ∃ v, v = verOf U f ∧ (U.create f).1 = U.made f v := by
  unfold Us.create at h ⊢
  cases hn : nameR f with
  | false => rw [hn, if_pos rfl] at h; simp at h
  | true =>
    rw [hn, if_neg (by simp)] at h
    rw [if_neg (by simp)]
    cases ha : aget U.files f with
    | none =>
      rw [ha] at h
      dsimp only at h ⊢
      split at h
      · simp at h
      · rename_i h8
        rw [if_neg h8]
        exact ⟨0, by unfold verOf; rw [ha]; rfl, rfl⟩
    | some o =>
      rw [ha] at h
      dsimp only at h ⊢
      split at h
      · simp at h
      · rename_i hg
        rw [if_neg hg]
        split at h
        · simp at h
        · rename_i h8
          rw [if_neg h8]
          exact ⟨o.ver, by unfold verOf; rw [ha]; rfl, rfl⟩
theorem remove_same {U : Us} {f : ByteArray} (h : (U.remove f).2 = 0) : (∃ o, U.own f = some o) ∧ (U.remove f).1.own f = none ∧ (∀ j, verOf (U.remove f).1 j = verOf U j) ∧ (U.remove f).1.drew = U.drew := by
  unfold Us.remove at h ⊢
  cases ho : U.own f with
  | none => rw [ho] at h; simp at h
  | some o =>
    have ha := Us.own_get ho
    refine ⟨⟨o, rfl⟩, ?_, fun j => ?_, rfl⟩
    · unfold Us.own
      show (match aget (aput U.files f { o with gone := true }) f with | some o => if o.gone = true then none else some o | none => none) = _
      rw [aget_aput, if_pos rfl]; rfl
    · have := verOf_put U U.drew f { o with gone := true } j
      refine Eq.trans this ?_
      split
      · rename_i e; subst e; unfold verOf; rw [ha]; rfl
      · rfl
theorem change_grows {U : Us} {f : ByteArray} {g : Rt → Rt × Int} (h : (U.change f g).2 = 0) : ∃ o, U.own f = some o ∧ (g o.r).2 = 0 ∧ (U.change f g).1 = U.changed f o (g o.r).1 := by
  unfold Us.change at h ⊢
  cases ho : U.own f with
  | none => rw [ho] at h; simp at h
  | some o =>
    rw [ho] at h
    dsimp only at h ⊢
    by_cases h0 : (g o.r).2 ≠ 0
    · rw [if_pos h0] at h; exact absurd h h0
    · rw [if_neg h0]; exact ⟨o, rfl, by simpa using h0, rfl⟩
theorem verOf_own {U : Us} {f : ByteArray} {o : Ow} (h : U.own f = some o) : verOf U f = o.ver := by
  unfold verOf; rw [Us.own_get h]; rfl
theorem changed_grows {U : Us} {f : ByteArray} {o : Ow} (ho : U.own f = some o) (r : Rt) : ∃ q, (U.changed f o r).own f = some q ∧ q.ver = (verOf U f + 1) % 18446744073709551616 ∧ (∀ j, verOf (U.changed f o r) j = if j = f then (verOf U f + 1) % 18446744073709551616 else verOf U j) ∧
    ((r.epoch < o.sg.length ∧ (U.changed f o r).drew = U.drew ∧ q.sg = o.sg) ∨ (¬ r.epoch < o.sg.length ∧ (U.changed f o r).drew = U.drew + 1 ∧ q.sg = o.sg ++ [secT signU (pathB U.name f) (drawN U.seed U.drew)])) := by
  have hg := (Us.own_some ho).2
  have hv := verOf_own ho
  unfold Us.changed
  by_cases h : r.epoch < o.sg.length
  · rw [if_pos h]
    exact ⟨_, own_put U U.drew f _ hg, by rw [hv], fun j => by rw [hv]; exact verOf_put U U.drew f _ j, Or.inl ⟨h, rfl, rfl⟩⟩
  · rw [if_neg h]
    exact ⟨_, own_put U (U.drew + 1) f _ hg, by rw [hv], fun j => by rw [hv]; exact verOf_put U (U.drew + 1) f _ j, Or.inr ⟨h, rfl, rfl⟩⟩
theorem made_grows (U : Us) (f : ByteArray) (v : Nat) (hv : v = verOf U f) : ∃ q, (U.made f v).own f = some q ∧ q.ver = (verOf U f + 1) % 18446744073709551616 ∧ (∀ j, verOf (U.made f v) j = if j = f then (verOf U f + 1) % 18446744073709551616 else verOf U j) ∧ (U.made f v).drew = U.drew + 2 ∧
    q.root = secT rootU (pathB U.name f) (drawN U.seed U.drew) ∧ q.sg = [secT signU (pathB U.name f) (drawN U.seed (U.drew + 1))] := by
  subst hv
  unfold Us.made
  exact ⟨_, own_put U (U.drew + 2) f _ rfl, rfl, fun j => verOf_put U (U.drew + 2) f _ j, rfl, rfl, rfl⟩
end Go.Proofs.YtckblcfkajpofaaGreatDoor
namespace Go.Proofs.YtckblcfkajpofaaGreatDoor
open Go.RowKit
set_option linter.unusedVariables false
set_option linter.unusedSimpArgs false

structure Ow.tm (o : Ow) (k : ByteArray) : Prop where
  root : isT 4 100 (toL o.root)
  sg : ∀ s ∈ o.sg, isT 4 100 (toL s) ∧ kindL (toL s) ≠ 116
  file : k.size ≤ 5
  names : ∀ u ∈ o.r.rd ++ o.r.wr, u ∈ whoList
structure UsT (U : Us) : Prop where
  name : U.name = annaB
  all : ∀ k o, aget U.files k = some o → o.tm k
theorem secT_kind {u w : ByteArray} {n : Nat} (h : u.size + w.size ≤ 20) (hn : n < 18446744073709551616) : kindL (toL (secT u w n)) ≠ 116 := by
  have h1 := secT_is h hn
  have h2 : ∃ q, toL (secT u w n) = 104 :: q := by
    rw [secT_enc (by omega) hn]; exact ⟨_, rfl⟩
  obtain ⟨q, hq⟩ := h2
  rw [hq] at h1 ⊢
  rw [h1.kind (by omega) (by omega)]; decide
theorem UsT.put {U : Us} (h : UsT U) (k : Nat) {f : ByteArray} {q : Ow} (hq : q.tm f) : UsT { U with drew := k, files := aput U.files f q } :=
  ⟨h.name, fun j o ho => by
    have ho' : aget (aput U.files f q) j = some o := ho
    rw [aget_aput] at ho'
    split at ho'
    · rename_i e; cases ho'; subst e; exact hq
    · exact h.all j o ho'⟩
theorem path_small {f : ByteArray} (h : f.size ≤ 5) : (pathB annaB f).size ≤ 10 := by
  have h4 : annaB.size = 4 := rfl
  have h1 : (⟨#[47]⟩ : ByteArray).size = 1 := rfl
  unfold pathB
  rw [ByteArray.size_append, ByteArray.size_append]; omega
theorem sec_path {f : ByteArray} (h : f.size ≤ 5) {u : ByteArray} (hu : u.size = 4) (i s : Nat) : isT 4 100 (toL (secT u (pathB annaB f) (drawN s i))) ∧ kindL (toL (secT u (pathB annaB f) (drawN s i))) ≠ 116 := by
  have := path_small h
  exact ⟨secT_is (by omega) (mixN_lt _), secT_kind (by omega) (mixN_lt _)⟩
theorem UsT.changed {U : Us} (h : UsT U) {f : ByteArray} {o : Ow} (ho : U.own f = some o) {r : Rt} (hr : ∀ u ∈ r.rd ++ r.wr, u ∈ whoList) : UsT (U.changed f o r) := by
  have hq := h.all f o (Us.own_get ho)
  unfold Us.changed
  split
  · exact h.put U.drew ⟨hq.root, hq.sg, hq.file, hr⟩
  · refine h.put (U.drew + 1) ⟨hq.root, fun s hs => ?_, hq.file, hr⟩
    rcases List.mem_append.1 hs with hs | hs
    · exact hq.sg s hs
    · rw [List.mem_singleton] at hs
      subst hs
      rw [h.name]
      exact sec_path hq.file rfl _ _
theorem UsT.act {U : Us} (h : UsT U) (a : ActU) : UsT (U.act a).1 := by
  by_cases h0 : (U.act a).2 = 0
  · unfold Us.act at h0 ⊢
    by_cases h2 : pickZ a.op 9 < 2
    · rw [if_pos h2] at h0 ⊢
      obtain ⟨v, _, he⟩ := create_grows h0
      rw [he]
      unfold Us.made
      have hf : (fileB a.file).size ≤ 5 := fileB_size _
      refine h.put (U.drew + 2) ⟨?_, fun s hs => ?_, hf, fun u hu => by simp at hu⟩
      · rw [h.name]; exact (sec_path hf rfl _ _).1
      · rw [List.mem_singleton] at hs
        subst hs
        rw [h.name]
        exact sec_path hf rfl _ _
    · rw [if_neg h2] at h0 ⊢
      by_cases h5 : pickZ a.op 9 < 5
      · rw [if_pos h5] at h0 ⊢
        obtain ⟨o, ho, hz, he⟩ := change_grows h0
        rw [he]
        refine h.changed ho fun u hu => ?_
        rcases Rt.grant_mem hz u hu with rfl | hu
        · exact whoB_mem _
        · exact (h.all _ o (Us.own_get ho)).names u hu
      · rw [if_neg h5] at h0 ⊢
        by_cases h8 : pickZ a.op 9 < 8
        · rw [if_pos h8] at h0 ⊢
          obtain ⟨o, ho, hz, he⟩ := change_grows h0
          rw [he]
          exact h.changed ho fun u hu => (h.all _ o (Us.own_get ho)).names u (Rt.revoke_mem hz u hu)
        · rw [if_neg h8] at h0 ⊢
          unfold Us.remove at h0 ⊢
          cases ho : U.own (fileB a.file) with
          | none => rw [ho] at h0; simp at h0
          | some o =>
            have hq := h.all _ o (Us.own_get ho)
            exact h.put U.drew ⟨hq.root, hq.sg, hq.file, hq.names⟩
  · rw [Us.act_err h0]; exact h
theorem UsT.new (seed : Nat) : UsT (unew annaB seed) := ⟨rfl, fun k o ho => by simp [unew, aget] at ho⟩
/-- what is said of a file can be built -/
theorem UsT.bld {U : Us} (h : UsT U) (hok : U.ok) {f : ByteArray} {o : Ow} (ho : U.own f = some o) (hs : isT 4 100 (toL U.secret)) : Bld U.secret o.r o.root o.sg kn8 pkOf := by
  have hq := h.all f o (Us.own_get ho)
  have hk := hok.all f o (Us.own_get ho)
  have hw : ∀ u ∈ others o.r, u ∈ whoList := fun u hu => hq.names u (others_mem.1 hu)
  refine ⟨hs, hq.root, hk.right, hk.sgn, fun s hs => (hq.sg s hs).1, fun u hu => ⟨kn8_pub u (hw u hu), pkOf_is (by have := whoList_size u (hw u hu); omega)⟩, ?_, ?_, fun u hu => by have := whoList_size u (hw u hu); omega⟩
  · rw [hk.owner, h.name]; decide
  · rw [hk.file]; have := hq.file; omega
end Go.Proofs.YtckblcfkajpofaaGreatDoor
namespace Go.Proofs.YtckblcfkajpofaaGreatDoor
open Go.RowKit Go.Sort
set_option linter.unusedVariables false
set_option linter.unusedSimpArgs false

theorem MOwn.kept {w w' : World} {B z : Nat} {m : Mt} {vr vw vv vb : Value} {cur : Array Value} (h : MOwn w B m vr vw vv vb) (hz : w.heap[z]? = some (.cells cur 42 (0, 0))) (k : Keep (fun i => i = z) w w') : MOwn w' B m vr vw vv vb :=
  ⟨k.own h.rd fun g hg => own_ne_type h.rd hz (by decide) hg, k.own h.wr fun g hg => own_ne_type h.wr hz (by decide) hg, k.own h.vf fun g hg => own_ne_type h.vf hz (by decide) hg, k.own h.bl fun g hg => own_ne_type h.bl hz (by decide) hg⟩
def MetaRet (w : World) (secret : ByteArray) (r : Option Ow) (pk : ByteArray → ByteArray) (e : Ending) (w' : World) : Prop := Below w.heap.size w w' ∧ match r with
  | none => e = .returned (.tuple #[.agg zero9, .int .i64 4])
  | some o => ∃ vr vw vv vb, e = .returned (.tuple #[agM (builtM secret o.r o.ver o.root o.sg pk) vr vw vv vb, .int .i64 0]) ∧ MLists w' (builtM secret o.r o.ver o.root o.sg pk) vr vw vv vb
set_option maxRecDepth 100000 in
set_option maxHeartbeats 4000000 in
theorem umeta_calls {w : World} {U : Us} {F : Nat → Prop} {p d b m : Nat} {rows : List (ByteArray × Rw)} (h : UsAt w U F p d b m rows) (hok : U.ok) (f : ByteArray) (vk : Value) (kn : Knowns) (pk : ByteArray → ByteArray) (hkn : rowsOf 2 twoV w vk kn) (hks : ∀ x ∈ kn, x.2.size ≤ 9223372036854775807) (hbld : ∀ o, U.own f = some o → Bld U.secret o.r o.root o.sg kn pk ∧ o.ver < 18446744073709551616) (hT : Tabs w) :
    Calls Tryz.prog 93 #[.pointer (some ⟨p, 0, none⟩), .string f, vk] w (MetaRet w U.secret (U.own f) pk) := by
  obtain ⟨W0, hW0⟩ : ∃ W0, w.alloc (.cells #[.string ⟨#[]⟩, .string ⟨#[]⟩, .int .i64 0, .slice none 0 0, .slice none 0 0, .int .u64 0, .slice none 0 0, .slice none 0 0, .string ⟨#[]⟩] 42) = W0 := ⟨_, rfl⟩
  have hb0 : Below w.heap.size w W0 := by rw [← hW0]; exact (Below.refl _ w).alloc (Nat.le_refl _) _
  have hs0 : W0.heap.size = w.heap.size + 1 := by rw [← hW0, size_alloc]
  have hr0 : W0.heap[w.heap.size]? = some (.cells zero9 42 (0, 0)) := by rw [← hW0, get_alloc, if_pos rfl]
  have HU0 := Lib.hid (h.below hb0)
  have HOW := Lib.hid (uown_calls (h.below hb0) hok f)
  have HK0 := Lib.hid (hkn.below hb0)
  have HT0 := Lib.hid (hT.below hb0)
  have HB0 := Lib.hid hb0
  have HR0 := Lib.hid hr0
  have HS0 := Lib.hid hs0
  have HKS := Lib.hid hks
  have HBL := Lib.hid hbld
  obtain ⟨AK, cK, rfl, _, _⟩ := hkn.form
  obtain ⟨nk, hnk⟩ : ∃ n, kn.length = n := ⟨_, rfl⟩
  rw [hnk] at HK0 ⊢
  obtain ⟨R, hR⟩ : ∃ r, w.heap.size = r := ⟨_, rfl⟩
  rw [hR] at HR0 HS0
  have HR := Lib.hid hR
  clear h hok hkn hks hbld hT hb0 hs0 hr0 hnk
  go_enter Tryz.func93, Tryz.ntmps93
  go_wp2_with fail
  refine HOW.out.mono ?_
  rintro e w1 ⟨hb1, he⟩
  have HB1 := Lib.hid (HB0.out.trans (hb1.mono HB0.out.size))
  have HR1 := Lib.hid ((Keep.of_below hb1 : Keep (fun _ => False) W0 w1).at HR0.out fun e => e)
  have HU1 := Lib.hid (HU0.out.below hb1)
  have HK1 := Lib.hid (HK0.out.below hb1)
  have HT1 := Lib.hid (HT0.out.below hb1)
  have HRS : Hid (R < w1.heap.size) := Lib.hid (Array.getElem?_eq_some_iff.1 HR1.out).1
  clear hb1 hW0 hR
  cases ho : U.own f with
  | none =>
    rw [ho] at he
    dsimp only at he
    subst he
    have HO := Lib.hid ho
    clear ho
    dsimp only [zeroO]
    go_wp2_with (with_reducible refine wp_stop_store (o := ⟨none, .store _ (.tmp 8) _, _, _, _, _⟩) _ _ _ rfl ?_)
    unfold Stop
    refine wp_store_all rfl _ _ _ rfl rfl rfl _ _ ((get_alloc _ _ _).trans (if_pos rfl)) info_ow rfl (by simp [Value.oneCell']) ?_
    intro w2 h2 k2 s2
    have hb12 : Below w1.heap.size w1 w2 := below_at ((Below.refl w1.heap.size w1).alloc (Nat.le_refl _) _) k2 (Nat.le_refl _)
    have HB2 := Lib.hid (HB1.out.trans (hb12.mono HB1.out.size))
    have HR2 := Lib.hid ((Keep.of_below hb12 : Keep (fun _ => False) w1 w2).at HR1.out fun e => e)
    clear h2 k2 s2 hb12
    go_wp2_with (with_reducible refine wp_stop_store (o := ⟨none, .store _ (.tmp 6) _, _, _, _, _⟩) _ _ _ rfl ?_)
    unfold Stop
    refine wp_store_all rfl _ _ _ rfl rfl rfl _ _ HR2.out info_mt rfl (by simp [Value.oneCell']) ?_
    intro w3 h3 k3 s3
    have HF : Hid (Below w.heap.size w w3) := Lib.hid (below_at HB2.out k3 (by rw [HR.out]; exact Nat.le_refl _))
    obtain ⟨c0, c1, c2, c3, c4, c5, c6, c7, c8⟩ := row9 h3
    clear h3 k3 s3
    go_wp2_with fail
    exact bodyPost_ret (v := .tuple #[.agg zero9, .int .i64 4]) (by simp [results, Tryz.results93, go_sem, c0, c1, c2, c3, c4, c5, c6, c7, c8]) rfl ⟨HF.out, by simp only [HO.out]⟩
  | some o =>
    rw [ho] at he
    dsimp only at he
    obtain ⟨vr, vw, vs, rfl, hoo⟩ := he
    obtain ⟨hbl, hov⟩ := HBL.out o ho
    have hL1 := hoo.lists
    obtain ⟨A, ca, rfl, _, _⟩ := own_slice hoo.rd
    obtain ⟨C, cb, rfl, _, _⟩ := own_slice hoo.wr
    obtain ⟨D, cd, rfl, _, _⟩ := own_slice hoo.sg
    have HL1 := Lib.hid hL1
    have HO := Lib.hid ho
    have HBD := Lib.hid (And.intro hbl hov)
    clear ho hoo hbl hov hL1
    dsimp only [agO]
    go_wp2_with (with_reducible refine wp_stop_store (o := ⟨none, .store _ (.tmp 8) _, _, _, _, _⟩) _ _ _ rfl ?_)
    unfold Stop
    refine wp_store_all rfl _ _ _ rfl rfl rfl _ _ ((get_alloc _ _ _).trans (if_pos rfl)) info_ow rfl (by simp [Value.oneCell']) ?_
    intro w2 h2 k2 s2
    obtain ⟨Z, hZ⟩ : ∃ Z, w1.heap.size = Z := ⟨_, rfl⟩
    have hb12 : Below w1.heap.size w1 w2 := below_at ((Below.refl w1.heap.size w1).alloc (Nat.le_refl _) _) k2 (Nat.le_refl _)
    have HB2 := Lib.hid (HB1.out.trans (hb12.mono HB1.out.size))
    have HR2 := Lib.hid ((Keep.of_below hb12 : Keep (fun _ => False) w1 w2).at HR1.out fun e => e)
    have HL2 := Lib.hid (HL1.out.below hb12)
    have HK2 := Lib.hid (HK1.out.below hb12)
    have HT2 := Lib.hid (HT1.out.below hb12)
    have hu2 := HU1.out.below hb12
    rw [hZ] at h2 ⊢
    obtain ⟨u0, u1, u2, u3, u4⟩ := hu2.cells
    have HSS : Hid (∀ W2, Below w2.heap.size w2 W2 → (W2.cell? ⟨p, 1, none⟩ = some (.string U.secret) ∧ W2.cell? ⟨Z, 0, none⟩ = some (.string o.r.owner) ∧ W2.cell? ⟨Z, 1, none⟩ = some (.string o.r.file) ∧ W2.cell? ⟨Z, 2, none⟩ = some (.int .i64 o.r.epoch) ∧ W2.cell? ⟨Z, 3, none⟩ = some (.slice A o.r.rd.length ca) ∧ W2.cell? ⟨Z, 4, none⟩ = some (.slice C o.r.wr.length cb) ∧ W2.cell? ⟨Z, 5, none⟩ = some (.int .u64 o.ver) ∧ W2.cell? ⟨Z, 6, none⟩ = some (.string o.root) ∧ W2.cell? ⟨Z, 7, none⟩ = some (.slice D o.sg.length cd))) := Lib.hid (fun W2 hb => by
      obtain ⟨e0, e1, e2, e3, e4, e5, e6, e7, _⟩ := row9 ((Keep.of_below hb : Keep (fun _ => False) w2 W2).at h2 fun e => e)
      exact ⟨(Keep.of_below hb : Keep (fun _ => False) w2 W2).cell u1 fun e => e, e0, e1, e2, e3, e4, e5, e6, e7⟩)
    have hbu := fun W hb => build_calls W U.secret o.root o.r _ _ _ _ o.ver o.sg kn pk ((HL2.out.rt).below hb) (HL2.out.sg.below hb) (HK2.out.below hb) HBD.out.1 HBD.out.2 (HT2.out.below hb) HKS.out
    obtain ⟨BM, hBM⟩ : ∃ B, builtM U.secret o.r o.ver o.root o.sg pk = B := ⟨_, rfl⟩
    simp only [hBM] at hbu
    have HBU := Lib.hid hbu
    have HBM := Lib.hid hBM
    clear h2 k2 s2 hb12 hu2 hZ u0 u1 u2 u3 u4 hbu hBM
    go_wp2_with fail
    refine wp_region_G (fun W2 => W2.cell? ⟨p, 1, none⟩ = some (.string U.secret) ∧ W2.cell? ⟨Z, 0, none⟩ = some (.string o.r.owner) ∧ W2.cell? ⟨Z, 1, none⟩ = some (.string o.r.file) ∧ W2.cell? ⟨Z, 2, none⟩ = some (.int .i64 o.r.epoch) ∧ W2.cell? ⟨Z, 3, none⟩ = some (.slice A o.r.rd.length ca) ∧ W2.cell? ⟨Z, 4, none⟩ = some (.slice C o.r.wr.length cb) ∧ W2.cell? ⟨Z, 5, none⟩ = some (.int .u64 o.ver) ∧ W2.cell? ⟨Z, 6, none⟩ = some (.string o.root) ∧ W2.cell? ⟨Z, 7, none⟩ = some (.slice D o.sg.length cd)) [16] (by kernel_rfl) ?_
    have hb0 : Below w2.heap.size w2 w2.drew := (Below.refl w2.heap.size w2).drew
    have hS := HSS.out _ hb0
    refine wpAnyG_pure (i := 0) (v := ?va0) at0 (by kernel_rfl) (fun _ _ _ h => h) (Or.inl ⟨by rfl, ?ha0⟩) (Or.inr (by assumption)) ?ra0
    case ha0 => (intro w hSw; (try dsimp only at hSw); go_simp; try with_reducible rfl)
    case' ra0 => skip
    try simp only [Act.put, List.setIfInBounds_toArray, List.set_cons_zero, List.set_cons_succ]
    refine wpAnyG_pure (i := 1) (v := ?va1) at1 (by kernel_rfl) (fun _ _ _ h => h) (Or.inl ⟨by rfl, ?ha1⟩) (Or.inr (by assumption)) ?ra1
    case ha1 => (intro w hSw; (try dsimp only at hSw); go_simp; try with_reducible rfl)
    case' ra1 => skip
    try simp only [Act.put, List.setIfInBounds_toArray, List.set_cons_zero, List.set_cons_succ]
    refine wpAnyG_pure (i := 2) (v := ?va2) at2 (by kernel_rfl) (fun _ _ _ h => h) (Or.inl ⟨by rfl, ?ha2⟩) (Or.inr (by assumption)) ?ra2
    case ha2 => (intro w hSw; (try dsimp only at hSw); go_simp; try with_reducible rfl)
    case' ra2 => skip
    try simp only [Act.put, List.setIfInBounds_toArray, List.set_cons_zero, List.set_cons_succ]
    refine wpAnyG_take (ws := [3,5,7,9,11]) (i := 3) (v := ?va3) at3 (by kernel_rfl) (fun _ _ _ h => h) (Or.inl ⟨by rfl, ?ha3⟩) (by assumption) ?ra3
    case ha3 => (intro w hSw; (try dsimp only at hSw); go_simp; try with_reducible rfl)
    case' ra3 => skip
    try simp only [Act.put, List.setIfInBounds_toArray, List.set_cons_zero, List.set_cons_succ]
    refine wpAnyG_pure (i := 4) (v := ?va4) at4 (by kernel_rfl) (fun _ _ _ h => h) (Or.inl ⟨by rfl, ?ha4⟩) (Or.inr (by assumption)) ?ra4
    case ha4 => (intro w hSw; (try dsimp only at hSw); go_simp; try with_reducible rfl)
    case' ra4 => skip
    try simp only [Act.put, List.setIfInBounds_toArray, List.set_cons_zero, List.set_cons_succ]
    refine wpAnyG_take (ws := [3,5,7,9,11]) (i := 5) (v := ?va5) at5 (by kernel_rfl) (fun _ _ _ h => h) (Or.inl ⟨by rfl, ?ha5⟩) (by assumption) ?ra5
    case ha5 => (intro w hSw; (try dsimp only at hSw); go_simp; try with_reducible rfl)
    case' ra5 => skip
    try simp only [Act.put, List.setIfInBounds_toArray, List.set_cons_zero, List.set_cons_succ]
    refine wpAnyG_pure (i := 6) (v := ?va6) at6 (by kernel_rfl) (fun _ _ _ h => h) (Or.inl ⟨by rfl, ?ha6⟩) (Or.inr (by assumption)) ?ra6
    case ha6 => (intro w hSw; (try dsimp only at hSw); go_simp; try with_reducible rfl)
    case' ra6 => skip
    try simp only [Act.put, List.setIfInBounds_toArray, List.set_cons_zero, List.set_cons_succ]
    refine wpAnyG_take (ws := [3,5,7,9,11]) (i := 7) (v := ?va7) at7 (by kernel_rfl) (fun _ _ _ h => h) (Or.inl ⟨by rfl, ?ha7⟩) (by assumption) ?ra7
    case ha7 => (intro w hSw; (try dsimp only at hSw); go_simp; try with_reducible rfl)
    case' ra7 => skip
    try simp only [Act.put, List.setIfInBounds_toArray, List.set_cons_zero, List.set_cons_succ]
    refine wpAnyG_pure (i := 8) (v := ?va8) at8 (by kernel_rfl) (fun _ _ _ h => h) (Or.inl ⟨by rfl, ?ha8⟩) (Or.inr (by assumption)) ?ra8
    case ha8 => (intro w hSw; (try dsimp only at hSw); go_simp; try with_reducible rfl)
    case' ra8 => skip
    try simp only [Act.put, List.setIfInBounds_toArray, List.set_cons_zero, List.set_cons_succ]
    refine wpAnyG_take (ws := [3,5,7,9,11]) (i := 9) (v := ?va9) at9 (by kernel_rfl) (fun _ _ _ h => h) (Or.inl ⟨by rfl, ?ha9⟩) (by assumption) ?ra9
    case ha9 => (intro w hSw; (try dsimp only at hSw); go_simp; try with_reducible rfl)
    case' ra9 => skip
    try simp only [Act.put, List.setIfInBounds_toArray, List.set_cons_zero, List.set_cons_succ]
    refine wpAnyG_pure (i := 10) (v := ?va10) at10 (by kernel_rfl) (fun _ _ _ h => h) (Or.inl ⟨by rfl, ?ha10⟩) (Or.inr (by assumption)) ?ra10
    case ha10 => (intro w hSw; (try dsimp only at hSw); go_simp; try with_reducible rfl)
    case' ra10 => skip
    try simp only [Act.put, List.setIfInBounds_toArray, List.set_cons_zero, List.set_cons_succ]
    refine wpAnyG_take (ws := [3,5,7,9,11]) (i := 11) (v := ?va11) at11 (by kernel_rfl) (fun _ _ _ h => h) (Or.inl ⟨by rfl, ?ha11⟩) (by assumption) ?ra11
    case ha11 => (intro w hSw; (try dsimp only at hSw); go_simp; try with_reducible rfl)
    case' ra11 => skip
    try simp only [Act.put, List.setIfInBounds_toArray, List.set_cons_zero, List.set_cons_succ]
    refine wpAnyG_pure (i := 12) (v := ?va12) at12 (by kernel_rfl) (fun _ _ _ h => h) (Or.inl ⟨by rfl, ?ha12⟩) (Or.inr (by assumption)) ?ra12
    case ha12 => (intro w hSw; (try dsimp only at hSw); go_simp; try with_reducible rfl)
    case' ra12 => skip
    try simp only [Act.put, List.setIfInBounds_toArray, List.set_cons_zero, List.set_cons_succ]
    refine wpAnyG_one 13 at13 (by kernel_rfl) (fun Kn hK => ?_)
    go_simp
    refine (HBU.out _ hb0).mono ?_
    rintro e x ⟨⟨vr, vw, vv, vb, rfl, hmo⟩, hq⟩
    obtain ⟨Am, cm1, rfl, _, _⟩ := own_slice hmo.rd
    obtain ⟨Bm, cm2, rfl, _, _⟩ := own_slice hmo.wr
    obtain ⟨Cm, cm3, rfl, _, _⟩ := own_slice hmo.vf
    obtain ⟨Dm, cm4, rfl, _, _⟩ := own_slice hmo.bl
    have HMB := Lib.hid hmo
    have hb1 := hb0.trans (hq.mono hb0.size)
    have hrow := (Keep.of_below hb1 : Keep (fun _ => False) w2 x).at HR2.out fun e => e
    clear hS
    have hS := HSS.out _ hb1
    refine hK.out _ _ (Or.inr hS) ?_
    clear hK Kn hq hmo
    try simp only [Act.put, List.setIfInBounds_toArray, List.set_cons_zero, List.set_cons_succ]
    refine wpAnyG_pure (i := 14) (v := ?vb14) at14 (by kernel_rfl) (fun _ _ _ h => h) (Or.inl ⟨by rfl, ?hb14⟩) (Or.inr (by assumption)) ?rb14
    case hb14 => (intro w hSw; (try dsimp only at hSw); go_simp; try with_reducible rfl)
    case' rb14 => skip
    try simp only [Act.put, List.setIfInBounds_toArray, List.set_cons_zero, List.set_cons_succ]
    refine wpAnyG_pure (i := 15) (v := ?vb15) at15 (by kernel_rfl) (fun _ _ _ h => h) (Or.inl ⟨by rfl, ?hb15⟩) (Or.inr (by assumption)) ?rb15
    case hb15 => (intro w hSw; (try dsimp only at hSw); go_simp; try with_reducible rfl)
    case' rb15 => skip
    try simp only [Act.put, List.setIfInBounds_toArray, List.set_cons_zero, List.set_cons_succ]
    refine wpAnyG_one 16 at16 (by kernel_rfl) (fun Kn hK => ?_)
    refine step_store_all rfl _ _ _ rfl rfl rfl _ _ hrow info_mt rfl (by simp [Value.oneCell']) ?_
    intro y9 h9 k9 s9
    refine hK.out _ _ (Or.inl (by kernel_rfl)) ?_
    have HF : Hid (Below w.heap.size w y9) := Lib.hid (below_at (HB2.out.trans (hb1.mono HB2.out.size)) k9 (by rw [HR.out]; exact Nat.le_refl _))
    have HML := Lib.hid (HMB.out.kept hrow k9).lists
    obtain ⟨c0, c1, c2, c3, c4, c5, c6, c7, c8⟩ := row9 h9
    clear hK Kn h9 k9 s9 hS hrow hb0 hb1
    try simp only [Act.put, List.setIfInBounds_toArray, List.set_cons_zero, List.set_cons_succ]
    refine wpAnyG_one 17 at17 (by kernel_rfl) (fun Kn hK => ?_)
    go_simp
    refine hK.out _ _ (Or.inl (by kernel_rfl)) ?_
    clear hK Kn
    refine wpAnyG_done (by kernel_rfl) ?_
    try simp only [Act.put, List.setIfInBounds_toArray, List.set_cons_zero, List.set_cons_succ]
    go_wp2_with fail
    refine bodyPost_ret (v := .tuple #[agM BM (.slice Am BM.r.rd.length cm1) (.slice Bm BM.r.wr.length cm2) (.slice Cm BM.vf.length cm3) (.slice Dm BM.bl.length cm4), .int .i64 0]) (by simp [results, Tryz.results93, go_sem, c0, c1, c2, c3, c4, c5, c6, c7, c8]) rfl ⟨HF.out, ?_⟩
    simp only [HO.out, HBM.out]
    exact ⟨_, _, _, _, rfl, HML.out⟩
end Go.Proofs.YtckblcfkajpofaaGreatDoor
namespace Go.Proofs.YtckblcfkajpofaaGreatDoor
open Go.RowKit Go.Sort
set_option linter.unusedVariables false
set_option linter.unusedSimpArgs false

set_option maxRecDepth 100000 in
set_option maxHeartbeats 800000 in
theorem secretOf14_calls (s : ByteArray) (w : World) (hs : s.size ≤ 16) :
    Calls Tryz.prog 100 #[.string s] w fun e w' => e = .returned (.string (secOf s)) ∧ Below w.heap.size w w' := by
  have HC := Lib.hid (fun W => secret_small (u := userB) (s := s) (n := 1) (by have : userB.size = 4 := rfl; omega) (by decide) W)
  obtain ⟨T, hT⟩ : ∃ T, secOf s = T := ⟨_, rfl⟩
  rw [show secT userB s 1 = T from hT] at HC
  rw [hT]
  clear hT
  go_enter Tryz.func100, Tryz.ntmps100
  go_wp2_with fail
  refine (HC.out _).mono ?_
  rintro e w1 ⟨rfl, hb⟩
  have HB := Lib.hid hb
  clear hb
  go_wp2_with fail
  go_ret
  exact ⟨rfl, HB.out⟩
set_option maxRecDepth 100000 in
set_option maxHeartbeats 2000000 in
theorem known14_calls (w : World) :
    Calls Tryz.prog 94 #[] w fun e w' => ∃ v, e = .returned v ∧ w'.ownsRow w.heap.size 75 2 v kn8.length (pairV kn8) ∧ Below w.heap.size w w' := by
  have HW := Lib.hid (fun (k : Nat) (hk : k < 8) W => who_calls k W (by omega) (by omega))
  have HS := Lib.hid (fun (k : Nat) W => secretOf14_calls (whoB k) W (by have := whoB_size k; omega))
  have HP := Lib.hid (fun (k : Nat) W => public_small (secOf_is (u := whoB k) (by have := whoB_size k; omega)) W)
  go_enter Tryz.func94, Tryz.ntmps94
  go_wp2_with fail
  go_loopw [1, 2, 3, 4] (fun out i t3 t4 wr => ∃ (k : Nat) (o : Knowns), k ≤ 8 ∧ i = .int .i64 k ∧ o.length = k ∧ Hid (o = kn8.take k) ∧ Hid (wr.ownsRow w.heap.size 75 2 out o.length (pairV o) ∧ Below w.heap.size w wr)) (fun _ i _ _ _ => 8 - (intOf i).toNat)
  case atStart => exact ⟨0, [], by omega, rfl, rfl, Lib.hid rfl, Lib.hid ⟨World.ownsRow_nil _ _ _ _, Below.refl _ _⟩⟩
  case round =>
    obtain ⟨k, o, hk, rfl, hol, HE, HO⟩ := hrel
    obtain ⟨D, cd, rfl, _, _⟩ := own_slice HO.out.1
    by_cases hlt : k < 8
    · have hkk : (k : Int) < 8 := by omega
      obtain ⟨X, hX⟩ : ∃ X, whoB k = X := ⟨_, rfl⟩
      obtain ⟨Y, hY⟩ : ∃ Y, pkOf X = Y := ⟨_, rfl⟩
      obtain ⟨SX, hSX⟩ : ∃ S, secOf X = S := ⟨_, rfl⟩
      have hw1 := HW.out k hlt
      have hs1 := HS.out k
      have hp1 := HP.out k
      have he : mkB (117 :: toL (secOf X)) = pkOf X := rfl
      simp only [hX] at hw1 hs1 hp1
      simp only [he] at hp1
      simp only [hY] at hp1
      simp only [hSX] at hs1 hp1
      have HW1 := Lib.hid hw1
      have HS1 := Lib.hid hs1
      have HP1 := Lib.hid hp1
      have HE2 : Hid (o ++ [(X, Y)] = kn8.take (k + 1)) := Lib.hid (by rw [HE.out, List.take_add_one, kn8_at hlt, hX, hY]; rfl)
      have HL1 : Hid ((o ++ [(X, Y)]).length = k + 1) := Lib.hid (by rw [List.length_append, hol]; rfl)
      have HOL := Lib.hid hol
      rw [hol]
      clear hX hY hSX hw1 hs1 hp1 he hol
      go_wp2_with fail
      refine (HW1.out _).mono ?_
      rintro e w1 ⟨rfl, hb1⟩
      go_wp2_with fail
      refine (HS1.out _).mono ?_
      rintro e w2 ⟨rfl, hb2⟩
      go_wp2_with fail
      refine (HP1.out _).mono ?_
      rintro e w3 ⟨rfl, hb3⟩
      go_wp2_with fail
      refine (HW1.out _).mono ?_
      rintro e w4 ⟨rfl, hb4⟩
      have hbb := hb1.trans ((hb2.trans ((hb3.trans (hb4.mono hb3.size)).mono hb2.size)).mono hb1.size)
      obtain ⟨p', w5, hrun, ho5, hk5, _⟩ := append_pair Tryz.underlying72 info_kn (own_below HO.out.1 hbb) (X, Y) (by have := HOL.out; omega) (Nat.le_trans HO.out.2.size hbb.size)
      have HX : Hid (w5.ownsRow w.heap.size 75 2 p' (o ++ [(X, Y)]).length (pairV (o ++ [(X, Y)])) ∧ Below w.heap.size w w5) := Lib.hid ⟨ho5, below_own (HO.out.2.trans (hbb.mono HO.out.2.size)) (own_below HO.out.1 hbb) hk5⟩
      rw [HOL.out] at hrun
      dsimp only at hrun
      clear hb1 hb2 hb3 hb4 hbb ho5 hk5
      go_wp2_with (at_builtin; refine wp_append_run rfl _ _ _ rfl rfl rfl hrun ?_)
      clear hrun
      go_wp2_with fail
      go_roundw
      case rel => exact ⟨k + 1, o ++ [(X, Y)], by omega, by go_num, HL1.out, HE2, HX⟩
      case measure => simp [intOf]; omega
    · obtain rfl : k = 8 := by omega
      have HF : Hid (o = kn8) := Lib.hid (by rw [HE.out, List.take_of_length_le (by rw [kn8_len]; omega)])
      go_wp2_with fail
      go_ret
      exact ⟨_, rfl, by rw [← HF.out]; exact HO.out.1, HO.out.2⟩
end Go.Proofs.YtckblcfkajpofaaGreatDoor
namespace Go.Proofs.YtckblcfkajpofaaGreatDoor
open Go.RowKit Go.Sort
set_option linter.unusedVariables false
set_option linter.unusedSimpArgs false

theorem unboxT_err {s c : List UInt8} {e : Int} (h : unboxT s c = .error e) : e ≠ 0 := by
  unfold unboxT underT at h
  split at h
  · split at h
    · split at h
      · split at h
        · cases h
        · cases h; decide
      · cases h; decide
    · cases h; decide
  · cases h; decide
theorem unboxT_right {s c t : List UInt8} (h : unboxT s c = .ok t) : ∃ u : Tm, t = u.enc ∧ whole t = some u := by
  unfold unboxT underT at h
  split at h
  · split at h
    · rename_i j a b hw
      split at h
      · split at h
        · cases h
          exact ⟨b, rfl, (whole_two hw).2⟩
        · cases h
      · cases h
    · cases h
  · cases h
def openV (x : ByteArray × ByteArray × Int) : Value := .tuple #[.string x.1, .string x.2.1, .int .i64 x.2.2]
theorem findIdx_find {α : Type} {p : α → Bool} {l : List α} {i : Nat} (h : l.findIdx? p = some i) : ∃ x, l[i]? = some x ∧ p x = true ∧ l.find? p = some x := by
  induction l generalizing i with
  | nil => simp at h
  | cons y l ih =>
    rw [List.findIdx?_cons] at h
    by_cases hy : p y = true
    · rw [if_pos hy] at h
      cases h
      exact ⟨y, rfl, hy, by rw [List.find?_cons, hy]⟩
    · rw [if_neg hy] at h
      cases hi : l.findIdx? p with
      | none => rw [hi] at h; simp at h
      | some j =>
        rw [hi] at h
        cases h
        obtain ⟨x, h1, h2, h3⟩ := ih hi
        exact ⟨x, h1, h2, by rw [List.find?_cons]; simp [hy, h3]⟩
theorem findIdx_none {α : Type} {p : α → Bool} {l : List α} (h : l.findIdx? p = none) : l.find? p = none := by
  rw [List.findIdx?_eq_none_iff] at h
  rw [List.find?_eq_none]
  intro x hx
  simp [h x hx]
set_option maxRecDepth 100000 in
set_option maxHeartbeats 4000000 in
theorem open_calls (w : World) (m : Mt) (vr vw vv vb : Value) (user secret : ByteArray) (hl : MLists w m vr vw vv vb) (hT : Tabs w) (hw : m.wf) (hr : rightM m = true) (hs : rightT (toL secret) = true) (hss : secret.size ≤ 9223372036854775807) :
    Calls Tryz.prog 72 #[agM m vr vw vv vb, .string user, .string secret] w fun e w' => e = .returned (openV (openM m user secret)) ∧ Below w.heap.size w w' := by
  have hx0 := mt_box hl hT
  obtain ⟨W, hW⟩ : ∃ W, (w.alloc (.cells (mtCells m vr vw vv vb) 42)).alloc (.cells #[.string user] 9) = W := ⟨_, rfl⟩
  have hx1 : MtAt w W w.heap.size m vr vw vv vb := by rw [← hW]; exact hx0.next ((Below.refl _ _).alloc (Nat.le_refl _) _)
  have hc : W.cell? ⟨w.heap.size + 1, 0, none⟩ = some (.string user) := by
    rw [← hW, cell_of_row _ _ _ _ _ _ ((get_alloc _ _ _).trans (if_pos (by simp [size_alloc])))]; rfl
  have HX := Lib.hid hx1
  have HU := Lib.hid hc
  have hgood := rightM_good hr
  have hbs : ∀ x ∈ m.bl, x.2.size ≤ 9223372036854775807 := fun x hx => (hw.bl x hx).2
  obtain ⟨A, ca, rfl, a1, a2, _⟩ := hl.rt.rd
  obtain ⟨C, cb, rfl, b1, b2, _⟩ := hl.rt.wr
  obtain ⟨D, cd, rfl, d1, d2⟩ := hl.vf.form
  obtain ⟨E, ce, rfl, e1, e2⟩ := hl.bl.form
  have hRT := fun w' (h : MtAt w w' w.heap.size m (.slice A m.r.rd.length ca) (.slice C m.r.wr.length cb) (.slice D m.vf.length cd) (.slice E m.bl.length ce)) => mright_calls w' m _ _ _ _ h.lists h.tabs hw
  simp only [hr] at hRT
  have hKD := fun w' => kind_calls secret w' hss
  have hk0 : ((kindL (toL secret)).toNat : Int) ≠ 0 := by
    intro e
    have e2 : kindL (toL secret) = 0 := UInt8.toNat_inj.1 (by show _ = 0; omega)
    have := (kindL_zero (toL secret)).1 e2
    unfold rightT at hs
    rw [this] at hs
    cases hs
  have hk1 : (((kindL (toL secret)).toNat : Int) == 0) = false := beq_eq_false_iff_ne.2 hk0
  obtain ⟨K, hK⟩ : ∃ K, ((kindL (toL secret)).toNat : Int) = K := ⟨_, rfl⟩
  simp only [hK] at hKD hk1
  have hIX := fun w' (h : MtAt w w' w.heap.size m (.slice A m.r.rd.length ca) (.slice C m.r.wr.length cb) (.slice D m.vf.length cd) (.slice E m.bl.length ce)) (h2 : w'.cell? ⟨w.heap.size + 1, 0, none⟩ = some (.string user)) => idxBlock_calls w' _ m.bl user (w.heap.size + 1) h.lists.bl h2
  have hOM : openM m user secret = match m.bl.find? (fun x => decide (x.1 = user)) with
    | none => (⟨#[]⟩, ⟨#[]⟩, 6)
    | some b => match unboxT (toL secret) (toL b.2) with
      | .error _ => (⟨#[]⟩, ⟨#[]⟩, 7)
      | .ok t => if kindL t ≠ 112 then (⟨#[]⟩, ⟨#[]⟩, 7) else if kindL (toL (nthB (partsL t) 1)) = 116 then (nthB (partsL t) 0, ⟨#[]⟩, 0) else (nthB (partsL t) 0, nthB (partsL t) 1, 0) := by
    unfold openM
    rw [if_neg (by rw [hr, hs]; simp)]
    all_goals rfl
  obtain ⟨G, hG⟩ : ∃ G, openM m user secret = G := ⟨_, rfl⟩
  rw [hG] at hOM ⊢
  obtain ⟨nb, hnb⟩ : ∃ n, m.bl.length = n := ⟨_, rfl⟩
  have HNB : Hid (m.bl.length = nb ∧ nb ≤ 5) := Lib.hid ⟨hnb, by have := hgood.nb; omega⟩
  have HBS := Lib.hid hbs
  have HSS := Lib.hid hss
  have HRT := Lib.hid hRT
  have HKD := Lib.hid hKD
  have HOM := Lib.hid hOM
  simp only [mtCells] at hW
  clear hl hT hw hr hs hss hx0 hx1 hc hgood hbs hRT hKD hK hk0 hG hOM hnb
  have hcells := HX.out.cells
  obtain ⟨⟨c0, c1, c2, c3, c4⟩, c5, c6, c7, c8⟩ := hcells
  cases hf : m.bl.findIdx? (fun x => decide (x.1 = user)) with
  | none =>
    have hi : idxI (fun x : ByteArray × ByteArray => decide (x.1 = user)) m.bl = -1 := by unfold idxI; rw [hf]
    have HG : Hid (G = (⟨#[]⟩, ⟨#[]⟩, 6)) := Lib.hid (by rw [HOM.out, findIdx_none hf])
    simp only [hi] at hIX
    have HIX := Lib.hid hIX
    clear hIX hf hi
    go_enter Tryz.func72, Tryz.ntmps72
    go_wp2_with fail
    refine (HRT.out _ HX.out).mono ?_
    rintro e w1 ⟨rfl, hb⟩
    have X1 := Lib.hid (HX.out.next hb)
    have U1 := Lib.hid ((Keep.of_below hb : Keep (fun _ => False) _ _).cell HU.out fun e => e)
    clear hb
    clear c0 c1 c2 c3 c4 c5 c6 c7 c8
    have hcells := X1.out.cells
    obtain ⟨⟨c0, c1, c2, c3, c4⟩, c5, c6, c7, c8⟩ := hcells
    have hu1 := U1.out
    go_wp2_with fail
    refine (HKD.out _).mono ?_
    rintro e w2 ⟨rfl, hb⟩
    have X2 := Lib.hid (X1.out.next hb)
    have U2 := Lib.hid ((Keep.of_below hb : Keep (fun _ => False) _ _).cell U1.out fun e => e)
    clear hb
    clear c0 c1 c2 c3 c4 c5 c6 c7 c8
    have hcells := X2.out.cells
    obtain ⟨⟨c0, c1, c2, c3, c4⟩, c5, c6, c7, c8⟩ := hcells
    have hu2 := U2.out
    go_wp2_with fail
    refine (HIX.out _ X2.out U2.out).mono ?_
    rintro e w3 ⟨rfl, hb⟩
    have X3 := Lib.hid (X2.out.next hb)
    have U3 := Lib.hid ((Keep.of_below hb : Keep (fun _ => False) _ _).cell U2.out fun e => e)
    clear hb
    go_wp2_with fail
    go_ret3
    exact ⟨by rw [HG.out]; rfl, X3.out.below⟩
  | some i =>
    obtain ⟨⟨uu, c⟩, hx, hpx, hfind⟩ := findIdx_find hf
    have hi : idxI (fun x : ByteArray × ByteArray => decide (x.1 = user)) m.bl = (i : Int) := by unfold idxI; rw [hf]
    simp only [hi] at hIX
    have HIX := Lib.hid hIX
    have hilt : i < nb := by rw [← HNB.out.1]; exact (List.getElem?_eq_some_iff.1 hx).1
    have hi5 := HNB.out.2
    have hcs : c.size ≤ 9223372036854775807 := HBS.out _ (List.mem_of_getElem? hx)
    have hGG := HOM.out
    rw [hfind] at hGG
    dsimp only at hGG
    have HGG := Lib.hid hGG
    have hUB := fun W => unbox_calls secret c W HSS.out hcs
    have HIL : Hid (i < nb ∧ nb ≤ 5) := Lib.hid ⟨hilt, hi5⟩
    obtain ⟨ge, oe, ce', he, _, _, _, _⟩ := HX.out.lists.bl.cell2 hx
    obtain ⟨rfl, rfl⟩ : E = some ⟨ge, oe, none⟩ ∧ ce = ce' := by cases he; exact ⟨rfl, rfl⟩
    have hcc : ∀ W2, MtAt w W2 w.heap.size m (.slice A m.r.rd.length ca) (.slice C m.r.wr.length cb) (.slice D m.vf.length cd) (.slice (some ⟨ge, oe, none⟩) m.bl.length ce) → W2.cell? ⟨ge, oe + i * 2 + 1, none⟩ = some (.string c) := fun W2 h => by
      obtain ⟨ge', oe', ce', he', _, _, _, h2⟩ := h.lists.bl.cell2 hx
      cases he'
      exact h2
    have HCC := Lib.hid hcc
    have hnbl : m.bl.length = nb := HNB.out.1
    rw [hnbl] at HRT HIX HX HCC ⊢
    rw [hnbl] at c7 hW
    clear hIX hf hi hx hpx hfind hcs hGG he hcc hnbl
    cases hu : unboxT (toL secret) (toL c) with
    | error er =>
      have her := unboxT_err hu
      have herb : (er == 0) = false := beq_eq_false_iff_ne.2 her
      simp only [hu, exV] at hUB
      have HUB := Lib.hid hUB
      have HG : Hid (G = (⟨#[]⟩, ⟨#[]⟩, 7)) := Lib.hid (by rw [HGG.out, hu])
      clear hUB hu
      go_enter Tryz.func72, Tryz.ntmps72
      go_wp2_with fail
      refine (HRT.out _ HX.out).mono ?_
      rintro e w1 ⟨rfl, hb⟩
      have X1 := Lib.hid (HX.out.next hb)
      have U1 := Lib.hid ((Keep.of_below hb : Keep (fun _ => False) _ _).cell HU.out fun e => e)
      clear hb
      clear c0 c1 c2 c3 c4 c5 c6 c7 c8
      have hcells := X1.out.cells
      obtain ⟨⟨c0, c1, c2, c3, c4⟩, c5, c6, c7, c8⟩ := hcells
      have hu1 := U1.out
      go_wp2_with fail
      refine (HKD.out _).mono ?_
      rintro e w2 ⟨rfl, hb⟩
      have X2 := Lib.hid (X1.out.next hb)
      have U2 := Lib.hid ((Keep.of_below hb : Keep (fun _ => False) _ _).cell U1.out fun e => e)
      clear hb
      clear c0 c1 c2 c3 c4 c5 c6 c7 c8
      have hcells := X2.out.cells
      obtain ⟨⟨c0, c1, c2, c3, c4⟩, c5, c6, c7, c8⟩ := hcells
      have hu2 := U2.out
      go_wp2_with fail
      refine (HIX.out _ X2.out U2.out).mono ?_
      rintro e w3 ⟨rfl, hb⟩
      have X3 := Lib.hid (X2.out.next hb)
      have U3 := Lib.hid ((Keep.of_below hb : Keep (fun _ => False) _ _).cell U2.out fun e => e)
      clear hb
      have hc1 := HCC.out _ X3.out
      clear c0 c1 c2 c3 c4 c5 c6 c7 c8
      have hcells := X3.out.cells
      obtain ⟨⟨c0, c1, c2, c3, c4⟩, c5, c6, c7, c8⟩ := hcells
      have hu3 := U3.out
      go_wp2_with fail
      refine (HUB.out _).mono ?_
      rintro e w4 ⟨rfl, hb⟩
      have X4 := Lib.hid (X3.out.next hb)
      clear hb
      go_wp2_with fail
      go_ret3
      exact ⟨by rw [HG.out]; rfl, X4.out.below⟩
    | ok t =>
      have hGG := HGG.out
      rw [hu] at hGG
      dsimp only at hGG
      obtain ⟨tt, ht1, ht2⟩ := unboxT_right hu
      have htl : t.length ≤ 4000 := (whole_some ht2).2.2
      simp only [hu, exV] at hUB
      obtain ⟨TB, hTB⟩ : ∃ x, mkB t = x := ⟨_, rfl⟩
      have hTL : toL TB = t := by rw [← hTB]; exact toL_mkB _
      have hTS : TB.size ≤ 9223372036854775807 := by rw [← hTB, mkB_size]; omega
      simp only [hTB] at hUB
      have HUB := Lib.hid hUB
      have hKT := fun W => mkind_calls TB 112 W hTS
      simp only [hTL] at hKT
      cases hk : (kindL t == 112) with
      | false =>
        simp only [hk] at hKT
        have HKT := Lib.hid hKT
        have HG : Hid (G = (⟨#[]⟩, ⟨#[]⟩, 7)) := Lib.hid (by rw [hGG, if_pos (by intro e; rw [e] at hk; cases hk)])
        clear hUB hu hGG ht1 ht2 htl hTB hTL hTS hKT hk
        go_enter Tryz.func72, Tryz.ntmps72
        go_wp2_with fail
        refine (HRT.out _ HX.out).mono ?_
        rintro e w1 ⟨rfl, hb⟩
        have X1 := Lib.hid (HX.out.next hb)
        have U1 := Lib.hid ((Keep.of_below hb : Keep (fun _ => False) _ _).cell HU.out fun e => e)
        clear hb
        clear c0 c1 c2 c3 c4 c5 c6 c7 c8
        have hcells := X1.out.cells
        obtain ⟨⟨c0, c1, c2, c3, c4⟩, c5, c6, c7, c8⟩ := hcells
        have hu1 := U1.out
        go_wp2_with fail
        refine (HKD.out _).mono ?_
        rintro e w2 ⟨rfl, hb⟩
        have X2 := Lib.hid (X1.out.next hb)
        have U2 := Lib.hid ((Keep.of_below hb : Keep (fun _ => False) _ _).cell U1.out fun e => e)
        clear hb
        clear c0 c1 c2 c3 c4 c5 c6 c7 c8
        have hcells := X2.out.cells
        obtain ⟨⟨c0, c1, c2, c3, c4⟩, c5, c6, c7, c8⟩ := hcells
        have hu2 := U2.out
        go_wp2_with fail
        refine (HIX.out _ X2.out U2.out).mono ?_
        rintro e w3 ⟨rfl, hb⟩
        have X3 := Lib.hid (X2.out.next hb)
        have U3 := Lib.hid ((Keep.of_below hb : Keep (fun _ => False) _ _).cell U2.out fun e => e)
        clear hb
        have hc1 := HCC.out _ X3.out
        clear c0 c1 c2 c3 c4 c5 c6 c7 c8
        have hcells := X3.out.cells
        obtain ⟨⟨c0, c1, c2, c3, c4⟩, c5, c6, c7, c8⟩ := hcells
        have hu3 := U3.out
        go_wp2_with fail
        refine (HUB.out _).mono ?_
        rintro e w4 ⟨rfl, hb⟩
        have X4 := Lib.hid (X3.out.next hb)
        clear hb
        go_wp2_with fail
        refine (HKT.out _).mono ?_
        rintro e w5 ⟨rfl, hb⟩
        have X5 := Lib.hid (X4.out.next hb)
        clear hb
        go_wp2_with fail
        go_ret3
        exact ⟨by rw [HG.out]; rfl, X5.out.below⟩
      | true =>
        simp only [hk] at hKT
        have HKT := Lib.hid hKT
        have hk2 : kindL t = 112 := by simpa using hk
        rw [if_neg (by rw [hk2]; simp)] at hGG
        have htk : tt.kind = 112 := by
          unfold kindL at hk2
          rw [ht2] at hk2
          exact hk2
        obtain ⟨a, b, rfl⟩ := two_of_kind (whole_some ht2).2.1 htk rfl
        have hpl : partsL t = [mkB a.enc, mkB b.enc] := by unfold partsL; rw [ht2]; rfl
        have hrt : rightT t = true := by unfold rightT; rw [ht2]; rfl
        rw [hpl] at hGG
        have hbl : b.enc.length ≤ 4000 := by
          have := ht1
          rw [this] at htl
          have h2 : (Tm.two 112 a b).enc.length = 1 + a.enc.length + b.enc.length := by show (112 :: (a.enc ++ b.enc)).length = _; rw [List.length_cons, List.length_append]; omega
          omega
        obtain ⟨P0, hP0⟩ : ∃ x, mkB a.enc = x := ⟨_, rfl⟩
        obtain ⟨P1, hP1⟩ : ∃ x, mkB b.enc = x := ⟨_, rfl⟩
        have hPS : P1.size ≤ 9223372036854775807 := by rw [← hP1, mkB_size]; omega
        rw [hP0, hP1] at hGG hpl
        have hGG2 : G = if kindL (toL P1) = 116 then (P0, ⟨#[]⟩, 0) else (P0, P1, 0) := hGG
        have hPT := fun W => parts_calls TB W hTS
        simp only [hTL, hpl, hrt, if_true] at hPT
        have HPT := Lib.hid hPT
        have hKP := fun W => mkind_calls P1 116 W hPS
        obtain ⟨bb, hbb⟩ : ∃ bb, (kindL (toL P1) == 116) = bb := ⟨_, rfl⟩
        simp only [hbb] at hKP
        have HKP := Lib.hid hKP
        have HG : Hid (G = if bb = true then (P0, ⟨#[]⟩, 0) else (P0, P1, 0)) := Lib.hid (by
          rw [hGG2, ← hbb]
          by_cases h : kindL (toL P1) = 116
          · rw [if_pos h, if_pos (by rw [h]; rfl)]
          · rw [if_neg h, if_neg (by simpa using h)])
        clear hUB hu hGG hGG2 ht1 ht2 htl hTB hTL hTS hKT hk hk2 htk hpl hrt hbl hP0 hP1 hPS hPT hKP hbb
        go_enter Tryz.func72, Tryz.ntmps72
        go_wp2_with fail
        refine (HRT.out _ HX.out).mono ?_
        rintro e w1 ⟨rfl, hb⟩
        have X1 := Lib.hid (HX.out.next hb)
        have U1 := Lib.hid ((Keep.of_below hb : Keep (fun _ => False) _ _).cell HU.out fun e => e)
        clear hb
        clear c0 c1 c2 c3 c4 c5 c6 c7 c8
        have hcells := X1.out.cells
        obtain ⟨⟨c0, c1, c2, c3, c4⟩, c5, c6, c7, c8⟩ := hcells
        have hu1 := U1.out
        go_wp2_with fail
        refine (HKD.out _).mono ?_
        rintro e w2 ⟨rfl, hb⟩
        have X2 := Lib.hid (X1.out.next hb)
        have U2 := Lib.hid ((Keep.of_below hb : Keep (fun _ => False) _ _).cell U1.out fun e => e)
        clear hb
        clear c0 c1 c2 c3 c4 c5 c6 c7 c8
        have hcells := X2.out.cells
        obtain ⟨⟨c0, c1, c2, c3, c4⟩, c5, c6, c7, c8⟩ := hcells
        have hu2 := U2.out
        go_wp2_with fail
        refine (HIX.out _ X2.out U2.out).mono ?_
        rintro e w3 ⟨rfl, hb⟩
        have X3 := Lib.hid (X2.out.next hb)
        have U3 := Lib.hid ((Keep.of_below hb : Keep (fun _ => False) _ _).cell U2.out fun e => e)
        clear hb
        have hc1 := HCC.out _ X3.out
        clear c0 c1 c2 c3 c4 c5 c6 c7 c8
        have hcells := X3.out.cells
        obtain ⟨⟨c0, c1, c2, c3, c4⟩, c5, c6, c7, c8⟩ := hcells
        have hu3 := U3.out
        go_wp2_with fail
        refine (HUB.out _).mono ?_
        rintro e w4 ⟨rfl, hb⟩
        have X4 := Lib.hid (X3.out.next hb)
        clear hb
        go_wp2_with fail
        refine (HKT.out _).mono ?_
        rintro e w5 ⟨rfl, hb⟩
        have X5 := Lib.hid (X4.out.next hb)
        clear hb
        go_wp2_with fail
        refine (HPT.out _).mono ?_
        rintro e w6 ⟨v, rfl, hv, hb⟩
        have X6 := Lib.hid (X5.out.next hb)
        have HV := Lib.hid hv
        obtain ⟨gp, op, cp, rfl, _, _, hq0⟩ := hv.cell (i := 0) (x := P0) rfl
        rw [Nat.add_zero] at hq0
        obtain ⟨gp', op', cp', e', _, _, hq1⟩ := hv.cell (i := 1) (x := P1) rfl
        obtain ⟨rfl, rfl⟩ : gp = gp' ∧ op = op' := by cases e'; exact ⟨rfl, rfl⟩
        clear hb hv e'
        go_wp2_with fail
        refine (HKP.out _).mono ?_
        rintro e w7 ⟨rfl, hb⟩
        have X7 := Lib.hid (X6.out.next hb)
        clear hq0 hq1
        obtain ⟨gp', op', cp', e', _, _, hq0⟩ := (HV.out.below hb).cell (i := 0) (x := P0) rfl
        rw [Nat.add_zero] at hq0
        obtain ⟨rfl, rfl⟩ : gp = gp' ∧ op = op' := by cases e'; exact ⟨rfl, rfl⟩
        obtain ⟨gp', op', cp', e', _, _, hq1⟩ := (HV.out.below hb).cell (i := 1) (x := P1) rfl
        obtain ⟨rfl, rfl⟩ : gp = gp' ∧ op = op' := by cases e'; exact ⟨rfl, rfl⟩
        clear hb e'
        cases bb with
        | true =>
          go_wp2_with fail
          go_ret3
          exact ⟨by rw [HG.out]; rfl, X7.out.below⟩
        | false =>
          go_wp2_with fail
          go_quiet (fail)
          go_wp2_with fail
          go_ret3
          exact ⟨by rw [HG.out]; rfl, X7.out.below.trans ((Keep.drewN (fun _ => False) w7 _).below.mono X7.out.below.size)⟩
end Go.Proofs.YtckblcfkajpofaaGreatDoor
namespace Go.Proofs.YtckblcfkajpofaaGreatDoor
open Go.RowKit Go.Sort
set_option linter.unusedVariables false
set_option linter.unusedSimpArgs false

theorem rep_isT {s : List UInt8} {d n : Nat} (h : isT d n s) : ∀ k, isT (d + k) (n + k) (List.replicate k 104 ++ s)
  | 0 => by simpa using h
  | k + 1 => by
    rw [List.replicate_succ, List.cons_append]
    exact (rep_isT h k).one rfl
set_option maxRecDepth 100000 in
set_option maxHeartbeats 1000000 in
theorem back6_calls (s : ByteArray) (n : Nat) (w : World) (hs : isT 4 100 (toL s)) (hn : n ≤ 7) :
    Calls Tryz.prog 190 #[.string s, .int .i64 n] w fun e w' => e = .returned (.tuple #[.string (mkB (List.replicate n 104 ++ toL s)), .int .i64 0]) ∧ Below w.heap.size w w' := by
  have hsz : s.size ≤ 100 := by obtain ⟨_, _, _, h3⟩ := hs; rw [toL_len] at h3; exact h3
  have hk := tright_calls s w (by omega)
  rw [hs.right (by omega) (by omega)] at hk
  have HK := Lib.hid hk
  have HS := Lib.hid hs
  have HNN := Lib.hid hn
  obtain ⟨R, hR⟩ : ∃ R, mkB (List.replicate n 104 ++ toL s) = R := ⟨_, rfl⟩
  have HR := Lib.hid hR
  rw [hR]
  have hm0 : decide ((n : Int) < 0) = false := by simp
  clear hk hs hsz hR
  go_enter Tryz.func190, Tryz.ntmps190
  go_wp2_with fail
  refine HK.out.mono ?_
  rintro e w1 ⟨rfl, hb⟩
  have HB := Lib.hid hb
  clear hb
  go_wp2_with fail
  go_loopw [0, 1, 6, 7] (fun st i t er wr => ∃ k : Nat, k ≤ n ∧ i = .int .i64 ((n - k : Nat) : Int) ∧ st = .string (mkB (List.replicate k 104 ++ toL s)) ∧ Hid (Below w.heap.size w wr)) (fun _ i _ _ _ => (intOf i).toNat)
  case atStart => exact ⟨0, Nat.zero_le _, rfl, by rw [List.replicate_zero, List.nil_append, list_mkB], HB⟩
  case round =>
    obtain ⟨k, hk, rfl, rfl, HB2⟩ := hrel
    by_cases hlt : k < n
    · have hq := rep_isT HS.out k
      have hqs : (mkB (List.replicate k 104 ++ toL s)).size ≤ 9223372036854775807 := by rw [mkB_size]; obtain ⟨_, _, _, h3⟩ := hq; omega
      have h1 := thash_calls (mkB (List.replicate k 104 ++ toL s)) wr hqs
      rw [toL_mkB, ofOne_is hq rfl (by omega) (by omega)] at h1
      have e1 : (104 : UInt8) :: (List.replicate k 104 ++ toL s) = List.replicate (k + 1) 104 ++ toL s := by rw [List.replicate_succ]; rfl
      rw [e1] at h1
      simp only [exV] at h1
      obtain ⟨Q, hQ⟩ : ∃ Q, mkB (List.replicate k 104 ++ toL s) = Q := ⟨_, rfl⟩
      obtain ⟨Q2, hQ2⟩ : ∃ Q, mkB (List.replicate (k + 1) 104 ++ toL s) = Q := ⟨_, rfl⟩
      rw [hQ, hQ2] at h1
      rw [hQ]
      have H1 := Lib.hid h1
      have HQ2 := Lib.hid hQ2
      obtain ⟨j, hj⟩ : ∃ j, n - k = j := ⟨_, rfl⟩
      have hj1 : 1 ≤ j ∧ j ≤ 7 := by omega
      have HJ : Hid (n - k = j ∧ k < n) := Lib.hid ⟨hj, hlt⟩
      rw [hj]
      clear hq hqs h1 e1 hQ hQ2 hj hlt hk hn
      go_wp2_with fail
      refine H1.out.mono ?_
      rintro e w2 ⟨rfl, hb⟩
      have HB3 := Lib.hid (HB2.out.trans (hb.mono HB2.out.size))
      clear hb
      go_wp2_with fail
      go_roundw
      case rel => exact ⟨k + 1, by have := HJ.out; omega, by have := HJ.out; go_num, by rw [HQ2.out], HB3⟩
      case measure => simp [intOf]; omega
    · obtain rfl : k = n := by omega
      have e0 : k - k = 0 := Nat.sub_self k
      rw [HR.out, e0]
      clear e0
      go_wp2_with fail
      go_ret2
      exact ⟨rfl, HB2.out⟩
set_option maxRecDepth 100000 in
set_option maxHeartbeats 1000000 in
theorem state6_calls (s : ByteArray) (ep : Int) (w : World) (hs : isT 4 100 (toL s)) (h0 : 0 ≤ ep) (h7 : ep ≤ 7) :
    Calls Tryz.prog 85 #[.string s, .int .i64 ep] w fun e w' => e = .returned (.tuple #[.string (mkB (stateL s ep)), .int .i64 0]) ∧ Below w.heap.size w w' := by
  have hsz : s.size ≤ 100 := by obtain ⟨_, _, _, h3⟩ := hs; rw [toL_len] at h3; exact h3
  have hk := tright_calls s w (by omega)
  rw [hs.right (by omega) (by omega)] at hk
  have HK := Lib.hid hk
  have hbk := fun W => back6_calls s (7 - ep).toNat W hs (by omega)
  have e1 : (((7 - ep).toNat : Nat) : Int) = 7 - ep := by omega
  obtain ⟨R, hR⟩ : ∃ R, mkB (stateL s ep) = R := ⟨_, rfl⟩
  have hR2 : mkB (List.replicate (7 - ep).toNat 104 ++ toL s) = R := hR
  simp only [e1, hR2] at hbk
  rw [hR]
  have HBK := Lib.hid hbk
  clear hk hbk e1 hR hR2 hs hsz
  go_enter Tryz.func85, Tryz.ntmps85
  go_wp2_with fail
  refine HK.out.mono ?_
  rintro e w1 ⟨rfl, hb⟩
  have HB := Lib.hid hb
  clear hb
  have f1 : decide (ep < 0) = false := by simp; omega
  have f2 : decide ((7 : Int) < ep) = false := by simp; omega
  go_wp2_with fail
  refine (HBK.out _).mono ?_
  rintro e w2 ⟨rfl, hb⟩
  have HB2 := Lib.hid (HB.out.trans (hb.mono HB.out.size))
  clear hb
  go_wp2_with fail
  go_ret2
  exact ⟨rfl, HB2.out⟩
set_option maxRecDepth 100000 in
set_option maxHeartbeats 1000000 in
theorem can7_calls (w : World) (r : Rt) (vr vw : Value) (u : ByteArray) (wt : Bool) (h : Lists w r vr vw) (hr : r.right = true) :
    Calls Tryz.prog 101 #[.agg #[.string r.owner, .string r.file, .int .i64 r.epoch, vr, vw], .string u, .bool wt] w fun e w' => e = .returned (.bool (r.can u wt)) ∧ Below w.heap.size w w' := by
  have hl5 : r.rd.length ≤ 5 ∧ r.wr.length ≤ 5 := by have := (Rt.right_iff.1 hr).1.2.2.2.2.1; omega
  have hgg : r.can u wt = (decide (u = r.owner) || memB u r.wr || (!wt && memB u r.rd)) := by unfold Rt.can; rw [hr, Bool.true_and]
  have h7 := fun W (hb : Below w.heap.size w W) => right7_yes W r _ _ (h.below hb) hr
  have h1 := fun W (hb : Below w.heap.size w W) => rhas7_calls W vw r.wr u (h.below hb).wr (by omega)
  have h2 := fun W (hb : Below w.heap.size w W) => rhas7_calls W vr r.rd u (h.below hb).rd (by omega)
  obtain ⟨A, ca, rfl, _, _⟩ := h.rd.form
  obtain ⟨C, cb, rfl, _, _⟩ := h.wr.form
  obtain ⟨n1, hn1⟩ : ∃ n, r.rd.length = n := ⟨_, rfl⟩
  obtain ⟨n2, hn2⟩ : ∃ n, r.wr.length = n := ⟨_, rfl⟩
  rw [hn1, hn2] at h7 ⊢
  rw [hn2] at h1
  rw [hn1] at h2
  obtain ⟨b1, hb1⟩ : ∃ b, memB u r.wr = b := ⟨_, rfl⟩
  obtain ⟨b2, hb2⟩ : ∃ b, memB u r.rd = b := ⟨_, rfl⟩
  simp only [hb1] at h1
  simp only [hb2] at h2
  rw [hb1, hb2] at hgg
  obtain ⟨G, hG⟩ : ∃ g, r.can u wt = g := ⟨_, rfl⟩
  rw [hG] at hgg ⊢
  obtain ⟨W, hW⟩ : ∃ W, w.alloc (.cells #[.string r.owner, .string r.file, .int .i64 r.epoch, .slice A n1 ca, .slice C n2 cb] 39) = W := ⟨_, rfl⟩
  have hb : Below w.heap.size w W := by rw [← hW]; exact (Below.refl _ w).alloc (Nat.le_refl _) _
  have hr0 : W.heap[w.heap.size]? = some (.cells #[.string r.owner, .string r.file, .int .i64 r.epoch, .slice A n1 ca, .slice C n2 cb] 39 (0, 0)) := by rw [← hW, get_alloc, if_pos rfl]
  have hcr := beq_str u r.owner
  have H7 := Lib.hid h7
  have H1 := Lib.hid h1
  have H2 := Lib.hid h2
  have HR0 := Lib.hid hr0
  have HB0 := Lib.hid hb
  obtain ⟨c0, c1, c2, c3, c4⟩ := row5 hr0
  have step : ∀ {W1 : World}, Below W.heap.size W W1 → W1.cell? ⟨w.heap.size, 0, none⟩ = some (.string r.owner) ∧ W1.cell? ⟨w.heap.size, 3, none⟩ = some (.slice A n1 ca) ∧ W1.cell? ⟨w.heap.size, 4, none⟩ = some (.slice C n2 cb) := fun hb => by
    obtain ⟨d0, _, _, d3, d4⟩ := row5 ((Keep.of_below hb : Keep (fun _ => False) W _).at hr0 fun e => e)
    exact ⟨d0, d3, d4⟩
  have HST : Hid (∀ {W1 : World}, Below W.heap.size W W1 → W1.cell? ⟨w.heap.size, 0, none⟩ = some (.string r.owner) ∧ W1.cell? ⟨w.heap.size, 3, none⟩ = some (.slice A n1 ca) ∧ W1.cell? ⟨w.heap.size, 4, none⟩ = some (.slice C n2 cb)) := Lib.hid step
  clear h hl5 h7 h1 h2 hn1 hn2 hb1 hb2 hG hb hr0 hr step
  by_cases hu : u = r.owner
  · have f1 : (u.toList == r.owner.toList) = true := by rw [hcr]; exact decide_eq_true hu
    have HG : Hid (G = true) := Lib.hid (by rw [hgg, decide_eq_true hu]; rfl)
    clear hcr hgg hu
    go_enter Tryz.func101, Tryz.ntmps101
    go_wp2_with fail
    refine (H7.out _ HB0.out).mono ?_
    rintro e w1 ⟨rfl, hb⟩
    have HB1 := Lib.hid (HB0.out.trans (hb.mono HB0.out.size))
    obtain ⟨d0, d3, d4⟩ := HST.out hb
    clear hb c0 c1 c2 c3 c4
    go_wp2_with fail
    go_ret
    exact ⟨by rw [HG.out]; rfl, HB1.out⟩
  · have f1 : (u.toList == r.owner.toList) = false := by rw [hcr]; exact decide_eq_false hu
    have HGG : Hid (G = (b1 || (!wt && b2))) := Lib.hid (by rw [hgg, decide_eq_false hu]; rfl)
    clear hcr hgg hu
    go_enter Tryz.func101, Tryz.ntmps101
    go_wp2_with fail
    refine (H7.out _ HB0.out).mono ?_
    rintro e w1 ⟨rfl, hb⟩
    have HBW := Lib.hid hb
    have HB1 := Lib.hid (HB0.out.trans (hb.mono HB0.out.size))
    obtain ⟨d0, d3, d4⟩ := HST.out hb
    clear hb c0 c1 c2 c3 c4
    go_wp2_with fail
    refine (H1.out _ HB1.out).mono ?_
    rintro e w2 ⟨rfl, hb⟩
    have HBW2 := Lib.hid (HBW.out.trans (hb.mono HBW.out.size))
    have HB2 := Lib.hid (HB1.out.trans (hb.mono HB1.out.size))
    clear hb d0 d3 d4
    obtain ⟨d0, d3, d4⟩ := HST.out HBW2.out
    cases b1 with
    | true =>
      have HG : Hid (G = true) := Lib.hid (by rw [HGG.out]; rfl)
      go_wp2_with fail
      go_ret
      exact ⟨by rw [HG.out]; rfl, HB2.out⟩
    | false =>
      cases wt with
      | true =>
        have HG : Hid (G = false) := Lib.hid (by rw [HGG.out]; rfl)
        go_wp2_with fail
        go_ret
        exact ⟨by rw [HG.out]; rfl, HB2.out⟩
      | false =>
        have HG : Hid (G = b2) := Lib.hid (by rw [HGG.out]; rfl)
        go_wp2_with fail
        refine (H2.out _ HB2.out).mono ?_
        rintro e w3 ⟨rfl, hb⟩
        have HB3 := Lib.hid (HB2.out.trans (hb.mono HB2.out.size))
        clear hb
        go_wp2_with fail
        go_ret
        exact ⟨by rw [HG.out]; rfl, HB3.out⟩
end Go.Proofs.YtckblcfkajpofaaGreatDoor
