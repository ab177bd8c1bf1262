/- document 7: New, Grant, Revoke, of rights that are right. (Printed by tools/gvs.py.) document 7: Revoke, of rights that are right; New. (Printed by tools/gvt.py.) -/
import Derived.Test.YtckblcfkajpofaaGreatDoorZB5
import Derived.Test.YtckblcfkajpofaaGreatDoorZA8
import Derived.Test.YtckblcfkajpofaaGreatDoorZC4
namespace Go.Proofs.YtckblcfkajpofaaGreatDoor
open Go.RowKit Go.Sort
set_option linter.unusedVariables false
set_option linter.unusedSimpArgs false

def RtRet7 (w : World) (x : Rt × Int) (e : Ending) (w' : World) : Prop := (∃ vr vw, e = .returned (.tuple #[agR x.1 vr vw, .int .i64 x.2]) ∧ Lists w' x.1 vr vw ∧ ∀ g, (vr.ownBlock = some g ∨ vw.ownBlock = some g) → w.heap.size ≤ g) ∧ Below w.heap.size w w'
theorem names_some {r : Rt} (hr : r.right = true) : (∀ s ∈ r.rd, nameR s = true) ∧ ∀ s ∈ r.wr, nameR s = true := by
  obtain ⟨_, hall⟩ := Rt.right_iff.1 hr
  exact ⟨fun s hs => (hall s (List.mem_append_left _ hs)).1, fun s hs => (hall s (List.mem_append_right _ hs)).1⟩
theorem filter_names {l : List ByteArray} (h : ∀ s ∈ l, nameR s = true) : (l.filter fun x => !decide (x = ⟨#[]⟩)) = l := by
  rw [List.filter_eq_self]
  intro s hs
  have := nameR_pos (h s hs)
  simp [this]
theorem asked_ok {r : Rt} {u : ByteArray} (hr : r.right = true) (hn : nameR u = true) : r.asked u = 0 := by
  unfold Rt.asked; rw [hr, hn]; simp
set_option maxRecDepth 100000 in
set_option maxHeartbeats 4000000 in
theorem grant7_calls (w : World) (r : Rt) (vr vw : Value) (u : ByteArray) (wt : Bool) (hl : Lists w r vr vw) (hr : r.right = true) (hn : nameR u = true) :
    Calls Tryz.prog 148 #[agR r vr vw, .string u, .bool wt] w (RtRet7 w (r.grant u wt)) := by
  have hgd := Rt.right_good hr
  have hus := nameR_size hn
  obtain ⟨⟨_, _, _, _, _, hrise1, hrise2⟩, hall⟩ := Rt.right_iff.1 hr
  obtain ⟨hnr, hnw⟩ := names_some hr
  have hask := asked_ok hr hn
  have hG : r.grant u wt = if u = r.owner ∨ r.other u = true then (Rt.none, 5) else if 5 ≤ r.rd.length + r.wr.length then (Rt.none, 10) else (if wt then ⟨r.owner, r.file, r.epoch, r.rd, insB r.wr u⟩ else ⟨r.owner, r.file, r.epoch, insB r.rd u, r.wr⟩, 0) := by
    unfold Rt.grant; rw [hask, if_neg (by simp)]
  have hoth : r.other u = (memB u r.rd || memB u r.wr) := rfl
  obtain ⟨X, hX⟩ : ∃ X, r.grant u wt = X := ⟨_, rfl⟩
  rw [hX] at hG ⊢
  obtain ⟨A, ca, rfl, _, _⟩ := hl.rd.form
  obtain ⟨C, cb, rfl, _, _⟩ := hl.wr.form
  obtain ⟨W, hW⟩ : ∃ W, (w.alloc (.cells #[.string r.owner, .string r.file, .int .i64 r.epoch, .slice A r.rd.length ca, .slice C r.wr.length cb] 39)).alloc (.cells #[.string ⟨#[]⟩, .string ⟨#[]⟩, .int .i64 0, .slice none 0 0, .slice none 0 0] 39) = W := ⟨_, rfl⟩
  have hb : Below w.heap.size w W := by rw [← hW]; exact ((Below.refl _ w).alloc (Nat.le_refl _) _).alloc (by simp [size_alloc]) _
  have hr0 : W.heap[w.heap.size]? = some (.cells #[.string r.owner, .string r.file, .int .i64 r.epoch, .slice A r.rd.length ca, .slice C r.wr.length cb] 39 (0, 0)) := by rw [← hW, get_alloc, if_neg (by simp [size_alloc]), get_alloc, if_pos rfl]
  have hr1 : W.heap[w.heap.size + 1]? = some (.cells #[.string ⟨#[]⟩, .string ⟨#[]⟩, .int .i64 0, .slice none 0 0, .slice none 0 0] 39 (0, 0)) := by rw [← hW, get_alloc, if_pos (by simp [size_alloc])]
  have hlW := hl.below hb
  have HRT := Lib.hid (fun W2 (h2 : Below W.heap.size W W2) => right7_yes W2 r _ _ (hlW.below h2) hr)
  have HNR := fun W2 => nright1_calls u W2 (by omega)
  rw [hn] at HNR
  have HNR := Lib.hid HNR
  have hlen := hgd.len
  have HHR := Lib.hid (fun W2 (h2 : Below W.heap.size W W2) => rhas7_calls W2 _ r.rd u (hlW.below h2).rd (by omega))
  have HHW := Lib.hid (fun W2 (h2 : Below W.heap.size W W2) => rhas7_calls W2 _ r.wr u (hlW.below h2).wr (by omega))
  have hWOR := fun W2 (h2 : Below W.heap.size W W2) => without7_calls W2 _ r.rd ⟨#[]⟩ (hlW.below h2).rd (by omega)
  have hWOW := fun W2 (h2 : Below W.heap.size W W2) => without7_calls W2 _ r.wr ⟨#[]⟩ (hlW.below h2).wr (by omega)
  simp only [filter_names hnr] at hWOR
  simp only [filter_names hnw] at hWOW
  have HWOR := Lib.hid hWOR
  have HWOW := Lib.hid hWOW
  have HB0 := Lib.hid hb
  have HR0 := Lib.hid hr0
  have HR1 := Lib.hid hr1
  have HSZ : Hid (W.heap.size = w.heap.size + 2) := Lib.hid (by rw [← hW]; simp [size_alloc])
  have HRS1 := Lib.hid hrise1
  have HRS2 := Lib.hid hrise2
  have HNN1 := Lib.hid (fun x hx => Nat.le_trans (nameR_size (hnr x hx)) (show 128 ≤ 9223372036854775807 by omega))
  have HNN2 := Lib.hid (fun x hx => Nat.le_trans (nameR_size (hnw x hx)) (show 128 ≤ 9223372036854775807 by omega))
  obtain ⟨ow, fi, ep, rd, wl⟩ := r
  dsimp only at hG hoth hlen HHR HHW HWOR HWOW HRT HR0 hr0 HRS1 HRS2 HNN1 HNN2 hW
  rw [hoth] at hG
  have HG := Lib.hid hG
  have HBW := Lib.hid (Below.refl W.heap.size W)
  obtain ⟨c0, c1, c2, c3, c4⟩ := row5 hr0
  clear hG hoth hX hask hlW hr hn hgd hall hrise1 hrise2 hnr hnw hb hr0 hr1 hl hWOR hWOW
  go_enter Tryz.func148, Tryz.ntmps148
  go_wp2_with fail
  refine (HRT.out W HBW.out).mono ?_
  rintro e w1 ⟨rfl, hb⟩
  have HB1 := Lib.hid hb
  clear hb c0 c1 c2 c3 c4
  obtain ⟨c0, c1, c2, c3, c4⟩ := row5 ((Keep.of_below HB1.out : Keep (fun _ => False) W w1).at HR0.out fun e => e)
  go_wp2_with fail
  refine (HNR.out _).mono ?_
  rintro e w2 ⟨rfl, hb⟩
  have HB2 := Lib.hid (HB1.out.trans (hb.mono HB1.out.size))
  clear hb c0 c1 c2 c3 c4
  obtain ⟨c0, c1, c2, c3, c4⟩ := row5 ((Keep.of_below HB2.out : Keep (fun _ => False) W w2).at HR0.out fun e => e)
  by_cases h0 : u = ow
  · have e1 : (u.toList == ow.toList) = true := by rw [h0]; simp
    go_wp2_with (with_reducible refine wp_stop_store _ _ _ rfl ?_)
    unfold Stop
    refine wp_store_all rfl _ _ _ rfl rfl rfl _ _ ((Keep.of_below HB2.out : Keep (fun _ => False) W w2).at HR1.out fun e => e) info_rt rfl (by simp [Value.oneCell']) ?_
    intro w9 h9 k9 s9
    have HN := Lib.hid (below_at (HB0.out.trans (HB2.out.mono HB0.out.size)) k9 (Nat.le_succ _))
    clear c0 c1 c2 c3 c4
    obtain ⟨c0, c1, c2, c3, c4⟩ := row5 h9
    clear h9 k9 s9
    go_wp2_with fail
    refine bodyPost_ret (v := .tuple #[.agg #[.string ⟨#[]⟩, .string ⟨#[]⟩, .int .i64 0, .slice none 0 0, .slice none 0 0], .int .i64 5]) (by simp [results, Tryz.results148, go_sem, c0, c1, c2, c3, c4]) rfl ?_
    rw [HG.out, if_pos (Or.inl h0)]
    exact ⟨⟨.slice none 0 0, .slice none 0 0, rfl, ⟨strs_nil _, strs_nil _⟩, fun g hg => by simp [Value.ownBlock] at hg⟩, HN.out⟩
  · have e1 : (u.toList == ow.toList) = false := by rw [beq_eq_false_iff_ne]; exact fun e => h0 (blist_inj e)
    cases hm1 : memB u rd with
    | true =>
      simp only [hm1] at HHR
      go_wp2_with fail
      refine (HHR.out _ HB2.out).mono ?_
      rintro e w3 ⟨rfl, hb⟩
      have HB3 := Lib.hid (HB2.out.trans (hb.mono HB2.out.size))
      clear hb c0 c1 c2 c3 c4
      obtain ⟨c0, c1, c2, c3, c4⟩ := row5 ((Keep.of_below HB3.out : Keep (fun _ => False) W w3).at HR0.out fun e => e)
      go_wp2_with (with_reducible refine wp_stop_store _ _ _ rfl ?_)
      unfold Stop
      refine wp_store_all rfl _ _ _ rfl rfl rfl _ _ ((Keep.of_below HB3.out : Keep (fun _ => False) W w3).at HR1.out fun e => e) info_rt rfl (by simp [Value.oneCell']) ?_
      intro w9 h9 k9 s9
      have HN := Lib.hid (below_at (HB0.out.trans (HB3.out.mono HB0.out.size)) k9 (Nat.le_succ _))
      clear c0 c1 c2 c3 c4
      obtain ⟨c0, c1, c2, c3, c4⟩ := row5 h9
      clear h9 k9 s9
      go_wp2_with fail
      refine bodyPost_ret (v := .tuple #[.agg #[.string ⟨#[]⟩, .string ⟨#[]⟩, .int .i64 0, .slice none 0 0, .slice none 0 0], .int .i64 5]) (by simp [results, Tryz.results148, go_sem, c0, c1, c2, c3, c4]) rfl ?_
      rw [HG.out, hm1, if_pos (Or.inr (show (true || memB u wl) = true from rfl))]
      exact ⟨⟨.slice none 0 0, .slice none 0 0, rfl, ⟨strs_nil _, strs_nil _⟩, fun g hg => by simp [Value.ownBlock] at hg⟩, HN.out⟩
    | false =>
      simp only [hm1] at HHR
      go_wp2_with fail
      refine (HHR.out _ HB2.out).mono ?_
      rintro e w3 ⟨rfl, hb⟩
      have HB3 := Lib.hid (HB2.out.trans (hb.mono HB2.out.size))
      clear hb c0 c1 c2 c3 c4
      obtain ⟨c0, c1, c2, c3, c4⟩ := row5 ((Keep.of_below HB3.out : Keep (fun _ => False) W w3).at HR0.out fun e => e)
      go_wp2_with fail
      cases hm2 : memB u wl with
      | true =>
        simp only [hm2] at HHW
        refine (HHW.out _ HB3.out).mono ?_
        rintro e w4 ⟨rfl, hb⟩
        have HB4 := Lib.hid (HB3.out.trans (hb.mono HB3.out.size))
        clear hb c0 c1 c2 c3 c4
        obtain ⟨c0, c1, c2, c3, c4⟩ := row5 ((Keep.of_below HB4.out : Keep (fun _ => False) W w4).at HR0.out fun e => e)
        go_wp2_with (with_reducible refine wp_stop_store _ _ _ rfl ?_)
        unfold Stop
        refine wp_store_all rfl _ _ _ rfl rfl rfl _ _ ((Keep.of_below HB4.out : Keep (fun _ => False) W w4).at HR1.out fun e => e) info_rt rfl (by simp [Value.oneCell']) ?_
        intro w9 h9 k9 s9
        have HN := Lib.hid (below_at (HB0.out.trans (HB4.out.mono HB0.out.size)) k9 (Nat.le_succ _))
        clear c0 c1 c2 c3 c4
        obtain ⟨c0, c1, c2, c3, c4⟩ := row5 h9
        clear h9 k9 s9
        go_wp2_with fail
        refine bodyPost_ret (v := .tuple #[.agg #[.string ⟨#[]⟩, .string ⟨#[]⟩, .int .i64 0, .slice none 0 0, .slice none 0 0], .int .i64 5]) (by simp [results, Tryz.results148, go_sem, c0, c1, c2, c3, c4]) rfl ?_
        rw [HG.out, hm1, hm2, if_pos (Or.inr (show (false || true) = true from rfl))]
        exact ⟨⟨.slice none 0 0, .slice none 0 0, rfl, ⟨strs_nil _, strs_nil _⟩, fun g hg => by simp [Value.ownBlock] at hg⟩, HN.out⟩
      | false =>
        simp only [hm2] at HHW
        refine (HHW.out _ HB3.out).mono ?_
        rintro e w4 ⟨rfl, hb⟩
        have HB4 := Lib.hid (HB3.out.trans (hb.mono HB3.out.size))
        clear hb c0 c1 c2 c3 c4
        obtain ⟨c0, c1, c2, c3, c4⟩ := row5 ((Keep.of_below HB4.out : Keep (fun _ => False) W w4).at HR0.out fun e => e)
        by_cases h5 : 5 ≤ rd.length + wl.length
        · go_wp2_with (with_reducible refine wp_stop_store _ _ _ rfl ?_)
          unfold Stop
          refine wp_store_all rfl _ _ _ rfl rfl rfl _ _ ((Keep.of_below HB4.out : Keep (fun _ => False) W w4).at HR1.out fun e => e) info_rt rfl (by simp [Value.oneCell']) ?_
          intro w9 h9 k9 s9
          have HN := Lib.hid (below_at (HB0.out.trans (HB4.out.mono HB0.out.size)) k9 (Nat.le_succ _))
          clear c0 c1 c2 c3 c4
          obtain ⟨c0, c1, c2, c3, c4⟩ := row5 h9
          clear h9 k9 s9
          go_wp2_with fail
          refine bodyPost_ret (v := .tuple #[.agg #[.string ⟨#[]⟩, .string ⟨#[]⟩, .int .i64 0, .slice none 0 0, .slice none 0 0], .int .i64 10]) (by simp [results, Tryz.results148, go_sem, c0, c1, c2, c3, c4]) rfl ?_
          rw [HG.out, hm1, hm2, if_neg (by simp [h0]), if_pos h5]
          exact ⟨⟨.slice none 0 0, .slice none 0 0, rfl, ⟨strs_nil _, strs_nil _⟩, fun g hg => by simp [Value.ownBlock] at hg⟩, HN.out⟩
        · have HG2 : Hid (X = (if wt then ⟨ow, fi, ep, rd, insB wl u⟩ else ⟨ow, fi, ep, insB rd u, wl⟩, 0)) := Lib.hid (by rw [HG.out, hm1, hm2, if_neg (by simp [h0]), if_neg h5])
          have hm1' : u ∉ rd := fun e => by rw [memB_iff.2 e] at hm1; cases hm1
          have hm2' : u ∉ wl := fun e => by rw [memB_iff.2 e] at hm2; cases hm2
          go_upto_region 9 with fail
          go_cut [8] from 47 to 59 (fun q wx => ∃ Z A5 ca5 A6 ca6, q = .pointer (some ⟨Z, 0, none⟩) ∧ w.heap.size + 2 ≤ Z ∧ Hid (wx.heap[Z]? = some (.cells #[.string ow, .string fi, .int .i64 ep, .slice A5 rd.length ca5, .slice A6 wl.length ca6] 39 (0, 0)) ∧ Lists wx ⟨ow, fi, ep, rd, wl⟩ (.slice A5 rd.length ca5) (.slice A6 wl.length ca6) ∧ Below W.heap.size W wx ∧ (∀ g, (Value.slice A5 rd.length ca5).ownBlock = some g → g ≠ Z ∧ W.heap.size ≤ g) ∧ ∀ g, (Value.slice A6 wl.length ca6).ownBlock = some g → g ≠ Z ∧ W.heap.size ≤ g))
          case first =>
            refine wp_region_G (fun W2 => W2.cell? ⟨w.heap.size, 0, none⟩ = some (.string ow) ∧ W2.cell? ⟨w.heap.size, 1, none⟩ = some (.string fi) ∧ W2.cell? ⟨w.heap.size, 2, none⟩ = some (.int .i64 ep) ∧ W2.cell? ⟨w.heap.size, 3, none⟩ = some (.slice A rd.length ca) ∧ W2.cell? ⟨w.heap.size, 4, none⟩ = some (.slice C wl.length cb)) [14] (by kernel_rfl) ?_
            have HSS : Hid (∀ W2, Below W.heap.size W W2 → (W2.cell? ⟨w.heap.size, 0, none⟩ = some (.string ow) ∧ W2.cell? ⟨w.heap.size, 1, none⟩ = some (.string fi) ∧ W2.cell? ⟨w.heap.size, 2, none⟩ = some (.int .i64 ep) ∧ W2.cell? ⟨w.heap.size, 3, none⟩ = some (.slice A rd.length ca) ∧ W2.cell? ⟨w.heap.size, 4, none⟩ = some (.slice C wl.length cb))) := Lib.hid (fun W2 hb => row5 ((Keep.of_below hb : Keep (fun _ => False) W W2).at HR0.out fun e => e))
            have hb0 : Below W.heap.size W w4.drew := HB4.out.drew
            obtain ⟨wd, hwd⟩ : ∃ x, w4.drew = x := ⟨_, rfl⟩
            rw [hwd] at hb0 ⊢
            have hS := HSS.out _ hb0
            refine wpAnyG_pure (i := 0) (v := ?va0) at0 (by kernel_rfl) (fun _ _ _ h => h) (Or.inl ⟨by rfl, ?ha0⟩) (Or.inr (by assumption)) ?ra0
            case ha0 => (intro w hSw; (try dsimp only at hSw); go_simp; try with_reducible rfl)
            case' ra0 => skip
            try simp only [Act.put, List.setIfInBounds_toArray, List.set_cons_zero, List.set_cons_succ]
            refine wpAnyG_take (ws := [0,1,2,3,4,5,6,7,8,9,10,11,12]) (i := 1) (v := ?va1) at1 (by kernel_rfl) (fun _ _ _ h => h) (Or.inl ⟨by rfl, ?ha1⟩) (by assumption) ?ra1
            case ha1 => (intro w hSw; (try dsimp only at hSw); go_simp; try with_reducible rfl)
            case' ra1 => skip
            try simp only [Act.put, List.setIfInBounds_toArray, List.set_cons_zero, List.set_cons_succ]
            refine wpAnyG_pure (i := 2) (v := ?va2) at2 (by kernel_rfl) (fun _ _ _ h => h) (Or.inl ⟨by rfl, ?ha2⟩) (Or.inr (by assumption)) ?ra2
            case ha2 => (intro w hSw; (try dsimp only at hSw); go_simp; try with_reducible rfl)
            case' ra2 => skip
            try simp only [Act.put, List.setIfInBounds_toArray, List.set_cons_zero, List.set_cons_succ]
            refine wpAnyG_take (ws := [0,1,2,3,4,5,6,7,8,9,10,11,12]) (i := 3) (v := ?va3) at3 (by kernel_rfl) (fun _ _ _ h => h) (Or.inl ⟨by rfl, ?ha3⟩) (by assumption) ?ra3
            case ha3 => (intro w hSw; (try dsimp only at hSw); go_simp; try with_reducible rfl)
            case' ra3 => skip
            try simp only [Act.put, List.setIfInBounds_toArray, List.set_cons_zero, List.set_cons_succ]
            refine wpAnyG_pure (i := 4) (v := ?va4) at4 (by kernel_rfl) (fun _ _ _ h => h) (Or.inl ⟨by rfl, ?ha4⟩) (Or.inr (by assumption)) ?ra4
            case ha4 => (intro w hSw; (try dsimp only at hSw); go_simp; try with_reducible rfl)
            case' ra4 => skip
            try simp only [Act.put, List.setIfInBounds_toArray, List.set_cons_zero, List.set_cons_succ]
            refine wpAnyG_take (ws := [0,1,2,3,4,5,6,7,8,9,10,11,12]) (i := 5) (v := ?va5) at5 (by kernel_rfl) (fun _ _ _ h => h) (Or.inl ⟨by rfl, ?ha5⟩) (by assumption) ?ra5
            case ha5 => (intro w hSw; (try dsimp only at hSw); go_simp; try with_reducible rfl)
            case' ra5 => skip
            try simp only [Act.put, List.setIfInBounds_toArray, List.set_cons_zero, List.set_cons_succ]
            refine wpAnyG_pure (i := 6) (v := ?va6) at6 (by kernel_rfl) (fun _ _ _ h => h) (Or.inl ⟨by rfl, ?ha6⟩) (Or.inr (by assumption)) ?ra6
            case ha6 => (intro w hSw; (try dsimp only at hSw); go_simp; try with_reducible rfl)
            case' ra6 => skip
            try simp only [Act.put, List.setIfInBounds_toArray, List.set_cons_zero, List.set_cons_succ]
            refine wpAnyG_take (ws := [0,1,2,3,4,5,6,7,8,9,10,11,12]) (i := 7) (v := ?va7) at7 (by kernel_rfl) (fun _ _ _ h => h) (Or.inl ⟨by rfl, ?ha7⟩) (by assumption) ?ra7
            case ha7 => (intro w hSw; (try dsimp only at hSw); go_simp; try with_reducible rfl)
            case' ra7 => skip
            try simp only [Act.put, List.setIfInBounds_toArray, List.set_cons_zero, List.set_cons_succ]
            refine wpAnyG_pure (i := 9) (v := ?va9) at9 (by kernel_rfl) (fun _ _ _ h => h) (Or.inl ⟨by rfl, ?ha9⟩) (Or.inr (by assumption)) ?ra9
            case ha9 => (intro w hSw; (try dsimp only at hSw); go_simp; try with_reducible rfl)
            case' ra9 => skip
            try simp only [Act.put, List.setIfInBounds_toArray, List.set_cons_zero, List.set_cons_succ]
            refine wpAnyG_take (ws := [0,1,2,3,4,5,6,7,8,9,10,11,12]) (i := 10) (v := ?va10) at10 (by kernel_rfl) (fun _ _ _ h => h) (Or.inl ⟨by rfl, ?ha10⟩) (by assumption) ?ra10
            case ha10 => (intro w hSw; (try dsimp only at hSw); go_simp; try with_reducible rfl)
            case' ra10 => skip
            try simp only [Act.put, List.setIfInBounds_toArray, List.set_cons_zero, List.set_cons_succ]
            refine wpAnyG_two 8 13 at8 at13 (by kernel_rfl) (fun Kn hK => ?_) (fun Kn hK => ?_)
            · skip
              go_simp
              refine (HWOR.out _ hb0).mono ?_
              rintro e w5 ⟨v5, rfl, ho5, hbq⟩
              obtain ⟨A5, ca5, rfl, _, _⟩ := own_slice ho5
              have hb1 := hb0.trans (hbq.mono hb0.size)
              clear hS
              have hS := HSS.out _ hb1
              refine hK.out _ _ (Or.inr hS) ?_
              clear hK Kn
              try simp only [Act.put, List.setIfInBounds_toArray, List.set_cons_zero, List.set_cons_succ]
              refine wpAnyG_two 11 13 at11 at13 (by kernel_rfl) (fun Kn hK => ?_) (fun Kn hK => ?_)
              · skip
                go_simp
                refine (HWOW.out _ hb1).mono ?_
                rintro e w6 ⟨v6, rfl, ho6, hbq⟩
                obtain ⟨A6, ca6, rfl, _, _⟩ := own_slice ho6
                have hb2 := hb1.trans (hbq.mono hb1.size)
                clear hS
                have hS := HSS.out _ hb2
                have ho5' := own_below ho5 hbq
                refine hK.out _ _ (Or.inr hS) ?_
                clear hK Kn
                try simp only [Act.put, List.setIfInBounds_toArray, List.set_cons_zero, List.set_cons_succ]
                refine wpAnyG_pure (i := 12) (v := ?vc12) at12 (by kernel_rfl) (fun _ _ _ h => h) (Or.inl ⟨by rfl, ?hc12⟩) (Or.inr (by assumption)) ?rc12
                case hc12 => (intro w hSw; (try dsimp only at hSw); go_simp; try with_reducible rfl)
                case' rc12 => skip
                try simp only [Act.put, List.setIfInBounds_toArray, List.set_cons_zero, List.set_cons_succ]
                refine wpAnyG_one 13 at13 (by kernel_rfl) (fun Kn hK => ?_)
                go_simp
                obtain ⟨z6, hz6⟩ : ∃ z6, w6.heap.size = z6 := ⟨_, rfl⟩
                obtain ⟨xw6, hxw6⟩ : ∃ x, w6.alloc (.cells #[.string ⟨#[]⟩, .string ⟨#[]⟩, .int .i64 0, .slice none 0 0, .slice none 0 0] 39) = x := ⟨_, rfl⟩
                have hzw6 : xw6.heap[z6]? = some (.cells #[.string ⟨#[]⟩, .string ⟨#[]⟩, .int .i64 0, .slice none 0 0, .slice none 0 0] 39 (0, 0)) := by rw [← hxw6, ← hz6, get_alloc, if_pos rfl]
                have haw6 : Below w6.heap.size w6 xw6 := by rw [← hxw6]; exact (Below.refl _ w6).alloc (Nat.le_refl _) _
                have hb3 := hb2.trans (haw6.mono hb2.size)
                rw [hxw6, hz6]
                clear hS
                have hS := HSS.out _ hb3
                have ho5'' := own_below ho5' haw6
                have ho6' := own_below ho6 haw6
                have HZa : Hid (W.heap.size ≤ z6 ∧ w.heap.size + 2 ≤ z6) := Lib.hid (by have := hb2.size; have := HSZ.out; omega)
                refine hK.out _ _ (Or.inr hS) ?_
                clear hK Kn
                try simp only [Act.put, List.setIfInBounds_toArray, List.set_cons_zero, List.set_cons_succ]
                refine wpAnyG_one 14 at14 (by kernel_rfl) (fun Kn hK => ?_)
                refine step_store_all rfl _ _ _ rfl rfl rfl _ _ hzw6 info_rt rfl (by simp [Value.oneCell']) ?_
                intro w9 h9 k9 s9
                refine hK.out _ _ (Or.inl (by kernel_rfl)) ?_
                have hFin : Hid (w9.heap[z6]? = some (.cells #[.string ow, .string fi, .int .i64 ep, .slice A5 rd.length ca5, .slice A6 wl.length ca6] 39 (0, 0)) ∧ Lists w9 ⟨ow, fi, ep, rd, wl⟩ (.slice A5 rd.length ca5) (.slice A6 wl.length ca6) ∧ Below W.heap.size W w9 ∧ (∀ g, (Value.slice A5 rd.length ca5).ownBlock = some g → g ≠ z6 ∧ W.heap.size ≤ g) ∧ ∀ g, (Value.slice A6 wl.length ca6).ownBlock = some g → g ≠ z6 ∧ W.heap.size ≤ g) := Lib.hid ⟨h9, ⟨strs_own (k9.own ho5'' fun g hg => own_ne_type ho5'' hzw6 (by decide) hg), strs_own (k9.own ho6' fun g hg => own_ne_type ho6' hzw6 (by decide) hg)⟩, below_at hb3 k9 HZa.out.1, fun g hg => ⟨own_ne_type ho5'' hzw6 (by decide) hg, Nat.le_trans (by have := hb0.size; have := hb1.size; have := hb2.size; have := hb3.size; omega) (own_new ho5'' g hg)⟩, fun g hg => ⟨own_ne_type ho6' hzw6 (by decide) hg, Nat.le_trans (by have := hb0.size; have := hb1.size; have := hb2.size; have := hb3.size; omega) (own_new ho6' g hg)⟩⟩
                clear hK Kn h9 k9 s9 hS
                refine wpAnyG_done (by kernel_rfl) ?_
                try simp only [Act.put, List.setIfInBounds_toArray, List.set_cons_zero, List.set_cons_succ]
                go_wp2_with fail
                go_meet
                exact ⟨_, _, _, _, _, rfl, HZa.out.2, hFin⟩
              · skip
                go_simp
                obtain ⟨z5, hz5⟩ : ∃ z5, w5.heap.size = z5 := ⟨_, rfl⟩
                obtain ⟨xw5, hxw5⟩ : ∃ x, w5.alloc (.cells #[.string ⟨#[]⟩, .string ⟨#[]⟩, .int .i64 0, .slice none 0 0, .slice none 0 0] 39) = x := ⟨_, rfl⟩
                have hzw5 : xw5.heap[z5]? = some (.cells #[.string ⟨#[]⟩, .string ⟨#[]⟩, .int .i64 0, .slice none 0 0, .slice none 0 0] 39 (0, 0)) := by rw [← hxw5, ← hz5, get_alloc, if_pos rfl]
                have haw5 : Below w5.heap.size w5 xw5 := by rw [← hxw5]; exact (Below.refl _ w5).alloc (Nat.le_refl _) _
                have hb2 := hb1.trans (haw5.mono hb1.size)
                rw [hxw5, hz5]
                clear hS
                have hS := HSS.out _ hb2
                have ho5' := own_below ho5 haw5
                refine hK.out _ _ (Or.inr hS) ?_
                clear hK Kn
                try simp only [Act.put, List.setIfInBounds_toArray, List.set_cons_zero, List.set_cons_succ]
                refine wpAnyG_one 11 at11 (by kernel_rfl) (fun Kn hK => ?_)
                go_simp
                refine (HWOW.out _ hb2).mono ?_
                rintro e w6 ⟨v6, rfl, ho6, hbq⟩
                obtain ⟨A6, ca6, rfl, _, _⟩ := own_slice ho6
                have hb3 := hb2.trans (hbq.mono hb2.size)
                clear hS
                have hS := HSS.out _ hb3
                have ho5'' := own_below ho5' hbq
                have hzz := (Keep.of_below hbq : Keep (fun _ => False) xw5 w6).at hzw5 fun e => e
                have HZb : Hid (W.heap.size ≤ z5 ∧ w.heap.size + 2 ≤ z5) := Lib.hid (by have := hb1.size; have := HSZ.out; omega)
                refine hK.out _ _ (Or.inr hS) ?_
                clear hK Kn
                try simp only [Act.put, List.setIfInBounds_toArray, List.set_cons_zero, List.set_cons_succ]
                refine wpAnyG_pure (i := 12) (v := ?vd12) at12 (by kernel_rfl) (fun _ _ _ h => h) (Or.inl ⟨by rfl, ?hd12⟩) (Or.inr (by assumption)) ?rd12
                case hd12 => (intro w hSw; (try dsimp only at hSw); go_simp; try with_reducible rfl)
                case' rd12 => skip
                try simp only [Act.put, List.setIfInBounds_toArray, List.set_cons_zero, List.set_cons_succ]
                refine wpAnyG_one 14 at14 (by kernel_rfl) (fun Kn hK => ?_)
                refine step_store_all rfl _ _ _ rfl rfl rfl _ _ hzz info_rt rfl (by simp [Value.oneCell']) ?_
                intro w9 h9 k9 s9
                refine hK.out _ _ (Or.inl (by kernel_rfl)) ?_
                have hFin : Hid (w9.heap[z5]? = some (.cells #[.string ow, .string fi, .int .i64 ep, .slice A5 rd.length ca5, .slice A6 wl.length ca6] 39 (0, 0)) ∧ Lists w9 ⟨ow, fi, ep, rd, wl⟩ (.slice A5 rd.length ca5) (.slice A6 wl.length ca6) ∧ Below W.heap.size W w9 ∧ (∀ g, (Value.slice A5 rd.length ca5).ownBlock = some g → g ≠ z5 ∧ W.heap.size ≤ g) ∧ ∀ g, (Value.slice A6 wl.length ca6).ownBlock = some g → g ≠ z5 ∧ W.heap.size ≤ g) := Lib.hid ⟨h9, ⟨strs_own (k9.own ho5'' fun g hg => own_ne_type ho5'' hzz (by decide) hg), strs_own (k9.own ho6 fun g hg => own_ne_type ho6 hzz (by decide) hg)⟩, below_at hb3 k9 HZb.out.1, fun g hg => ⟨own_ne_type ho5'' hzz (by decide) hg, Nat.le_trans (by have := hb0.size; have := hb1.size; have := hb2.size; have := hb3.size; omega) (own_new ho5'' g hg)⟩, fun g hg => ⟨own_ne_type ho6 hzz (by decide) hg, Nat.le_trans (by have := hb0.size; have := hb1.size; have := hb2.size; have := hb3.size; omega) (own_new ho6 g hg)⟩⟩
                clear hK Kn h9 k9 s9 hS
                refine wpAnyG_done (by kernel_rfl) ?_
                try simp only [Act.put, List.setIfInBounds_toArray, List.set_cons_zero, List.set_cons_succ]
                go_wp2_with fail
                go_meet
                exact ⟨_, _, _, _, _, rfl, HZb.out.2, hFin⟩
            · skip
              go_simp
              obtain ⟨z4, hz4⟩ : ∃ z4, wd.heap.size = z4 := ⟨_, rfl⟩
              obtain ⟨xwd, hxwd⟩ : ∃ x, wd.alloc (.cells #[.string ⟨#[]⟩, .string ⟨#[]⟩, .int .i64 0, .slice none 0 0, .slice none 0 0] 39) = x := ⟨_, rfl⟩
              have hzwd : xwd.heap[z4]? = some (.cells #[.string ⟨#[]⟩, .string ⟨#[]⟩, .int .i64 0, .slice none 0 0, .slice none 0 0] 39 (0, 0)) := by rw [← hxwd, ← hz4, get_alloc, if_pos rfl]
              have hawd : Below wd.heap.size wd xwd := by rw [← hxwd]; exact (Below.refl _ wd).alloc (Nat.le_refl _) _
              have hb1 := hb0.trans (hawd.mono hb0.size)
              rw [hxwd, hz4]
              clear hS
              have hS := HSS.out _ hb1
              refine hK.out _ _ (Or.inr hS) ?_
              clear hK Kn
              try simp only [Act.put, List.setIfInBounds_toArray, List.set_cons_zero, List.set_cons_succ]
              refine wpAnyG_one 8 at8 (by kernel_rfl) (fun Kn hK => ?_)
              go_simp
              refine (HWOR.out _ hb1).mono ?_
              rintro e w5 ⟨v5, rfl, ho5, hbq⟩
              obtain ⟨A5, ca5, rfl, _, _⟩ := own_slice ho5
              have hb2 := hb1.trans (hbq.mono hb1.size)
              clear hS
              have hS := HSS.out _ hb2
              have hz1 := (Keep.of_below hbq : Keep (fun _ => False) xwd w5).at hzwd fun e => e
              refine hK.out _ _ (Or.inr hS) ?_
              clear hK Kn
              try simp only [Act.put, List.setIfInBounds_toArray, List.set_cons_zero, List.set_cons_succ]
              refine wpAnyG_one 11 at11 (by kernel_rfl) (fun Kn hK => ?_)
              go_simp
              refine (HWOW.out _ hb2).mono ?_
              rintro e w6 ⟨v6, rfl, ho6, hbq⟩
              obtain ⟨A6, ca6, rfl, _, _⟩ := own_slice ho6
              have hb3 := hb2.trans (hbq.mono hb2.size)
              clear hS
              have hS := HSS.out _ hb3
              have ho5' := own_below ho5 hbq
              have hz2 := (Keep.of_below hbq : Keep (fun _ => False) w5 w6).at hz1 fun e => e
              have HZc : Hid (W.heap.size ≤ z4 ∧ w.heap.size + 2 ≤ z4) := Lib.hid (by have := hb0.size; have := HSZ.out; omega)
              refine hK.out _ _ (Or.inr hS) ?_
              clear hK Kn
              try simp only [Act.put, List.setIfInBounds_toArray, List.set_cons_zero, List.set_cons_succ]
              refine wpAnyG_pure (i := 12) (v := ?vf12) at12 (by kernel_rfl) (fun _ _ _ h => h) (Or.inl ⟨by rfl, ?hf12⟩) (Or.inr (by assumption)) ?rf12
              case hf12 => (intro w hSw; (try dsimp only at hSw); go_simp; try with_reducible rfl)
              case' rf12 => skip
              try simp only [Act.put, List.setIfInBounds_toArray, List.set_cons_zero, List.set_cons_succ]
              refine wpAnyG_one 14 at14 (by kernel_rfl) (fun Kn hK => ?_)
              refine step_store_all rfl _ _ _ rfl rfl rfl _ _ hz2 info_rt rfl (by simp [Value.oneCell']) ?_
              intro w9 h9 k9 s9
              refine hK.out _ _ (Or.inl (by kernel_rfl)) ?_
              have hFin : Hid (w9.heap[z4]? = some (.cells #[.string ow, .string fi, .int .i64 ep, .slice A5 rd.length ca5, .slice A6 wl.length ca6] 39 (0, 0)) ∧ Lists w9 ⟨ow, fi, ep, rd, wl⟩ (.slice A5 rd.length ca5) (.slice A6 wl.length ca6) ∧ Below W.heap.size W w9 ∧ (∀ g, (Value.slice A5 rd.length ca5).ownBlock = some g → g ≠ z4 ∧ W.heap.size ≤ g) ∧ ∀ g, (Value.slice A6 wl.length ca6).ownBlock = some g → g ≠ z4 ∧ W.heap.size ≤ g) := Lib.hid ⟨h9, ⟨strs_own (k9.own ho5' fun g hg => own_ne_type ho5' hz2 (by decide) hg), strs_own (k9.own ho6 fun g hg => own_ne_type ho6 hz2 (by decide) hg)⟩, below_at hb3 k9 HZc.out.1, fun g hg => ⟨own_ne_type ho5' hz2 (by decide) hg, Nat.le_trans (by have := hb0.size; have := hb1.size; have := hb2.size; have := hb3.size; omega) (own_new ho5' g hg)⟩, fun g hg => ⟨own_ne_type ho6 hz2 (by decide) hg, Nat.le_trans (by have := hb0.size; have := hb1.size; have := hb2.size; have := hb3.size; omega) (own_new ho6 g hg)⟩⟩
              clear hK Kn h9 k9 s9 hS
              refine wpAnyG_done (by kernel_rfl) ?_
              try simp only [Act.put, List.setIfInBounds_toArray, List.set_cons_zero, List.set_cons_succ]
              go_wp2_with fail
              go_meet
              exact ⟨_, _, _, _, _, rfl, HZc.out.2, hFin⟩
          case rest =>
            obtain ⟨Z, A5, ca5, A6, ca6, rfl, hZ, HF⟩ := hcut
            cases wt with
            | true =>
              have hrow := HF.out.1
              have HWT := Lib.hid (with7_calls _ _ wl u HF.out.2.1.wr (by omega) HRS2.out hm2' HNN2.out (by omega))
              clear c0 c1 c2 c3 c4
              obtain ⟨c0, c1, c2, c3, c4⟩ := row5 hrow
              clear hrow
              go_wp2_with fail
              refine HWT.out.mono ?_
              rintro e w7 ⟨v7, rfl, ho7, hb7⟩
              obtain ⟨A7, ca7, rfl, _, _⟩ := own_slice ho7
              have hr7 := (Keep.of_below hb7 : Keep (fun _ => False) _ w7).at HF.out.1 fun e => e
              have HR7 := Lib.hid hr7
              have HO7 := Lib.hid ho7
              have HB7 := Lib.hid (HF.out.2.2.1.trans (hb7.mono HF.out.2.2.1.size))
              have HLS7 := Lib.hid (HF.out.2.1.below hb7)
              have hf7 := frozen_of_row hr7 4
              have hr1 := (Keep.of_below HB7.out : Keep (fun _ => False) W w7).at HR1.out fun e => e
              clear hb7 ho7 c0 c1 c2 c3 c4
              obtain ⟨c0, c1, c2, c3, c4⟩ := row5 hr7
              clear hr7
              obtain ⟨W8, hW8⟩ : ∃ W8, w7.setCell ⟨Z, 4, none⟩ (.slice A7 (insB wl u).length ca7) = W8 := ⟨_, rfl⟩
              have hr8 : W8.heap[Z]? = some (.cells #[.string ow, .string fi, .int .i64 ep, .slice A5 rd.length ca5, .slice A7 (insB wl u).length ca7] 39 (0, 0)) := by rw [← hW8, set_at HR7.out]; rfl
              have k8 : Keep (fun i => i = Z) w7 W8 := by rw [← hW8]; exact Keep.setCell (fun i => i = Z) w7 (p := ⟨Z, 4, none⟩) rfl _
              have hr18 := k8.at hr1 (by omega)
              have hls8 : Lists W8 ⟨ow, fi, ep, rd, insB wl u⟩ (.slice A5 rd.length ca5) (.slice A7 (insB wl u).length ca7) := ⟨HLS7.out.rd.keep k8 fun g hg => (HF.out.2.2.2.1 g hg).1, strs_own (k8.own HO7.out fun g hg => own_ne_type HO7.out HR7.out (by decide) hg)⟩
              have HN8 : Hid (∀ g, _ → ¬ g = w.heap.size + 1) := Lib.hid (fun g (hg : (Value.slice A7 (insB wl u).length ca7).ownBlock = some g) => by have := own_new HO7.out g hg; have := HF.out.2.2.1.size; have := HSZ.out; omega)
              have HNG : Hid (∀ g, ((Value.slice A5 rd.length ca5).ownBlock = some g ∨ (Value.slice A7 (insB wl u).length ca7).ownBlock = some g) → w.heap.size ≤ g) := Lib.hid (fun g hg => by
                have hsz := HSZ.out
                rcases hg with hg | hg
                · have := (HF.out.2.2.2.1 g hg).2; omega
                · have := own_new HO7.out g hg; have := HF.out.2.2.1.size; omega)
              have HR8 := Lib.hid hr8
              have HR18 := Lib.hid hr18
              have HLS8 := Lib.hid hls8
              have HK8 := Lib.hid k8
              clear hr18 hls8 hr1 k8
              obtain ⟨d0, d1, d2, d3, d4⟩ := row5 hr8
              clear hr8
              go_wp2_with (with_reducible refine wp_stop_store (o := ⟨none, .store _ (.tmp 6) _, _, _, _, _⟩) _ _ _ rfl ?_)
              unfold Stop
              refine wp_store_all rfl _ _ _ rfl rfl rfl _ _ HR18.out info_rt rfl (by simp [Value.oneCell']) ?_
              intro w9 h9 k9 s9
              have HL9 : Hid (Lists w9 ⟨ow, fi, ep, rd, insB wl u⟩ (.slice A5 rd.length ca5) (.slice A7 (insB wl u).length ca7)) := Lib.hid ⟨HLS8.out.rd.keep k9 fun g hg e => by have := (HF.out.2.2.2.1 g hg).2; have := HSZ.out; have e2 : g = w.heap.size + 1 := e; omega, HLS8.out.wr.keep k9 fun g hg e => HN8.out g hg e⟩
              have HBF : Hid (Below w.heap.size w w9) := Lib.hid (((((Keep.of_below (HB0.out.trans (HB7.out.mono HB0.out.size)) : Keep (fun i => w.heap.size ≤ i) w w7).same (HK8.out.mono fun i hi => by have e : i = Z := hi; omega)).same (k9.mono fun i hi => by have e : i = w.heap.size + 1 := hi; omega))).new)
              clear c0 c1 c2 c3 c4 d0 d1 d2 d3 d4
              obtain ⟨c0, c1, c2, c3, c4⟩ := row5 h9
              clear h9 k9 s9
              go_wp2_with fail
              refine bodyPost_ret (v := .tuple #[.agg #[.string ow, .string fi, .int .i64 ep, .slice A5 rd.length ca5, .slice A7 (insB wl u).length ca7], .int .i64 0]) (by simp [results, Tryz.results148, go_sem, c0, c1, c2, c3, c4]) rfl ?_
              rw [HG2.out]
              exact ⟨⟨_, _, rfl, HL9.out, HNG.out⟩, HBF.out⟩
            | false =>
              have hrow := HF.out.1
              have HWT := Lib.hid (with7_calls _ _ rd u HF.out.2.1.rd (by omega) HRS1.out hm1' HNN1.out (by omega))
              clear c0 c1 c2 c3 c4
              obtain ⟨c0, c1, c2, c3, c4⟩ := row5 hrow
              clear hrow
              go_wp2_with fail
              refine HWT.out.mono ?_
              rintro e w7 ⟨v7, rfl, ho7, hb7⟩
              obtain ⟨A7, ca7, rfl, _, _⟩ := own_slice ho7
              have hr7 := (Keep.of_below hb7 : Keep (fun _ => False) _ w7).at HF.out.1 fun e => e
              have HR7 := Lib.hid hr7
              have HO7 := Lib.hid ho7
              have HB7 := Lib.hid (HF.out.2.2.1.trans (hb7.mono HF.out.2.2.1.size))
              have HLS7 := Lib.hid (HF.out.2.1.below hb7)
              have hf7 := frozen_of_row hr7 3
              have hr1 := (Keep.of_below HB7.out : Keep (fun _ => False) W w7).at HR1.out fun e => e
              clear hb7 ho7 c0 c1 c2 c3 c4
              obtain ⟨c0, c1, c2, c3, c4⟩ := row5 hr7
              clear hr7
              obtain ⟨W8, hW8⟩ : ∃ W8, w7.setCell ⟨Z, 3, none⟩ (.slice A7 (insB rd u).length ca7) = W8 := ⟨_, rfl⟩
              have hr8 : W8.heap[Z]? = some (.cells #[.string ow, .string fi, .int .i64 ep, .slice A7 (insB rd u).length ca7, .slice A6 wl.length ca6] 39 (0, 0)) := by rw [← hW8, set_at HR7.out]; rfl
              have k8 : Keep (fun i => i = Z) w7 W8 := by rw [← hW8]; exact Keep.setCell (fun i => i = Z) w7 (p := ⟨Z, 3, none⟩) rfl _
              have hr18 := k8.at hr1 (by omega)
              have hls8 : Lists W8 ⟨ow, fi, ep, insB rd u, wl⟩ (.slice A7 (insB rd u).length ca7) (.slice A6 wl.length ca6) := ⟨strs_own (k8.own HO7.out fun g hg => own_ne_type HO7.out HR7.out (by decide) hg), HLS7.out.wr.keep k8 fun g hg => (HF.out.2.2.2.2 g hg).1⟩
              have HN8 : Hid (∀ g, _ → ¬ g = w.heap.size + 1) := Lib.hid (fun g (hg : (Value.slice A7 (insB rd u).length ca7).ownBlock = some g) => by have := own_new HO7.out g hg; have := HF.out.2.2.1.size; have := HSZ.out; omega)
              have HNG : Hid (∀ g, ((Value.slice A7 (insB rd u).length ca7).ownBlock = some g ∨ (Value.slice A6 wl.length ca6).ownBlock = some g) → w.heap.size ≤ g) := Lib.hid (fun g hg => by
                have hsz := HSZ.out
                rcases hg with hg | hg
                · have := own_new HO7.out g hg; have := HF.out.2.2.1.size; omega
                · have := (HF.out.2.2.2.2 g hg).2; omega)
              have HR8 := Lib.hid hr8
              have HR18 := Lib.hid hr18
              have HLS8 := Lib.hid hls8
              have HK8 := Lib.hid k8
              clear hr18 hls8 hr1 k8
              obtain ⟨d0, d1, d2, d3, d4⟩ := row5 hr8
              clear hr8
              go_wp2_with (with_reducible refine wp_stop_store (o := ⟨none, .store _ (.tmp 6) _, _, _, _, _⟩) _ _ _ rfl ?_)
              unfold Stop
              refine wp_store_all rfl _ _ _ rfl rfl rfl _ _ HR18.out info_rt rfl (by simp [Value.oneCell']) ?_
              intro w9 h9 k9 s9
              have HL9 : Hid (Lists w9 ⟨ow, fi, ep, insB rd u, wl⟩ (.slice A7 (insB rd u).length ca7) (.slice A6 wl.length ca6)) := Lib.hid ⟨HLS8.out.rd.keep k9 fun g hg e => HN8.out g hg e, HLS8.out.wr.keep k9 fun g hg e => by have := (HF.out.2.2.2.2 g hg).2; have := HSZ.out; have e2 : g = w.heap.size + 1 := e; omega⟩
              have HBF : Hid (Below w.heap.size w w9) := Lib.hid (((((Keep.of_below (HB0.out.trans (HB7.out.mono HB0.out.size)) : Keep (fun i => w.heap.size ≤ i) w w7).same (HK8.out.mono fun i hi => by have e : i = Z := hi; omega)).same (k9.mono fun i hi => by have e : i = w.heap.size + 1 := hi; omega))).new)
              clear c0 c1 c2 c3 c4 d0 d1 d2 d3 d4
              obtain ⟨c0, c1, c2, c3, c4⟩ := row5 h9
              clear h9 k9 s9
              go_wp2_with fail
              refine bodyPost_ret (v := .tuple #[.agg #[.string ow, .string fi, .int .i64 ep, .slice A7 (insB rd u).length ca7, .slice A6 wl.length ca6], .int .i64 0]) (by simp [results, Tryz.results148, go_sem, c0, c1, c2, c3, c4]) rfl ?_
              rw [HG2.out]
              exact ⟨⟨_, _, rfl, HL9.out, HNG.out⟩, HBF.out⟩
end Go.Proofs.YtckblcfkajpofaaGreatDoor
namespace Go.Proofs.YtckblcfkajpofaaGreatDoor
open Go.RowKit Go.Sort
set_option linter.unusedVariables false
set_option linter.unusedSimpArgs false

set_option maxRecDepth 100000 in
set_option maxHeartbeats 4000000 in
theorem revoke7_calls (w : World) (r : Rt) (vr vw : Value) (u : ByteArray) (hl : Lists w r vr vw) (hr : r.right = true) (hn : nameR u = true) :
    Calls Tryz.prog 149 #[agR r vr vw, .string u] w (RtRet7 w (r.revoke u)) := by
  have hgd := Rt.right_good hr
  have hus := nameR_size hn
  have hask := asked_ok hr hn
  have hG : r.revoke u = if r.other u = false then (Rt.none, 4) else if r.epoch = 7 then (Rt.none, 9) else (⟨r.owner, r.file, r.epoch + 1, r.rd.filter fun x => !decide (x = u), r.wr.filter fun x => !decide (x = u)⟩, 0) := by
    unfold Rt.revoke; rw [hask, if_neg (by simp)]
  have hoth : r.other u = (memB u r.rd || memB u r.wr) := rfl
  obtain ⟨X, hX⟩ : ∃ X, r.revoke u = X := ⟨_, rfl⟩
  rw [hX] at hG ⊢
  obtain ⟨A, ca, rfl, _, _⟩ := hl.rd.form
  obtain ⟨C, cb, rfl, _, _⟩ := hl.wr.form
  obtain ⟨W, hW⟩ : ∃ W, (w.alloc (.cells #[.string r.owner, .string r.file, .int .i64 r.epoch, .slice A r.rd.length ca, .slice C r.wr.length cb] 39)).alloc (.cells #[.string ⟨#[]⟩, .string ⟨#[]⟩, .int .i64 0, .slice none 0 0, .slice none 0 0] 39) = W := ⟨_, rfl⟩
  have hb : Below w.heap.size w W := by rw [← hW]; exact ((Below.refl _ w).alloc (Nat.le_refl _) _).alloc (by simp [size_alloc]) _
  have hr0 : W.heap[w.heap.size]? = some (.cells #[.string r.owner, .string r.file, .int .i64 r.epoch, .slice A r.rd.length ca, .slice C r.wr.length cb] 39 (0, 0)) := by rw [← hW, get_alloc, if_neg (by simp [size_alloc]), get_alloc, if_pos rfl]
  have hr1 : W.heap[w.heap.size + 1]? = some (.cells #[.string ⟨#[]⟩, .string ⟨#[]⟩, .int .i64 0, .slice none 0 0, .slice none 0 0] 39 (0, 0)) := by rw [← hW, get_alloc, if_pos (by simp [size_alloc])]
  have hlW := hl.below hb
  have HRT := Lib.hid (fun W2 (h2 : Below W.heap.size W W2) => right7_yes W2 r _ _ (hlW.below h2) hr)
  have HNR := fun W2 => nright1_calls u W2 (by omega)
  rw [hn] at HNR
  have HNR := Lib.hid HNR
  have hlen := hgd.len
  have hlo := hgd.lo
  have hhi := hgd.hi
  have hwr : IntKind.i64.wrap (r.epoch + 1) = r.epoch + 1 := by
    simp only [IntKind.wrap, IntKind.bits, IntKind.signed]
    first | omega | (simp; omega) | (split <;> omega)
  have HHR := Lib.hid (fun W2 (h2 : Below W.heap.size W W2) => rhas7_calls W2 _ r.rd u (hlW.below h2).rd (by omega))
  have HHW := Lib.hid (fun W2 (h2 : Below W.heap.size W W2) => rhas7_calls W2 _ r.wr u (hlW.below h2).wr (by omega))
  have HWOR := Lib.hid (fun W2 (h2 : Below W.heap.size W W2) => without7_calls W2 _ r.rd u (hlW.below h2).rd (by omega))
  have HWOW := Lib.hid (fun W2 (h2 : Below W.heap.size W W2) => without7_calls W2 _ r.wr u (hlW.below h2).wr (by omega))
  have HB0 := Lib.hid hb
  have HR0 := Lib.hid hr0
  have HR1 := Lib.hid hr1
  obtain ⟨ow, fi, ep, rd, wl⟩ := r
  dsimp only at hG hoth hlen HHR HHW HWOR HWOW HRT HR0 hr0 hW hlo hhi hwr
  rw [hoth] at hG
  have HG := Lib.hid hG
  have HBW := Lib.hid (Below.refl W.heap.size W)
  obtain ⟨c0, c1, c2, c3, c4⟩ := row5 hr0
  clear hG hoth hX hask hlW hr hn hgd hb hr0 hr1 hl
  go_enter Tryz.func149, Tryz.ntmps149
  go_wp2_with fail
  refine (HRT.out W HBW.out).mono ?_
  rintro e w1 ⟨rfl, hb⟩
  have HB1 := Lib.hid hb
  clear hb c0 c1 c2 c3 c4
  obtain ⟨c0, c1, c2, c3, c4⟩ := row5 ((Keep.of_below HB1.out : Keep (fun _ => False) W w1).at HR0.out fun e => e)
  go_wp2_with fail
  refine (HNR.out _).mono ?_
  rintro e w2 ⟨rfl, hb⟩
  have HB2 := Lib.hid (HB1.out.trans (hb.mono HB1.out.size))
  clear hb c0 c1 c2 c3 c4
  obtain ⟨c0, c1, c2, c3, c4⟩ := row5 ((Keep.of_below HB2.out : Keep (fun _ => False) W w2).at HR0.out fun e => e)
  go_wp2_with fail
  cases hm1 : memB u rd with
  | true =>
    simp only [hm1] at HHR
    refine (HHR.out _ HB2.out).mono ?_
    rintro e w3 ⟨rfl, hb⟩
    have HB3 := Lib.hid (HB2.out.trans (hb.mono HB2.out.size))
    clear hb c0 c1 c2 c3 c4
    obtain ⟨c0, c1, c2, c3, c4⟩ := row5 ((Keep.of_below HB3.out : Keep (fun _ => False) W w3).at HR0.out fun e => e)
    by_cases h7 : ep = 7
    · subst h7
      go_wp2_with (with_reducible refine wp_stop_store _ _ _ rfl ?_)
      unfold Stop
      refine wp_store_all rfl _ _ _ rfl rfl rfl _ _ ((Keep.of_below HB3.out : Keep (fun _ => False) W w3).at HR1.out fun e => e) info_rt rfl (by simp [Value.oneCell']) ?_
      intro w9 h9 k9 s9
      have HN := Lib.hid (below_at (HB0.out.trans (HB3.out.mono HB0.out.size)) k9 (Nat.le_succ _))
      clear c0 c1 c2 c3 c4
      obtain ⟨c0, c1, c2, c3, c4⟩ := row5 h9
      clear h9 k9 s9
      go_wp2_with fail
      refine bodyPost_ret (v := .tuple #[.agg #[.string ⟨#[]⟩, .string ⟨#[]⟩, .int .i64 0, .slice none 0 0, .slice none 0 0], .int .i64 9]) (by simp [results, Tryz.results149, go_sem, c0, c1, c2, c3, c4]) rfl ?_
      rw [HG.out, hm1, if_neg (by simp), if_pos True.intro]
      exact ⟨⟨.slice none 0 0, .slice none 0 0, rfl, ⟨strs_nil _, strs_nil _⟩, fun g hg => by simp [Value.ownBlock] at hg⟩, HN.out⟩
    · have HG2 : Hid (X = (⟨ow, fi, ep + 1, rd.filter fun x => !decide (x = u), wl.filter fun x => !decide (x = u)⟩, 0)) := Lib.hid (by rw [HG.out, hm1, if_neg (by simp), if_neg h7])
      have e7 : (ep == 7) = false := by rw [beq_eq_false_iff_ne]; exact h7
      go_wp2_with fail
      refine wp_region_G (fun W2 => W2.cell? ⟨w.heap.size, 0, none⟩ = some (.string ow) ∧ W2.cell? ⟨w.heap.size, 1, none⟩ = some (.string fi) ∧ W2.cell? ⟨w.heap.size, 2, none⟩ = some (.int .i64 ep) ∧ W2.cell? ⟨w.heap.size, 3, none⟩ = some (.slice A rd.length ca) ∧ W2.cell? ⟨w.heap.size, 4, none⟩ = some (.slice C wl.length cb)) [16] (by kernel_rfl) ?_
      have HSS : Hid (∀ W2, Below W.heap.size W W2 → (W2.cell? ⟨w.heap.size, 0, none⟩ = some (.string ow) ∧ W2.cell? ⟨w.heap.size, 1, none⟩ = some (.string fi) ∧ W2.cell? ⟨w.heap.size, 2, none⟩ = some (.int .i64 ep) ∧ W2.cell? ⟨w.heap.size, 3, none⟩ = some (.slice A rd.length ca) ∧ W2.cell? ⟨w.heap.size, 4, none⟩ = some (.slice C wl.length cb))) := Lib.hid (fun W2 hb => row5 ((Keep.of_below hb : Keep (fun _ => False) W W2).at HR0.out fun e => e))
      have hb0 : Below W.heap.size W w3.drew := HB3.out.drew
      obtain ⟨wd, hwd⟩ : ∃ x, w3.drew = x := ⟨_, rfl⟩
      rw [hwd] at hb0 ⊢
      have hS := HSS.out _ hb0
      refine wpAnyG_pure (i := 0) (v := ?va30) at0 (by kernel_rfl) (fun _ _ _ h => h) (Or.inl ⟨by rfl, ?ha30⟩) (Or.inr (by assumption)) ?ra30
      case ha30 => (intro w hSw; (try dsimp only at hSw); go_simp; try with_reducible rfl)
      case' ra30 => skip
      try simp only [Act.put, List.setIfInBounds_toArray, List.set_cons_zero, List.set_cons_succ]
      refine wpAnyG_take (ws := [0,1,2,3,4,5,6,7,8,9,10,11,12,13,14,15]) (i := 1) (v := ?va31) at1 (by kernel_rfl) (fun _ _ _ h => h) (Or.inl ⟨by rfl, ?ha31⟩) (by assumption) ?ra31
      case ha31 => (intro w hSw; (try dsimp only at hSw); go_simp; try with_reducible rfl)
      case' ra31 => skip
      try simp only [Act.put, List.setIfInBounds_toArray, List.set_cons_zero, List.set_cons_succ]
      refine wpAnyG_pure (i := 2) (v := ?va32) at2 (by kernel_rfl) (fun _ _ _ h => h) (Or.inl ⟨by rfl, ?ha32⟩) (Or.inr (by assumption)) ?ra32
      case ha32 => (intro w hSw; (try dsimp only at hSw); go_simp; try with_reducible rfl)
      case' ra32 => skip
      try simp only [Act.put, List.setIfInBounds_toArray, List.set_cons_zero, List.set_cons_succ]
      refine wpAnyG_take (ws := [0,1,2,3,4,5,6,7,8,9,10,11,12,13,14,15]) (i := 3) (v := ?va33) at3 (by kernel_rfl) (fun _ _ _ h => h) (Or.inl ⟨by rfl, ?ha33⟩) (by assumption) ?ra33
      case ha33 => (intro w hSw; (try dsimp only at hSw); go_simp; try with_reducible rfl)
      case' ra33 => skip
      try simp only [Act.put, List.setIfInBounds_toArray, List.set_cons_zero, List.set_cons_succ]
      refine wpAnyG_pure (i := 4) (v := ?va34) at4 (by kernel_rfl) (fun _ _ _ h => h) (Or.inl ⟨by rfl, ?ha34⟩) (Or.inr (by assumption)) ?ra34
      case ha34 => (intro w hSw; (try dsimp only at hSw); go_simp; try with_reducible rfl)
      case' ra34 => skip
      try simp only [Act.put, List.setIfInBounds_toArray, List.set_cons_zero, List.set_cons_succ]
      refine wpAnyG_take (ws := [0,1,2,3,4,5,6,7,8,9,10,11,12,13,14,15]) (i := 5) (v := ?va35) at5 (by kernel_rfl) (fun _ _ _ h => h) (Or.inl ⟨by rfl, ?ha35⟩) (by assumption) ?ra35
      case ha35 => (intro w hSw; (try dsimp only at hSw); go_simp; try with_reducible rfl)
      case' ra35 => skip
      try simp only [Act.put, List.setIfInBounds_toArray, List.set_cons_zero, List.set_cons_succ]
      refine wpAnyG_pure (i := 6) (v := ?va36) at6 (by kernel_rfl) (fun _ _ _ h => h) (Or.inl ⟨by rfl, ?ha36⟩) (Or.inr (by assumption)) ?ra36
      case ha36 => (intro w hSw; (try dsimp only at hSw); go_simp; try with_reducible rfl)
      case' ra36 => skip
      try simp only [Act.put, List.setIfInBounds_toArray, List.set_cons_zero, List.set_cons_succ]
      refine wpAnyG_pure (i := 7) (v := ?va37) at7 (by kernel_rfl) (fun _ _ _ h => h) (Or.inl ⟨by rfl, ?ha37⟩) (Or.inr (by assumption)) ?ra37
      case ha37 => (intro w hSw; (try dsimp only at hSw); go_simp; try with_reducible rfl)
      case' ra37 => skip
      try simp only [Act.put, List.setIfInBounds_toArray, List.set_cons_zero, List.set_cons_succ]
      refine wpAnyG_take (ws := [0,1,2,3,4,5,6,7,8,9,10,11,12,13,14,15]) (i := 8) (v := ?va38) at8 (by kernel_rfl) (fun _ _ _ h => h) (Or.inl ⟨by rfl, ?ha38⟩) (by assumption) ?ra38
      case ha38 => (intro w hSw; (try dsimp only at hSw); go_simp; try with_reducible rfl)
      case' ra38 => skip
      try simp only [Act.put, List.setIfInBounds_toArray, List.set_cons_zero, List.set_cons_succ]
      refine wpAnyG_pure (i := 9) (v := ?va39) at9 (by kernel_rfl) (fun _ _ _ h => h) (Or.inl ⟨by rfl, ?ha39⟩) (Or.inr (by assumption)) ?ra39
      case ha39 => (intro w hSw; (try dsimp only at hSw); go_simp; try with_reducible rfl)
      case' ra39 => skip
      try simp only [Act.put, List.setIfInBounds_toArray, List.set_cons_zero, List.set_cons_succ]
      refine wpAnyG_pure (i := 11) (v := ?va311) at11 (by kernel_rfl) (fun _ _ _ h => h) (Or.inl ⟨by rfl, ?ha311⟩) (Or.inr (by assumption)) ?ra311
      case ha311 => (intro w hSw; (try dsimp only at hSw); go_simp; try with_reducible rfl)
      case' ra311 => skip
      try simp only [Act.put, List.setIfInBounds_toArray, List.set_cons_zero, List.set_cons_succ]
      refine wpAnyG_take (ws := [0,1,2,3,4,5,6,7,8,9,10,11,12,13,14,15]) (i := 12) (v := ?va312) at12 (by kernel_rfl) (fun _ _ _ h => h) (Or.inl ⟨by rfl, ?ha312⟩) (by assumption) ?ra312
      case ha312 => (intro w hSw; (try dsimp only at hSw); go_simp; try with_reducible rfl)
      case' ra312 => skip
      try simp only [Act.put, List.setIfInBounds_toArray, List.set_cons_zero, List.set_cons_succ]
      refine wpAnyG_pure (i := 13) (v := ?va313) at13 (by kernel_rfl) (fun _ _ _ h => h) (Or.inl ⟨by rfl, ?ha313⟩) (Or.inr (by assumption)) ?ra313
      case ha313 => (intro w hSw; (try dsimp only at hSw); go_simp; try with_reducible rfl)
      case' ra313 => skip
      try simp only [Act.put, List.setIfInBounds_toArray, List.set_cons_zero, List.set_cons_succ]
      refine wpAnyG_one 10 at10 (by kernel_rfl) (fun Kn hK => ?_)
      go_simp
      refine (HWOR.out _ hb0).mono ?_
      rintro e w5 ⟨v5, rfl, ho5, hbq⟩
      obtain ⟨A5, ca5, rfl, _, _⟩ := own_slice ho5
      have hb1 := hb0.trans (hbq.mono hb0.size)
      clear hS
      have hS := HSS.out _ hb1
      refine hK.out _ _ (Or.inr hS) ?_
      clear hK Kn
      try simp only [Act.put, List.setIfInBounds_toArray, List.set_cons_zero, List.set_cons_succ]
      refine wpAnyG_one 14 at14 (by kernel_rfl) (fun Kn hK => ?_)
      go_simp
      refine (HWOW.out _ hb1).mono ?_
      rintro e w6 ⟨v6, rfl, ho6, hbq⟩
      obtain ⟨A6, ca6, rfl, _, _⟩ := own_slice ho6
      have hb2 := hb1.trans (hbq.mono hb1.size)
      clear hS
      have hS := HSS.out _ hb2
      have ho5' := own_below ho5 hbq
      refine hK.out _ _ (Or.inr hS) ?_
      clear hK Kn
      try simp only [Act.put, List.setIfInBounds_toArray, List.set_cons_zero, List.set_cons_succ]
      refine wpAnyG_pure (i := 15) (v := ?vc315) at15 (by kernel_rfl) (fun _ _ _ h => h) (Or.inl ⟨by rfl, ?hc315⟩) (Or.inr (by assumption)) ?rc315
      case hc315 => (intro w hSw; (try dsimp only at hSw); go_simp; try with_reducible rfl)
      case' rc315 => skip
      try simp only [Act.put, List.setIfInBounds_toArray, List.set_cons_zero, List.set_cons_succ]
      refine wpAnyG_one 16 at16 (by kernel_rfl) (fun Kn hK => ?_)
      refine step_store_all rfl _ _ _ rfl rfl rfl _ _ ((Keep.of_below hb2 : Keep (fun _ => False) W w6).at HR1.out fun e => e) info_rt rfl (by simp [Value.oneCell']) ?_
      intro w9 h9 k9 s9
      refine hK.out _ _ (Or.inl (by kernel_rfl)) ?_
      have hz6 := (Keep.of_below hb2 : Keep (fun _ => False) W w6).at HR1.out fun e => e
      have HL9 : Hid (Lists w9 ⟨ow, fi, ep + 1, rd.filter fun x => !decide (x = u), wl.filter fun x => !decide (x = u)⟩ (.slice A5 (rd.filter fun x => !decide (x = u)).length ca5) (.slice A6 (wl.filter fun x => !decide (x = u)).length ca6)) := Lib.hid ⟨strs_own (k9.own ho5' fun g hg => own_ne_type ho5' hz6 (by decide) hg), strs_own (k9.own ho6 fun g hg => own_ne_type ho6 hz6 (by decide) hg)⟩
      have HN := Lib.hid (below_at (HB0.out.trans (hb2.mono HB0.out.size)) k9 (Nat.le_succ _))
      have HNG : Hid (∀ g, ((Value.slice A5 (rd.filter fun x => !decide (x = u)).length ca5).ownBlock = some g ∨ (Value.slice A6 (wl.filter fun x => !decide (x = u)).length ca6).ownBlock = some g) → w.heap.size ≤ g) := Lib.hid (fun g hg => by
        have h0 := HB0.out.size
        have h1 := hb0.size
        have h2 := hb1.size
        rcases hg with hg | hg
        · have := own_new ho5' g hg; omega
        · have := own_new ho6 g hg; omega)
      have HR9 := Lib.hid h9
      clear hK Kn h9 k9 s9 hS hb0 hb1 hb2 ho5 ho5' ho6 hbq hz6 c0 c1 c2 c3 c4
      try simp only [Act.put, List.setIfInBounds_toArray, List.set_cons_zero, List.set_cons_succ]
      refine wpAnyG_one 17 at17 (by kernel_rfl) (fun Kn hK => ?_)
      go_simp
      refine hK.out _ _ (Or.inl (by kernel_rfl)) ?_
      clear hK Kn
      refine wpAnyG_done (by kernel_rfl) ?_
      try simp only [Act.put, List.setIfInBounds_toArray, List.set_cons_zero, List.set_cons_succ]
      obtain ⟨c0, c1, c2, c3, c4⟩ := row5 HR9.out
      go_wp2_with fail
      refine bodyPost_ret (v := .tuple #[.agg #[.string ow, .string fi, .int .i64 (ep + 1), .slice A5 (rd.filter fun x => !decide (x = u)).length ca5, .slice A6 (wl.filter fun x => !decide (x = u)).length ca6], .int .i64 0]) (by simp [results, Tryz.results149, go_sem, c0, c1, c2, c3, c4]) rfl ?_
      rw [HG2.out]
      exact ⟨⟨_, _, rfl, HL9.out, HNG.out⟩, HN.out⟩
  | false =>
    simp only [hm1] at HHR
    refine (HHR.out _ HB2.out).mono ?_
    rintro e w3 ⟨rfl, hb⟩
    have HB3 := Lib.hid (HB2.out.trans (hb.mono HB2.out.size))
    clear hb c0 c1 c2 c3 c4
    obtain ⟨c0, c1, c2, c3, c4⟩ := row5 ((Keep.of_below HB3.out : Keep (fun _ => False) W w3).at HR0.out fun e => e)
    go_wp2_with fail
    cases hm2 : memB u wl with
    | true =>
      simp only [hm2] at HHW
      refine (HHW.out _ HB3.out).mono ?_
      rintro e w4 ⟨rfl, hb⟩
      have HB4 := Lib.hid (HB3.out.trans (hb.mono HB3.out.size))
      clear hb c0 c1 c2 c3 c4
      obtain ⟨c0, c1, c2, c3, c4⟩ := row5 ((Keep.of_below HB4.out : Keep (fun _ => False) W w4).at HR0.out fun e => e)
      by_cases h7 : ep = 7
      · subst h7
        go_wp2_with (with_reducible refine wp_stop_store _ _ _ rfl ?_)
        unfold Stop
        refine wp_store_all rfl _ _ _ rfl rfl rfl _ _ ((Keep.of_below HB4.out : Keep (fun _ => False) W w4).at HR1.out fun e => e) info_rt rfl (by simp [Value.oneCell']) ?_
        intro w9 h9 k9 s9
        have HN := Lib.hid (below_at (HB0.out.trans (HB4.out.mono HB0.out.size)) k9 (Nat.le_succ _))
        clear c0 c1 c2 c3 c4
        obtain ⟨c0, c1, c2, c3, c4⟩ := row5 h9
        clear h9 k9 s9
        go_wp2_with fail
        refine bodyPost_ret (v := .tuple #[.agg #[.string ⟨#[]⟩, .string ⟨#[]⟩, .int .i64 0, .slice none 0 0, .slice none 0 0], .int .i64 9]) (by simp [results, Tryz.results149, go_sem, c0, c1, c2, c3, c4]) rfl ?_
        rw [HG.out, hm1, hm2, if_neg (by simp), if_pos True.intro]
        exact ⟨⟨.slice none 0 0, .slice none 0 0, rfl, ⟨strs_nil _, strs_nil _⟩, fun g hg => by simp [Value.ownBlock] at hg⟩, HN.out⟩
      · have HG2 : Hid (X = (⟨ow, fi, ep + 1, rd.filter fun x => !decide (x = u), wl.filter fun x => !decide (x = u)⟩, 0)) := Lib.hid (by rw [HG.out, hm1, hm2, if_neg (by simp), if_neg h7])
        have e7 : (ep == 7) = false := by rw [beq_eq_false_iff_ne]; exact h7
        go_wp2_with fail
        refine wp_region_G (fun W2 => W2.cell? ⟨w.heap.size, 0, none⟩ = some (.string ow) ∧ W2.cell? ⟨w.heap.size, 1, none⟩ = some (.string fi) ∧ W2.cell? ⟨w.heap.size, 2, none⟩ = some (.int .i64 ep) ∧ W2.cell? ⟨w.heap.size, 3, none⟩ = some (.slice A rd.length ca) ∧ W2.cell? ⟨w.heap.size, 4, none⟩ = some (.slice C wl.length cb)) [16] (by kernel_rfl) ?_
        have HSS : Hid (∀ W2, Below W.heap.size W W2 → (W2.cell? ⟨w.heap.size, 0, none⟩ = some (.string ow) ∧ W2.cell? ⟨w.heap.size, 1, none⟩ = some (.string fi) ∧ W2.cell? ⟨w.heap.size, 2, none⟩ = some (.int .i64 ep) ∧ W2.cell? ⟨w.heap.size, 3, none⟩ = some (.slice A rd.length ca) ∧ W2.cell? ⟨w.heap.size, 4, none⟩ = some (.slice C wl.length cb))) := Lib.hid (fun W2 hb => row5 ((Keep.of_below hb : Keep (fun _ => False) W W2).at HR0.out fun e => e))
        have hb0 : Below W.heap.size W w4.drew := HB4.out.drew
        obtain ⟨wd, hwd⟩ : ∃ x, w4.drew = x := ⟨_, rfl⟩
        rw [hwd] at hb0 ⊢
        have hS := HSS.out _ hb0
        refine wpAnyG_pure (i := 0) (v := ?va40) at0 (by kernel_rfl) (fun _ _ _ h => h) (Or.inl ⟨by rfl, ?ha40⟩) (Or.inr (by assumption)) ?ra40
        case ha40 => (intro w hSw; (try dsimp only at hSw); go_simp; try with_reducible rfl)
        case' ra40 => skip
        try simp only [Act.put, List.setIfInBounds_toArray, List.set_cons_zero, List.set_cons_succ]
        refine wpAnyG_take (ws := [0,1,2,3,4,5,6,7,8,9,10,11,12,13,14,15]) (i := 1) (v := ?va41) at1 (by kernel_rfl) (fun _ _ _ h => h) (Or.inl ⟨by rfl, ?ha41⟩) (by assumption) ?ra41
        case ha41 => (intro w hSw; (try dsimp only at hSw); go_simp; try with_reducible rfl)
        case' ra41 => skip
        try simp only [Act.put, List.setIfInBounds_toArray, List.set_cons_zero, List.set_cons_succ]
        refine wpAnyG_pure (i := 2) (v := ?va42) at2 (by kernel_rfl) (fun _ _ _ h => h) (Or.inl ⟨by rfl, ?ha42⟩) (Or.inr (by assumption)) ?ra42
        case ha42 => (intro w hSw; (try dsimp only at hSw); go_simp; try with_reducible rfl)
        case' ra42 => skip
        try simp only [Act.put, List.setIfInBounds_toArray, List.set_cons_zero, List.set_cons_succ]
        refine wpAnyG_take (ws := [0,1,2,3,4,5,6,7,8,9,10,11,12,13,14,15]) (i := 3) (v := ?va43) at3 (by kernel_rfl) (fun _ _ _ h => h) (Or.inl ⟨by rfl, ?ha43⟩) (by assumption) ?ra43
        case ha43 => (intro w hSw; (try dsimp only at hSw); go_simp; try with_reducible rfl)
        case' ra43 => skip
        try simp only [Act.put, List.setIfInBounds_toArray, List.set_cons_zero, List.set_cons_succ]
        refine wpAnyG_pure (i := 4) (v := ?va44) at4 (by kernel_rfl) (fun _ _ _ h => h) (Or.inl ⟨by rfl, ?ha44⟩) (Or.inr (by assumption)) ?ra44
        case ha44 => (intro w hSw; (try dsimp only at hSw); go_simp; try with_reducible rfl)
        case' ra44 => skip
        try simp only [Act.put, List.setIfInBounds_toArray, List.set_cons_zero, List.set_cons_succ]
        refine wpAnyG_take (ws := [0,1,2,3,4,5,6,7,8,9,10,11,12,13,14,15]) (i := 5) (v := ?va45) at5 (by kernel_rfl) (fun _ _ _ h => h) (Or.inl ⟨by rfl, ?ha45⟩) (by assumption) ?ra45
        case ha45 => (intro w hSw; (try dsimp only at hSw); go_simp; try with_reducible rfl)
        case' ra45 => skip
        try simp only [Act.put, List.setIfInBounds_toArray, List.set_cons_zero, List.set_cons_succ]
        refine wpAnyG_pure (i := 6) (v := ?va46) at6 (by kernel_rfl) (fun _ _ _ h => h) (Or.inl ⟨by rfl, ?ha46⟩) (Or.inr (by assumption)) ?ra46
        case ha46 => (intro w hSw; (try dsimp only at hSw); go_simp; try with_reducible rfl)
        case' ra46 => skip
        try simp only [Act.put, List.setIfInBounds_toArray, List.set_cons_zero, List.set_cons_succ]
        refine wpAnyG_pure (i := 7) (v := ?va47) at7 (by kernel_rfl) (fun _ _ _ h => h) (Or.inl ⟨by rfl, ?ha47⟩) (Or.inr (by assumption)) ?ra47
        case ha47 => (intro w hSw; (try dsimp only at hSw); go_simp; try with_reducible rfl)
        case' ra47 => skip
        try simp only [Act.put, List.setIfInBounds_toArray, List.set_cons_zero, List.set_cons_succ]
        refine wpAnyG_take (ws := [0,1,2,3,4,5,6,7,8,9,10,11,12,13,14,15]) (i := 8) (v := ?va48) at8 (by kernel_rfl) (fun _ _ _ h => h) (Or.inl ⟨by rfl, ?ha48⟩) (by assumption) ?ra48
        case ha48 => (intro w hSw; (try dsimp only at hSw); go_simp; try with_reducible rfl)
        case' ra48 => skip
        try simp only [Act.put, List.setIfInBounds_toArray, List.set_cons_zero, List.set_cons_succ]
        refine wpAnyG_pure (i := 9) (v := ?va49) at9 (by kernel_rfl) (fun _ _ _ h => h) (Or.inl ⟨by rfl, ?ha49⟩) (Or.inr (by assumption)) ?ra49
        case ha49 => (intro w hSw; (try dsimp only at hSw); go_simp; try with_reducible rfl)
        case' ra49 => skip
        try simp only [Act.put, List.setIfInBounds_toArray, List.set_cons_zero, List.set_cons_succ]
        refine wpAnyG_pure (i := 11) (v := ?va411) at11 (by kernel_rfl) (fun _ _ _ h => h) (Or.inl ⟨by rfl, ?ha411⟩) (Or.inr (by assumption)) ?ra411
        case ha411 => (intro w hSw; (try dsimp only at hSw); go_simp; try with_reducible rfl)
        case' ra411 => skip
        try simp only [Act.put, List.setIfInBounds_toArray, List.set_cons_zero, List.set_cons_succ]
        refine wpAnyG_take (ws := [0,1,2,3,4,5,6,7,8,9,10,11,12,13,14,15]) (i := 12) (v := ?va412) at12 (by kernel_rfl) (fun _ _ _ h => h) (Or.inl ⟨by rfl, ?ha412⟩) (by assumption) ?ra412
        case ha412 => (intro w hSw; (try dsimp only at hSw); go_simp; try with_reducible rfl)
        case' ra412 => skip
        try simp only [Act.put, List.setIfInBounds_toArray, List.set_cons_zero, List.set_cons_succ]
        refine wpAnyG_pure (i := 13) (v := ?va413) at13 (by kernel_rfl) (fun _ _ _ h => h) (Or.inl ⟨by rfl, ?ha413⟩) (Or.inr (by assumption)) ?ra413
        case ha413 => (intro w hSw; (try dsimp only at hSw); go_simp; try with_reducible rfl)
        case' ra413 => skip
        try simp only [Act.put, List.setIfInBounds_toArray, List.set_cons_zero, List.set_cons_succ]
        refine wpAnyG_one 10 at10 (by kernel_rfl) (fun Kn hK => ?_)
        go_simp
        refine (HWOR.out _ hb0).mono ?_
        rintro e w5 ⟨v5, rfl, ho5, hbq⟩
        obtain ⟨A5, ca5, rfl, _, _⟩ := own_slice ho5
        have hb1 := hb0.trans (hbq.mono hb0.size)
        clear hS
        have hS := HSS.out _ hb1
        refine hK.out _ _ (Or.inr hS) ?_
        clear hK Kn
        try simp only [Act.put, List.setIfInBounds_toArray, List.set_cons_zero, List.set_cons_succ]
        refine wpAnyG_one 14 at14 (by kernel_rfl) (fun Kn hK => ?_)
        go_simp
        refine (HWOW.out _ hb1).mono ?_
        rintro e w6 ⟨v6, rfl, ho6, hbq⟩
        obtain ⟨A6, ca6, rfl, _, _⟩ := own_slice ho6
        have hb2 := hb1.trans (hbq.mono hb1.size)
        clear hS
        have hS := HSS.out _ hb2
        have ho5' := own_below ho5 hbq
        refine hK.out _ _ (Or.inr hS) ?_
        clear hK Kn
        try simp only [Act.put, List.setIfInBounds_toArray, List.set_cons_zero, List.set_cons_succ]
        refine wpAnyG_pure (i := 15) (v := ?vc415) at15 (by kernel_rfl) (fun _ _ _ h => h) (Or.inl ⟨by rfl, ?hc415⟩) (Or.inr (by assumption)) ?rc415
        case hc415 => (intro w hSw; (try dsimp only at hSw); go_simp; try with_reducible rfl)
        case' rc415 => skip
        try simp only [Act.put, List.setIfInBounds_toArray, List.set_cons_zero, List.set_cons_succ]
        refine wpAnyG_one 16 at16 (by kernel_rfl) (fun Kn hK => ?_)
        refine step_store_all rfl _ _ _ rfl rfl rfl _ _ ((Keep.of_below hb2 : Keep (fun _ => False) W w6).at HR1.out fun e => e) info_rt rfl (by simp [Value.oneCell']) ?_
        intro w9 h9 k9 s9
        refine hK.out _ _ (Or.inl (by kernel_rfl)) ?_
        have hz6 := (Keep.of_below hb2 : Keep (fun _ => False) W w6).at HR1.out fun e => e
        have HL9 : Hid (Lists w9 ⟨ow, fi, ep + 1, rd.filter fun x => !decide (x = u), wl.filter fun x => !decide (x = u)⟩ (.slice A5 (rd.filter fun x => !decide (x = u)).length ca5) (.slice A6 (wl.filter fun x => !decide (x = u)).length ca6)) := Lib.hid ⟨strs_own (k9.own ho5' fun g hg => own_ne_type ho5' hz6 (by decide) hg), strs_own (k9.own ho6 fun g hg => own_ne_type ho6 hz6 (by decide) hg)⟩
        have HN := Lib.hid (below_at (HB0.out.trans (hb2.mono HB0.out.size)) k9 (Nat.le_succ _))
        have HNG : Hid (∀ g, ((Value.slice A5 (rd.filter fun x => !decide (x = u)).length ca5).ownBlock = some g ∨ (Value.slice A6 (wl.filter fun x => !decide (x = u)).length ca6).ownBlock = some g) → w.heap.size ≤ g) := Lib.hid (fun g hg => by
          have h0 := HB0.out.size
          have h1 := hb0.size
          have h2 := hb1.size
          rcases hg with hg | hg
          · have := own_new ho5' g hg; omega
          · have := own_new ho6 g hg; omega)
        have HR9 := Lib.hid h9
        clear hK Kn h9 k9 s9 hS hb0 hb1 hb2 ho5 ho5' ho6 hbq hz6 c0 c1 c2 c3 c4
        try simp only [Act.put, List.setIfInBounds_toArray, List.set_cons_zero, List.set_cons_succ]
        refine wpAnyG_one 17 at17 (by kernel_rfl) (fun Kn hK => ?_)
        go_simp
        refine hK.out _ _ (Or.inl (by kernel_rfl)) ?_
        clear hK Kn
        refine wpAnyG_done (by kernel_rfl) ?_
        try simp only [Act.put, List.setIfInBounds_toArray, List.set_cons_zero, List.set_cons_succ]
        obtain ⟨c0, c1, c2, c3, c4⟩ := row5 HR9.out
        go_wp2_with fail
        refine bodyPost_ret (v := .tuple #[.agg #[.string ow, .string fi, .int .i64 (ep + 1), .slice A5 (rd.filter fun x => !decide (x = u)).length ca5, .slice A6 (wl.filter fun x => !decide (x = u)).length ca6], .int .i64 0]) (by simp [results, Tryz.results149, go_sem, c0, c1, c2, c3, c4]) rfl ?_
        rw [HG2.out]
        exact ⟨⟨_, _, rfl, HL9.out, HNG.out⟩, HN.out⟩
    | false =>
      simp only [hm2] at HHW
      refine (HHW.out _ HB3.out).mono ?_
      rintro e w4 ⟨rfl, hb⟩
      have HB4 := Lib.hid (HB3.out.trans (hb.mono HB3.out.size))
      clear hb c0 c1 c2 c3 c4
      obtain ⟨c0, c1, c2, c3, c4⟩ := row5 ((Keep.of_below HB4.out : Keep (fun _ => False) W w4).at HR0.out fun e => e)
      go_wp2_with (with_reducible refine wp_stop_store _ _ _ rfl ?_)
      unfold Stop
      refine wp_store_all rfl _ _ _ rfl rfl rfl _ _ ((Keep.of_below HB4.out : Keep (fun _ => False) W w4).at HR1.out fun e => e) info_rt rfl (by simp [Value.oneCell']) ?_
      intro w9 h9 k9 s9
      have HN := Lib.hid (below_at (HB0.out.trans (HB4.out.mono HB0.out.size)) k9 (Nat.le_succ _))
      clear c0 c1 c2 c3 c4
      obtain ⟨c0, c1, c2, c3, c4⟩ := row5 h9
      clear h9 k9 s9
      go_wp2_with fail
      refine bodyPost_ret (v := .tuple #[.agg #[.string ⟨#[]⟩, .string ⟨#[]⟩, .int .i64 0, .slice none 0 0, .slice none 0 0], .int .i64 4]) (by simp [results, Tryz.results149, go_sem, c0, c1, c2, c3, c4]) rfl ?_
      rw [HG.out, hm1, hm2, if_pos (show (false || false) = false from rfl)]
      exact ⟨⟨.slice none 0 0, .slice none 0 0, rfl, ⟨strs_nil _, strs_nil _⟩, fun g hg => by simp [Value.ownBlock] at hg⟩, HN.out⟩

theorem new7_calls (w : World) : Calls Tryz.prog 147 #[.string annaB, .string notesB] w (RtRet7 w (newR8, 0)) := by
  have HA := fun W => nright1_calls annaB W (by decide)
  have HO := fun W => nright1_calls notesB W (by decide)
  rw [name_anna] at HA
  rw [name_notes] at HO
  have HA := Lib.hid HA
  have HO := Lib.hid HO
  obtain ⟨W, hW⟩ : ∃ W, w.alloc (.cells #[.string ⟨#[]⟩, .string ⟨#[]⟩, .int .i64 0, .slice none 0 0, .slice none 0 0] 39) = W := ⟨_, rfl⟩
  have hb : Below w.heap.size w W := by rw [← hW]; exact (Below.refl _ w).alloc (Nat.le_refl _) _
  have hr1 : W.heap[w.heap.size]? = some (.cells #[.string ⟨#[]⟩, .string ⟨#[]⟩, .int .i64 0, .slice none 0 0, .slice none 0 0] 39 (0, 0)) := by rw [← hW, get_alloc, if_pos rfl]
  have HB0 := Lib.hid hb
  have HR1 := Lib.hid hr1
  clear hb hr1
  go_enter Tryz.func147, Tryz.ntmps147
  go_wp2_with fail
  refine (HA.out _).mono ?_
  rintro e w1 ⟨rfl, hb⟩
  have HB1 := Lib.hid (HB0.out.trans (hb.mono HB0.out.size))
  have HR2 := Lib.hid ((Keep.of_below hb : Keep (fun _ => False) W w1).at HR1.out fun e => e)
  clear hb
  go_wp2_with fail
  refine (HO.out _).mono ?_
  rintro e w2 ⟨rfl, hb⟩
  have HB2 := Lib.hid (HB1.out.trans (hb.mono HB1.out.size))
  have HR3 := Lib.hid ((Keep.of_below hb : Keep (fun _ => False) w1 w2).at HR2.out fun e => e)
  clear hb
  go_wp2_with (with_reducible refine wp_stop_store _ _ _ rfl ?_)
  unfold Stop
  refine wp_store_all rfl _ _ _ rfl rfl rfl _ _ HR3.out info_rt rfl (by simp [Value.oneCell']) ?_
  intro w9 h9 k9 s9
  have HN := Lib.hid (below_at HB2.out k9 (Nat.le_refl _))
  obtain ⟨c0, c1, c2, c3, c4⟩ := row5 h9
  clear h9 k9 s9
  go_wp2_with fail
  refine bodyPost_ret (v := .tuple #[.agg #[.string annaB, .string notesB, .int .i64 0, .slice none 0 0, .slice none 0 0], .int .i64 0]) (by simp [results, Tryz.results147, go_sem, c0, c1, c2, c3, c4]) rfl ?_
  exact ⟨⟨.slice none 0 0, .slice none 0 0, rfl, ⟨strs_nil _, strs_nil _⟩, fun g hg => by simp [Value.ownBlock] at hg⟩, HN.out⟩
end Go.Proofs.YtckblcfkajpofaaGreatDoor
