/- (*Ledger).of, done. A life more; (*Ledger).begin. (*Ledger).begin. (Printed by tools/glv.py.) -/
import Derived.Test.YtgacfkenndhcnaaDoorZL2
import Derived.Test.YtgacfkenndhcnaaDoorZA5
namespace Go.Proofs.YtgacfkenndhcnaaDoor
open Go.RowKit
set_option linter.unusedVariables false
set_option linter.unusedSimpArgs false

def LifeM.has (x : LifeM) (V : Int) : Bool := x.ms.any fun m => decide (m.m.v = V)
def OfRet (G : LedM) (k : ByteArray) (V : Int) (e : Ending) : Prop :=
  (e = .returned (.pointer none) ∧ (G.lives k).findIdx? (fun x => x.has V) = none) ∨
  ∃ g n c xs i x, aget G.rows k = some (.slice (some ⟨g, 0, none⟩) n c, xs) ∧ xs.findIdx? (fun x => x.has V) = some i ∧ xs[i]? = some x ∧ e = .returned (.pointer (some ⟨g, i * 9, none⟩))
theorem lifeRow_cells {w : World} {v : Value} {l : List LifeM} (h : rowsOf 9 lifeV w v l) {i : Nat} {x : LifeM} (hx : l[i]? = some x) {j : Nat} {u : Value} (hu : (lifeV x)[j]? = some u) : ∃ b off c, v = .slice (some ⟨b, off, none⟩) l.length c ∧ w.cell? ⟨b, off + i * 9 + j, none⟩ = some u := by
  obtain ⟨A, c, rfl, h1, h2, h3⟩ := h
  obtain ⟨b, off, rfl, hc⟩ := h3 (by have := (List.getElem?_eq_some_iff.1 hx).1; omega)
  exact ⟨b, off, c, rfl, hc i x hx j u hu⟩
theorem IsLed.rowv {w : World} {role : Nat → Role} {G : LedM} (h : IsLed w role G) (k : ByteArray) : ∃ v, ((aget G.rows k).map (·.1)).getD (.slice none 0 0) = v ∧ w.ownsRow 0 59 9 v (G.lives k).length ((G.lives k).flatMap lifeV) ∧ (∀ i x, (G.lives k)[i]? = some x → aget G.rows k = some (v, G.lives k) ∧ LifeAt w role k i x) := by
  unfold LedM.lives
  cases hk : aget G.rows k with
  | none => exact ⟨_, rfl, own_nil _ _ _ _, fun i x hx => by simp at hx⟩
  | some r => exact ⟨r.1, rfl, h.row k r hk, fun i x hx => ⟨rfl, h.life k r hk i x hx⟩⟩
theorem enters_of1 : ∀ args w, (callFunc 34 args).run Tryd.prog w = .ok (.enter 34 args) w := enters_of Tryd.func34 (by kernel_rfl) rfl
set_option maxRecDepth 100000 in
set_option maxHeartbeats 4000000 in
theorem of_calls {w : World} {role : Nat → Role} {G : LedM} (h : IsLed w role G) (s : StA) (hvn : s.vn.oneCell' = true) (ho : s.owner.size ≤ 1000) (hf : s.file.size ≤ 1000) :
    Calls Tryd.prog 15 #[.pointer (some ⟨G.b, 0, none⟩), .agg (stepC s).toArray] w fun e w' => OfRet G (pathB s.owner s.file) s.ver e ∧ Below w.heap.size w w' := by
  obtain ⟨W, hW⟩ : ∃ W, w.alloc (.cells (stepC s).toArray 37) = W := ⟨_, rfl⟩
  have hb : Below w.heap.size w W := by rw [← hW]; exact (Below.refl _ w).alloc (Nat.le_refl _) _
  have hr : W.heap[w.heap.size]? = some (.cells (stepC s).toArray 37 (0, 0)) := by rw [← hW, get_alloc, if_pos rfl]
  have hd := h.below (hb.trans ((Below.refl _ W).drew.mono hb.size))
  have hlook := hd.map.look (P := Tryd.prog) lawS (t := 52) (et := 66) Tryd.underlying52 (zero_hass W.drew) (pathB s.owner s.file) false
  simp only [Bool.false_eq_true, if_false] at hlook
  rw [look_row] at hlook
  obtain ⟨v, hv, hown, hlife⟩ := hd.rowv (pathB s.owner s.file)
  rw [hv] at hlook
  obtain ⟨A, c, rfl, _, _⟩ := own_slice hown
  have e1 : s.owner ++ ⟨#[47]⟩ ++ s.file = pathB s.owner s.file := rfl
  have c3 := (h.below hb).cells.2.2.2
  have s2 : W.cell? ⟨w.heap.size, 2, none⟩ = some (.string s.owner) := by rw [cell_of_row _ _ _ _ _ _ hr]; rfl
  have s3 : W.cell? ⟨w.heap.size, 3, none⟩ = some (.string s.file) := by rw [cell_of_row _ _ _ _ _ _ hr]; rfl
  have s21 : W.cell? ⟨w.heap.size, 21, none⟩ = some (.int .u64 s.ver) := by rw [cell_of_row _ _ _ _ _ _ hr]; rfl
  have HB := Lib.hid hb
  have HS21 := Lib.hid s21
  have HOW := Lib.hid hown
  have HLF := Lib.hid hlife
  obtain ⟨xs, hxs⟩ : ∃ xs, G.lives (pathB s.owner s.file) = xs := ⟨_, rfl⟩
  obtain ⟨K, hK⟩ : ∃ K, pathB s.owner s.file = K := ⟨_, rfl⟩
  rw [hxs, hK] at HLF
  rw [hxs] at HOW hlook
  rw [hK] at hlook e1 ⊢
  have HXS : Hid (G.lives K = xs) := Lib.hid (by rw [← hK]; exact hxs)
  obtain ⟨n, hn⟩ : ∃ n, xs.length = n := ⟨_, rfl⟩
  have hnb : n ≤ 9223372036854775807 := by obtain ⟨_, _, _, _, h2, _⟩ := rows_flat lifeV_len HOW.out; rw [← hn]; exact h2
  rw [hn] at HOW hlook HLF
  have HN := Lib.hid hn
  unfold stepC cmdC at hW ⊢
  dsimp only [List.cons_append, List.nil_append] at hW ⊢
  have hz1 : ¬ 9223372036854775807 < s.owner.size + 1 := by omega
  have hz2 : ¬ 9223372036854775807 < s.owner.size + 1 + s.file.size := by omega
  clear h hb hr hd hv hown hlife hxs hK hn s21
  go_enter Tryd.func15, Tryd.ntmps15
  go_wp2_with fail
  refine wp_region_G (fun W2 => W2.cell? ⟨G.b, 3, none⟩ = some (.map (some G.bm)) ∧ W2.cell? ⟨w.heap.size, 2, none⟩ = some (.string s.owner) ∧ W2.cell? ⟨w.heap.size, 3, none⟩ = some (.string s.file)) [13] (by kernel_rfl) ?_
  have hS : (fun W2 : World => W2.cell? ⟨G.b, 3, none⟩ = some (.map (some G.bm)) ∧ W2.cell? ⟨w.heap.size, 2, none⟩ = some (.string s.owner) ∧ W2.cell? ⟨w.heap.size, 3, none⟩ = some (.string s.file)) W.drew := ⟨c3, s2, s3⟩
  refine wpAnyG_pure (i := 0) (v := ?va0) at0 (by kernel_rfl) (fun _ _ _ h => h) (Or.inl ⟨by rfl, ?ha0⟩) (Or.inr (by assumption)) ?ra0
  case ha0 => (intro w hSw; (try dsimp only at hSw); go_simp; try with_reducible rfl)
  case' ra0 => skip
  try simp only [Act.put, List.setIfInBounds_toArray, List.set_cons_zero, List.set_cons_succ]
  refine wpAnyG_pure (i := 1) (v := ?va1) at1 (by kernel_rfl) (fun _ _ _ h => h) (Or.inl ⟨by rfl, ?ha1⟩) (Or.inr (by assumption)) ?ra1
  case ha1 => (intro w hSw; (try dsimp only at hSw); go_simp; try with_reducible rfl)
  case' ra1 => skip
  try simp only [Act.put, List.setIfInBounds_toArray, List.set_cons_zero, List.set_cons_succ]
  refine wpAnyG_pure (i := 2) (v := ?va2) at2 (by kernel_rfl) (fun _ _ _ h => h) (Or.inl ⟨by rfl, ?ha2⟩) (Or.inr (by assumption)) ?ra2
  case ha2 => (intro w hSw; (try dsimp only at hSw); go_simp; try with_reducible rfl)
  case' ra2 => skip
  try simp only [Act.put, List.setIfInBounds_toArray, List.set_cons_zero, List.set_cons_succ]
  refine wpAnyG_take (ws := [3,6,7,10,11,12]) (i := 3) (v := ?va3) at3 (by kernel_rfl) (fun _ _ _ h => h) (Or.inl ⟨by rfl, ?ha3⟩) (by assumption) ?ra3
  case ha3 => (intro w hSw; (try dsimp only at hSw); go_simp; try with_reducible rfl)
  case' ra3 => skip
  try simp only [Act.put, List.setIfInBounds_toArray, List.set_cons_zero, List.set_cons_succ]
  refine wpAnyG_pure (i := 4) (v := ?va4) at4 (by kernel_rfl) (fun _ _ _ h => h) (Or.inl ⟨by rfl, ?ha4⟩) (Or.inr (by assumption)) ?ra4
  case ha4 => (intro w hSw; (try dsimp only at hSw); go_simp; try with_reducible rfl)
  case' ra4 => skip
  try simp only [Act.put, List.setIfInBounds_toArray, List.set_cons_zero, List.set_cons_succ]
  refine wpAnyG_pure (i := 5) (v := ?va5) at5 (by kernel_rfl) (fun _ _ _ h => h) (Or.inl ⟨by rfl, ?ha5⟩) (Or.inr (by assumption)) ?ra5
  case ha5 => (intro w hSw; (try dsimp only at hSw); go_simp; try with_reducible rfl)
  case' ra5 => skip
  try simp only [Act.put, List.setIfInBounds_toArray, List.set_cons_zero, List.set_cons_succ]
  refine wpAnyG_take (ws := [3,6,7,10,11,12]) (i := 6) (v := ?va6) at6 (by kernel_rfl) (fun _ _ _ h => h) (Or.inl ⟨by rfl, ?ha6⟩) (by assumption) ?ra6
  case ha6 => (intro w hSw; (try dsimp only at hSw); go_simp; try with_reducible rfl)
  case' ra6 => skip
  try simp only [Act.put, List.setIfInBounds_toArray, List.set_cons_zero, List.set_cons_succ]
  refine wpAnyG_pure (i := 7) (v := ?va7) at7 (by kernel_rfl) (fun _ _ _ h => h) (Or.inl ⟨by rfl, ?ha7⟩) (Or.inr (by assumption)) ?ra7
  case ha7 => (intro w hSw; (try dsimp only at hSw); go_simp; try with_reducible rfl)
  case' ra7 => skip
  try simp only [Act.put, List.setIfInBounds_toArray, List.set_cons_zero, List.set_cons_succ]
  refine wpAnyG_pure (i := 8) (v := ?va8) at8 (by kernel_rfl) (fun _ _ _ h => h) (Or.inl ⟨by rfl, ?ha8⟩) (Or.inr (by assumption)) ?ra8
  case ha8 => (intro w hSw; (try dsimp only at hSw); go_simp; try with_reducible rfl)
  case' ra8 => skip
  try simp only [Act.put, List.setIfInBounds_toArray, List.set_cons_zero, List.set_cons_succ]
  refine wpAnyG_pure (i := 9) (v := ?va9) at9 (by kernel_rfl) (fun _ _ _ h => h) (Or.inl ⟨by rfl, ?ha9⟩) (Or.inr (by assumption)) ?ra9
  case ha9 => (intro w hSw; (try dsimp only at hSw); go_simp; try with_reducible rfl)
  case' ra9 => skip
  try simp only [Act.put, List.setIfInBounds_toArray, List.set_cons_zero, List.set_cons_succ]
  refine wpAnyG_take (ws := [3,6,7,10,11,12]) (i := 10) (v := ?va10) at10 (by kernel_rfl) (fun _ _ _ h => h) (Or.inl ⟨by rfl, ?ha10⟩) (by assumption) ?ra10
  case ha10 => (intro w hSw; (try dsimp only at hSw); go_simp; try with_reducible rfl)
  case' ra10 => skip
  try simp only [Act.put, List.setIfInBounds_toArray, List.set_cons_zero, List.set_cons_succ]
  refine wpAnyG_pure (i := 11) (v := ?va11) at11 (by kernel_rfl) (fun _ _ _ h => h) (Or.inl ⟨by rfl, ?ha11⟩) (Or.inr (by assumption)) ?ra11
  case ha11 => (intro w hSw; (try dsimp only at hSw); go_simp; try with_reducible rfl)
  case' ra11 => skip
  try simp only [Act.put, List.setIfInBounds_toArray, List.set_cons_zero, List.set_cons_succ]
  refine wpAnyG_one 12 at12 (by kernel_rfl) (fun Kn hK => ?_)
  go_simp
  refine hK.out _ _ (Or.inr hS) ?_
  clear hK Kn
  try simp only [Act.put, List.setIfInBounds_toArray, List.set_cons_zero, List.set_cons_succ]
  refine wpAnyG_one 13 at13 (by kernel_rfl) (fun Kn hK => ?_)
  go_simp
  refine hK.out _ _ (Or.inl (by kernel_rfl)) ?_
  clear hK Kn hS hlook c3 s2 s3 hz1 hz2 e1
  refine wpAnyG_done (by kernel_rfl) ?_
  try simp only [Act.put, List.setIfInBounds_toArray, List.set_cons_zero, List.set_cons_succ]
  have HB1 := Lib.hid (HB.out.trans ((Below.refl _ W).drew.mono HB.out.size))
  obtain ⟨W1, hW1⟩ : ∃ x, W.drew = x := ⟨_, rfl⟩
  have HS1 : Hid (W1.cell? ⟨w.heap.size, 21, none⟩ = some (.int .u64 s.ver)) := Lib.hid (by rw [← hW1]; exact HS21.out)
  rw [hW1] at HB1 HOW HLF ⊢
  clear hW1
  go_wp2_with fail
  go_loopw [6, 22] (fun j i wr => ∃ k : Nat, k ≤ n ∧ i = .int .i64 k ∧ Hid ((xs.take k).any (fun x => x.has s.ver) = false ∧ Below W1.heap.size W1 wr)) (fun _ i _ => n - (intOf i).toNat)
  case atStart => exact ⟨0, Nat.zero_le _, rfl, by simp, Below.refl _ _⟩
  case round =>
    obtain ⟨k, hk, rfl, HO⟩ := hrel
    by_cases hlt : k < n
    · obtain ⟨x, hx⟩ : ∃ x, xs[k]? = some x := ⟨_, List.getElem?_eq_getElem (by rw [HN.out]; exact hlt)⟩
      obtain ⟨hrow, hL⟩ := HLF.out k x hx
      obtain ⟨g, c', hv', _, hcell⟩ := own_block ((Keep.of_below HO.out.2 : Keep (fun _ => False) W1 wr).own HOW.out fun _ _ e => e) (by omega)
      obtain ⟨rfl, rfl⟩ : A = some ⟨g, 0, none⟩ ∧ c = c' := by cases hv'; exact ⟨rfl, rfl⟩
      have c0 : wr.cell? ⟨g, k * 9, none⟩ = some x.vm := (hcell (k * 9 + 0) x.vm (by rw [flat_get lifeV_len hx (by omega)]; rfl)).1
      have hA := anyMark_calls 34 enters_of1 (.pointer (some ⟨w.heap.size, 0, none⟩)) (fun m => decide (m.m.v = s.ver)) wr x.vm x.ms (rows_flat markV_len ((Keep.of_below HO.out.2 : Keep (fun _ => False) W1 wr).own hL.mrk fun _ _ e => e)) (fun m hm W2 hb => of1_calls m s.ver w.heap.size W2 ((Keep.of_below (HO.out.2.trans (hb.mono HO.out.2.size)) : Keep (fun _ => False) W1 W2).cell HS1.out fun e => e))
      obtain ⟨bb, hbb⟩ : ∃ b, x.ms.any (fun m => decide (m.m.v = s.ver)) = b := ⟨_, rfl⟩
      rw [hbb] at hA
      have HA := Lib.hid hA
      have hx2 : x.has s.ver = bb := hbb
      have HX := Lib.hid hx
      have HXB := Lib.hid hx2
      have HROW := Lib.hid hrow
      clear hx hrow hL hv' hcell hA hbb hx2
      cases bb with
      | true =>
        have HF : Hid (OfRet G K s.ver (.returned (.pointer (some ⟨g, k * 9, none⟩)))) := Lib.hid (Or.inr ⟨g, n, c, xs, k, x, HROW.out, findIdx_at HX.out HO.out.1 HXB.out, HX.out, rfl⟩)
        go_wp2_with fail
        refine HA.out.mono ?_
        rintro e w2 ⟨rfl, hb⟩
        have HB2 := Lib.hid (HB1.out.trans ((HO.out.2.trans (hb.mono HO.out.2.size)).mono HB1.out.size))
        clear hb
        go_wp2_with fail
        go_ret
        exact ⟨HF.out, HB2.out⟩
      | false =>
        have HN2 : Hid ((xs.take (k + 1)).any (fun x => x.has s.ver) = false) := Lib.hid (by rw [take_any_succ HX.out, HO.out.1, HXB.out]; rfl)
        go_wp2_with fail
        refine HA.out.mono ?_
        rintro e w2 ⟨rfl, hb⟩
        have HB2 := Lib.hid (HO.out.2.trans (hb.mono HO.out.2.size))
        clear hb
        go_wp2_with fail
        go_roundw
        case rel => exact ⟨k + 1, by omega, by go_num, HN2.out, HB2.out⟩
        case measure => simp [intOf]; omega
    · obtain rfl : k = n := by omega
      have HF : Hid (OfRet G K s.ver (.returned (.pointer none))) := Lib.hid (Or.inl ⟨rfl, by rw [HXS.out]; exact findIdx_no (by have := HO.out.1; rwa [List.take_of_length_le (by rw [HN.out]; exact Nat.le_refl _)] at this)⟩)
      go_wp2_with fail
      go_ret
      exact ⟨HF.out, HB1.out.trans (HO.out.2.mono HB1.out.size)⟩
/-! ### done -/
def doneB (s : StA) : Bool := if s.kind = 99 ∨ s.kind = 103 ∨ s.kind = 107 ∨ s.kind = 109 ∨ s.kind = 102 then (s.err == 0 || s.err == 11) else s.err == 0
set_option maxRecDepth 100000 in
set_option maxHeartbeats 2000000 in
theorem done_calls (w : World) (s : StA) :
    Calls Tryd.prog 13 #[.agg (stepC s).toArray] w fun e w' => e = .returned (.bool (doneB s)) ∧ Below w.heap.size w w' := by
  obtain ⟨W, hW⟩ : ∃ W, w.alloc (.cells (stepC s).toArray 37) = W := ⟨_, rfl⟩
  have hb : Below w.heap.size w W := by rw [← hW]; exact (Below.refl _ w).alloc (Nat.le_refl _) _
  have hr : W.heap[w.heap.size]? = some (.cells (stepC s).toArray 37 (0, 0)) := by rw [← hW, get_alloc, if_pos rfl]
  have s0 : W.cell? ⟨w.heap.size, 0, none⟩ = some (.int .u8 s.kind) := by rw [cell_of_row _ _ _ _ _ _ hr]; rfl
  have s18 : W.cell? ⟨w.heap.size, 18, none⟩ = some (.int .i64 s.err) := by rw [cell_of_row _ _ _ _ _ _ hr]; rfl
  have HB := Lib.hid hb
  unfold stepC cmdC at hW ⊢
  dsimp only [List.cons_append, List.nil_append] at hW ⊢
  obtain ⟨kd, hkd⟩ : ∃ k, s.kind = k := ⟨_, rfl⟩
  obtain ⟨er, her⟩ : ∃ k, s.err = k := ⟨_, rfl⟩
  have HD : Hid (doneB s = if kd = 99 ∨ kd = 103 ∨ kd = 107 ∨ kd = 109 ∨ kd = 102 then (er == 0 || er == 11) else er == 0) := Lib.hid (by unfold doneB; rw [hkd, her])
  rw [hkd] at s0 hW ⊢
  rw [her] at s18 hW ⊢
  clear hkd her hb hr
  have main : ∀ (b : Bool), doneB s = b → (doneB s = b) := fun _ h => h
  clear main
  by_cases h : kd = 99 ∨ kd = 103 ∨ kd = 107 ∨ kd = 109 ∨ kd = 102
  · have hd := HD.out
    rw [if_pos h] at hd
    have HD2 := Lib.hid hd
    clear hd
    cases h0 : (er == 0) with
    | true =>
      rcases h with rfl | rfl | rfl | rfl | rfl
      all_goals
        go_enter Tryd.func13, Tryd.ntmps13
        go_wp2_with fail
        go_ret
        exact ⟨by rw [HD2.out, h0]; rfl, HB.out⟩
    | false =>
      cases h1 : (er == 11) with
      | true =>
        rcases h with rfl | rfl | rfl | rfl | rfl
        all_goals
          go_enter Tryd.func13, Tryd.ntmps13
          go_wp2_with fail
          go_ret
          exact ⟨by rw [HD2.out, h0, h1]; rfl, HB.out⟩
      | false =>
        rcases h with rfl | rfl | rfl | rfl | rfl
        all_goals
          go_enter Tryd.func13, Tryd.ntmps13
          go_wp2_with fail
          go_ret
          exact ⟨by rw [HD2.out, h0, h1]; rfl, HB.out⟩
  · have hd := HD.out
    rw [if_neg h] at hd
    have HD2 := Lib.hid hd
    have f1 : (kd == 99) = false := beq_eq_false_iff_ne.2 fun e => h (Or.inl e)
    have f2 : (kd == 103) = false := beq_eq_false_iff_ne.2 fun e => h (Or.inr (Or.inl e))
    have f3 : (kd == 107) = false := beq_eq_false_iff_ne.2 fun e => h (Or.inr (Or.inr (Or.inl e)))
    have f4 : (kd == 109) = false := beq_eq_false_iff_ne.2 fun e => h (Or.inr (Or.inr (Or.inr (Or.inl e))))
    have f5 : (kd == 102) = false := beq_eq_false_iff_ne.2 fun e => h (Or.inr (Or.inr (Or.inr (Or.inr e))))
    clear hd h
    cases h0 : (er == 0) with
    | true =>
      go_enter Tryd.func13, Tryd.ntmps13
      go_wp2_with fail
      go_ret
      exact ⟨by rw [HD2.out, h0]; rfl, HB.out⟩
    | false =>
      go_enter Tryd.func13, Tryd.ntmps13
      go_wp2_with fail
      go_ret
      exact ⟨by rw [HD2.out, h0]; rfl, HB.out⟩
end Go.Proofs.YtgacfkenndhcnaaDoor
namespace Go.Proofs.YtgacfkenndhcnaaDoor
open Go.RowKit
set_option linter.unusedVariables false
set_option linter.unusedSimpArgs false

theorem strs.keep3' {w w' : World} {v : Value} {l : List ByteArray} (h : strs w v l) (hl : l = []) : strs w' v l := by
  subst hl; obtain ⟨A, c, rfl, h1, h2, h3⟩ := h; exact ⟨A, c, rfl, h1, h2, fun h => absurd h (Nat.lt_irrefl 0)⟩
def rowVal (G : LedM) (k : ByteArray) : Value := ((aget G.rows k).map (·.1)).getD (.slice none 0 0)
theorem amap_fst_aput (rows : LRows) (k : ByteArray) (u : Value) (xs : List LifeM) : amap (fun p : Value × List LifeM => p.1) (aput rows k (u, xs)) = aput (amap (·.1) rows) k u := by rw [← aput_amap]
theorem IsLed.vrole {w : World} {role : Nat → Role} {G : LedM} (h : IsLed w role G) {k : ByteArray} {g : Nat} (hg : (rowVal G k).ownBlock = some g) : role g = .row k ∧ g < w.heap.size := by
  unfold rowVal at hg
  cases hk : aget G.rows k with
  | none => rw [hk] at hg; cases hg
  | some r =>
    rw [hk] at hg
    exact ⟨h.rr k r hk g hg, (World.ownsRow.lt (h.row k r hk) g hg).2⟩
/-- a life more behind those of a path -/
theorem IsLed.grow {w w1 w2 : World} {role : Nat → Role} {G : LedM} (h : IsLed w role G) (k : ByteArray) (x : LifeM) {u : Value} (hx1 : x.ms = []) (hx2 : x.ws = []) (hx3 : x.vm = .slice none 0 0) (hx4 : x.vd = .slice none 0 0) (hx5 : x.r.rd = []) (hx6 : x.r.wr = []) (hx7 : Lists w1 x.r x.vr x.vw)
    (ho : w1.ownsRow 0 59 9 u (G.lives k ++ [x]).length ((G.lives k ++ [x]).flatMap lifeV)) (K1 : Keep (fun q => (rowVal G k).ownBlock = some q) w w1) (loc : u.ownBlock = (rowVal G k).ownBlock ∨ ∀ g, u.ownBlock = some g → w.heap.size ≤ g)
    (hm : smap w2 Value.string G.bm (aput (valsOf G.rows) k u)) (K2 : Keep (fun q => q = G.bm) w1 w2) :
    ∃ role', IsLed w2 role' { G with rows := aput G.rows k (u, G.lives k ++ [x]) } ∧ Keep (fun q => role q ≠ .none) w w2 ∧ ∀ q, q < w.heap.size → role' q = role q := by
  have K : Keep (fun q => (rowVal G k).ownBlock = some q ∨ q = G.bm) w w2 := (K1.mono fun q e => Or.inl e).trans K2 fun q e => Or.inl (Or.inr e)
  have hF : ∀ q, ((rowVal G k).ownBlock = some q ∨ q = G.bm) → role q = .row k ∨ role q = .map := fun q e => by
    rcases e with e | rfl
    · exact Or.inl (h.vrole e).1
    · exact Or.inr h.rmp
  have hr : ∀ q, q < w.heap.size → (if u.ownBlock = some q then Role.row k else role q) = role q := fun q hq => by
    by_cases e : u.ownBlock = some q
    · rw [if_pos e]
      rcases loc with e2 | e2
      · exact (h.vrole (e2.symm.trans e)).1.symm
      · have := e2 q e; omega
    · rw [if_neg e]
  have hub : ∀ q, u.ownBlock = some q → ¬ q = G.bm := fun q e e2 => by
    rcases loc with e3 | e3
    · have := (h.vrole (e3.symm.trans e)).1
      rw [e2, h.rmp] at this; cases this
    · have := e3 q e
      have := h.map.lt
      omega
  have hb := (Array.getElem?_eq_some_iff.1 h.blk).1
  have no : ∀ q, role q ≠ .row k → role q ≠ .map → ¬ ((rowVal G k).ownBlock = some q ∨ q = G.bm) := fun q a b e => by
    rcases hF q e with e | e
    · exact a e
    · exact b e
  refine ⟨fun q => if u.ownBlock = some q then .row k else role q, ⟨?_, ?_, ?_, ?_, ?_, ?_, ?_, ?_, ?_, ?_⟩, K.mono fun q e => ?_, hr⟩
  · exact K.at h.blk (no _ (by rw [h.rb]; simp) (by rw [h.rb]; simp))
  · exact (hr _ hb).trans h.rb
  · exact K.own h.cor fun g hg => no g (by rw [h.rc g hg]; simp) (by rw [h.rc g hg]; simp)
  · exact fun g hg => (hr g (World.ownsRow.lt h.cor g hg).2).trans (h.rc g hg)
  · show smap w2 Value.string G.bm (amap _ (aput G.rows k (u, _)))
    rw [amap_fst_aput]; exact hm
  · exact (hr _ h.map.lt).trans h.rmp
  · intro j r hj
    change aget (aput G.rows k (u, G.lives k ++ [x])) j = some r at hj
    rw [aget_aput] at hj
    by_cases e : j = k
    · rw [if_pos e] at hj; cases hj
      exact K2.own ho fun q hq e2 => hub q hq e2
    · rw [if_neg e] at hj
      exact K.own (h.row j r hj) fun g hg => no g (by rw [h.rr j r hj g hg]; simp [e]) (by rw [h.rr j r hj g hg]; simp)
  · intro j r hj g hg
    change aget (aput G.rows k (u, G.lives k ++ [x])) j = some r at hj
    rw [aget_aput] at hj
    by_cases e : j = k
    · rw [if_pos e] at hj; cases hj
      rw [e]; exact if_pos hg
    · rw [if_neg e] at hj
      exact (hr g (World.ownsRow.lt (h.row j r hj) g hg).2).trans (h.rr j r hj g hg)
  · intro j r hj i y hy
    change aget (aput G.rows k (u, G.lives k ++ [x])) j = some r at hj
    rw [aget_aput] at hj
    have old : ∀ (r0 : Value × List LifeM), aget G.rows j = some r0 → ∀ y, r0.2[i]? = some y → LifeAt w2 (fun q => if u.ownBlock = some q then .row k else role q) j i y := fun r0 h0 y hy0 =>
      (h.life j r0 h0 i y hy0).keep K (fun g a b => by rcases hF g a with e | e <;> rw [e] <;> simp) hr
    by_cases e : j = k
    · rw [if_pos e] at hj; cases hj
      subst e
      dsimp only at hy
      by_cases hi : i < (G.lives j).length
      · rw [List.getElem?_append_left hi] at hy
        cases hk : aget G.rows j with
        | none => unfold LedM.lives at hi; rw [hk] at hi; simp at hi
        | some r0 =>
          refine old r0 hk y ?_
          unfold LedM.lives at hy; rw [hk] at hy; exact hy
      · rw [List.getElem?_append_right (by omega)] at hy
        have hxy : x = y := by
          have : i - (G.lives j).length = 0 := by
            have := (List.getElem?_eq_some_iff.1 hy).1
            simp at this; omega
          rw [this] at hy; simpa using hy
        subst hxy
        have hx8 : Lists w2 x.r x.vr x.vw := by
          refine ⟨hx7.rd.keep3' ?_, hx7.wr.keep3' ?_⟩
          · exact hx5
          · exact hx6
        refine ⟨?_, ?_, ?_, ?_, ⟨hx8, fun e => absurd hx5 e, fun e => absurd hx6 e⟩, fun m hm => by rw [hx1] at hm; cases hm⟩
        · rw [hx1, hx3]; exact own_nil _ _ _ _
        · rw [hx2, hx4]; exact own_nil _ _ _ _
        · intro g hg; rw [hx3] at hg; cases hg
        · intro g hg; rw [hx4] at hg; cases hg
    · rw [if_neg e] at hj
      exact old r hj y hy
  · intro g hg
    by_cases e : u.ownBlock = some g
    · exact Nat.lt_of_lt_of_le (World.ownsRow.lt ho g e).2 K2.size
    · simp only [if_neg e] at hg
      exact Nat.lt_of_lt_of_le (h.low g hg) K.size
  · rcases hF q e with e | e <;> rw [e] <;> simp
end Go.Proofs.YtgacfkenndhcnaaDoor
namespace Go.Proofs.YtgacfkenndhcnaaDoor
open Go.RowKit
set_option linter.unusedVariables false
set_option linter.unusedSimpArgs false

abbrev PLed := List (ByteArray × List Life)
def PLed.at (P : PLed) (k : ByteArray) : List Life := (aget P k).getD []
def lifeOn (ls : List Life) : Option Life := match ls.getLast? with
  | some x => if x.gone then none else some x
  | none => none
def nextVer (ls : List Life) : Int := match ls.getLast? with
  | some x => IntKind.u64.wrap (x.ver + 1)
  | none => 1
def beginP (P : PLed) (o f : ByteArray) : PLed := if (newR o f).2 = 0 ∧ lifeOn (P.at (pathB o f)) = none then aput P (pathB o f) (P.at (pathB o f) ++ [⟨[], [], false, (newR o f).1, nextVer (P.at (pathB o f))⟩]) else P
theorem pure_at_k (G : LedM) (k : ByteArray) : PLed.at G.pure k = (G.lives k).map LifeM.life := by
  unfold PLed.at LedM.pure LedM.lives
  rw [aget_amap]
  cases aget G.rows k <;> rfl
/-- what an act leaves -/
def LedRet (w : World) (role : Nat → Role) (G : LedM) (now : Int) (cor : List ByteArray) (P : PLed) (w' : World) : Prop := ∃ role' G', IsLed w' role' G' ∧ G'.b = G.b ∧ G'.bound = G.bound ∧ G'.now = now ∧ G'.cor = cor ∧ G'.pure = P ∧ Keep (fun q => role q ≠ .none) w w' ∧ ∀ q, q < w.heap.size → role' q = role q
theorem LedRet.still {w w' : World} {role : Nat → Role} {G : LedM} (h : IsLed w role G) (k : Below w.heap.size w w') : LedRet w role G G.now G.cor G.pure w' := ⟨role, G, h.below k, rfl, rfl, rfl, rfl, rfl, Keep.of_below k, fun _ _ => rfl⟩
theorem info_has : (Tryd.prog.info? 59).map (fun i => (i.zero, i.size, i.bytes)) = some (some (.agg #[.slice none 0 0, .slice none 0 0, .bool false, .string ⟨#[]⟩, .string ⟨#[]⟩, .int .i64 0, .slice none 0 0, .slice none 0 0, .int .u64 0]), 9, 152) := by kernel_rfl
theorem info_has9 : (Tryd.prog.info? 59).map (·.size) = some 9 := by kernel_rfl
set_option maxRecDepth 100000 in
theorem append_life {w : World} {v : Value} {xs : List LifeM} (ho : w.ownsRow 0 59 9 v xs.length (xs.flatMap lifeV)) (x : LifeM) (h1 : x.vm.oneCell' = true) (h2 : x.vd.oneCell' = true) (h3 : x.vr.oneCell' = true) (h4 : x.vw.oneCell' = true) (hl : xs.length ≤ 100000) :
    ∃ A c w', (Builtin.append_ #[66, 66] 66 #[v, .slice (some ⟨w.heap.size, 0, none⟩) 1 1]).run Tryd.prog (w.alloc (.cells #[x.vm, x.vd, .bool x.gone, .string x.r.owner, .string x.r.file, .int .i64 x.r.epoch, x.vr, x.vw, .int .u64 x.ver] 59)) = .ok (.slice A (xs.length + 1) c) w' ∧
      w'.ownsRow 0 59 9 (.slice A (xs.length + 1) c) (xs ++ [x]).length ((xs ++ [x]).flatMap lifeV) ∧ Keep (fun i => v.ownBlock = some i) w w' ∧ ((Value.slice A (xs.length + 1) c).ownBlock = v.ownBlock ∨ (Value.slice A (xs.length + 1) c).ownBlock = some (w.heap.size + 1)) := by
  obtain ⟨i0, hi, hz0, hz1, hz2⟩ := info_parts info_has
  obtain ⟨v', w', hr, g2, g3, g4, g5⟩ := run_append_own_at (P := Tryd.prog) (w.alloc (.cells #[x.vm, x.vd, .bool x.gone, .string x.r.owner, .string x.r.file, .int .i64 x.r.epoch, x.vr, x.vw, .int .u64 x.ver] 59)) 0 66 66 59 i0 _ 9 152 Tryd.underlying66 hi hz0 hz1 hz2 rfl (by decide) v xs.length (xs.flatMap lifeV) (ho.alloc _)
    ⟨w.heap.size, 0, none⟩ 1 1 (lifeV x) rfl (fun j u hj => by rw [add_at, Nat.zero_add, cell_of_row _ _ _ _ _ _ (MapKept.heap_alloc w _).1, ← Array.getElem?_toList]; exact hj) (by intro u hu; simp only [lifeV, List.mem_cons, List.not_mem_nil, or_false] at hu; rcases hu with rfl | rfl | rfl | rfl | rfl | rfl | rfl | rfl | rfl <;> first | rfl | assumption) (by unfold maxLen; omega) (by omega) (Nat.zero_le _)
  have hex : ∃ A c, v' = .slice A (xs.length + 1) c := by
    rcases g2.2 with ⟨rfl, h0⟩ | ⟨g, cap, cur, hv, _⟩
    · omega
    · exact ⟨_, _, hv⟩
  obtain ⟨A, c, rfl⟩ := hex
  refine ⟨A, c, w', hr, by rw [flat_snoc]; simpa using g2, ?_, by simpa [size_alloc] using g5⟩
  exact (Keep.alloc _ w _).same (Keep.of_grown g3 fun k hk => hk)
theorem IsLed.slice {w : World} {role : Nat → Role} {G : LedM} (h : IsLed w role G) (k : ByteArray) : ∃ A c, rowVal G k = .slice A (G.lives k).length c ∧ w.ownsRow 0 59 9 (.slice A (G.lives k).length c) (G.lives k).length ((G.lives k).flatMap lifeV) := by
  obtain ⟨v, hv, ho, _⟩ := h.rowv k
  obtain ⟨A, c, e, _, _⟩ := own_slice ho
  exact ⟨A, c, by unfold rowVal; rw [hv, e], by rw [← e]; exact ho⟩
theorem look_vals {w : World} {G : LedM} (h : smap w Value.string G.bm (valsOf G.rows)) (k : ByteArray) : (Instr.lookup 52 (.map (some G.bm)) (.string k) false).run Tryd.prog w = .ok (rowVal G k) w := by
  have hlook := h.look (P := Tryd.prog) lawS (t := 52) (et := 66) Tryd.underlying52 (zero_hass w) k false
  simp only [Bool.false_eq_true, if_false] at hlook
  unfold valsOf at hlook
  rw [look_row] at hlook
  exact hlook
theorem IsLed.looks {w : World} {role : Nat → Role} {G : LedM} (h : IsLed w role G) (k : ByteArray) : (Instr.lookup 52 (.map (some G.bm)) (.string k) false).run Tryd.prog w = .ok (rowVal G k) w := look_vals h.map k
theorem row9h {w : World} {b : Nat} {v0 v1 v2 v3 v4 v5 v6 v7 v8 : Value} {t : TypeId} (h : w.heap[b]? = some (.cells #[v0, v1, v2, v3, v4, v5, v6, v7, v8] t (0, 0))) : w.cell? ⟨b, 0, none⟩ = some v0 ∧ w.cell? ⟨b, 1, none⟩ = some v1 ∧ w.cell? ⟨b, 2, none⟩ = some v2 ∧ w.cell? ⟨b, 3, none⟩ = some v3 ∧ w.cell? ⟨b, 4, none⟩ = some v4 ∧ w.cell? ⟨b, 5, none⟩ = some v5 ∧ w.cell? ⟨b, 6, none⟩ = some v6 ∧ w.cell? ⟨b, 7, none⟩ = some v7 ∧ w.cell? ⟨b, 8, none⟩ = some v8 := by
  refine ⟨?_, ?_, ?_, ?_, ?_, ?_, ?_, ?_, ?_⟩ <;> (rw [cell_of_row _ _ _ _ _ _ h]; rfl)
theorem begin_pure (G : LedM) (k : ByteArray) (u : Value) (x : LifeM) : ({ G with rows := aput G.rows k (u, G.lives k ++ [x]) } : LedM).pure = aput G.pure k (PLed.at G.pure k ++ [x.life]) := by
  rw [pure_at_k]
  show amap _ (aput G.rows k (u, _)) = _
  rw [← aput_amap]
  unfold LedM.pure
  rw [List.map_append]; rfl
set_option maxRecDepth 100000 in
set_option maxHeartbeats 4000000 in
theorem begin_calls {w : World} {role : Nat → Role} {G : LedM} (h : IsLed w role G) (o f : ByteArray) (ho : o.size ≤ 1000) (hf : f.size ≤ 1000) (hl : (G.lives (pathB o f)).length ≤ 1000) (hT : Tabs w) :
    Calls Tryd.prog 16 #[.pointer (some ⟨G.b, 0, none⟩), .string o, .string f] w fun e w' => e = .returned (.tuple #[]) ∧ LedRet w role G G.now G.cor (beginP G.pure o f) w' := by
  have HNW := Lib.hid (new_calls w o f (by omega) (by omega) hT)
  have HH := Lib.hid h
  have HOF := Lib.hid (And.intro ho hf)
  have HLL := Lib.hid hl
  have hnr : (newR o f).1.rd = [] ∧ (newR o f).1.wr = [] ∧ (newR o f).1.epoch = 0 := by unfold newR; split <;> exact ⟨rfl, rfl, rfl⟩
  have hn2 : (newR o f).2 = 0 ∨ (newR o f).2 = 3 := by unfold newR; split <;> simp
  obtain ⟨⟨r, er⟩, hre⟩ : ∃ x, newR o f = x := ⟨_, rfl⟩
  have HBP : Hid (beginP G.pure o f = if er = 0 ∧ lifeOn (PLed.at G.pure (pathB o f)) = none then aput G.pure (pathB o f) (PLed.at G.pure (pathB o f) ++ [⟨[], [], false, r, nextVer (PLed.at G.pure (pathB o f))⟩]) else G.pure) := Lib.hid (by unfold beginP; rw [hre])
  rw [hre] at HNW hnr hn2
  dsimp only at HNW hnr hn2
  have HNR := Lib.hid hnr
  have e1 : o ++ ⟨#[47]⟩ ++ f = pathB o f := rfl
  have hz1 : ¬ 9223372036854775807 < o.size + 1 := by omega
  have hz2 : ¬ 9223372036854775807 < o.size + 1 + f.size := by omega
  obtain ⟨K, hK⟩ : ∃ K, pathB o f = K := ⟨_, rfl⟩
  have HKE := Lib.hid hK
  rw [hK] at e1 HBP HLL
  clear h ho hf hl hT hnr hre hK
  go_enter Tryd.func16, Tryd.ntmps16
  go_wp2_with fail
  refine HNW.out.mono ?_
  rintro e w1 ⟨rfl, hb1⟩
  have HB1 := Lib.hid hb1
  clear hb1
  go_wp2_with (with_reducible refine wp_stop_store (o := ⟨none, .store _ (.tmp 6) _, _, _, _, _⟩) _ _ _ rfl ?_)
  unfold Stop
  refine wp_store_all rfl _ _ _ rfl rfl rfl _ _ ((get_alloc _ _ _).trans (if_pos rfl)) info_rt rfl (by simp [Value.oneCell']) ?_
  intro w2 h2 k2 s2
  obtain ⟨Zr, hZr⟩ : ∃ Z, w1.heap.size = Z := ⟨_, rfl⟩
  have hb12 : Below w1.heap.size w1 w2 := below_keep ((Below.refl w1.heap.size w1).alloc (Nat.le_refl _) _) k2
  have HB2 := Lib.hid (HB1.out.trans (hb12.mono HB1.out.size))
  have HI2 := Lib.hid (HH.out.below HB2.out)
  rw [hZr] at h2 ⊢
  have HR2 := Lib.hid h2
  clear h2 k2 s2 hb12 hZr
  rcases hn2 with rfl | rfl
  · have HBQ : Hid (beginP G.pure o f = if lifeOn (PLed.at G.pure K) = none then aput G.pure K (PLed.at G.pure K ++ [⟨[], [], false, r, nextVer (PLed.at G.pure K)⟩]) else G.pure) := Lib.hid (by rw [HBP.out]; simp)
    go_wp2_with fail
    refine (on_calls HI2.out o f HOF.out.1 HOF.out.2).mono ?_
    rintro e w3 ⟨hon, hw3⟩
    obtain rfl : w2 = w3 := hw3.symm
    clear hw3
    rw [HKE.out] at hon
    rcases hon with ⟨rfl, hgone⟩ | ⟨g, n, c, xs, x, hk, hn, hx, hxg, rfl⟩
    · have HON : Hid (lifeOn (PLed.at G.pure K) = none) := Lib.hid (by
        rw [pure_at_k]
        unfold lifeOn
        rw [List.getLast?_map]
        cases hgl : (G.lives K).getLast? with
        | none => rfl
        | some x => show (if x.gone = true then none else some x.life) = none; rw [hgone x hgl]; rfl)
      have HBR : Hid (beginP G.pure o f = aput G.pure K (PLed.at G.pure K ++ [⟨[], [], false, r, nextVer (PLed.at G.pure K)⟩])) := Lib.hid (by rw [HBQ.out, if_pos HON.out])
      clear hgone
      obtain ⟨q0, q1, q2, q3, q4⟩ := row5 HR2.out
      go_wp2_with (with_reducible refine wp_stop_store (o := ⟨none, .store _ (.tmp 9) _, _, _, _, _⟩) _ _ _ rfl ?_)
      unfold Stop
      refine wp_store_all rfl _ _ _ rfl rfl rfl _ _ ((get_alloc _ _ _).trans (if_pos rfl)) info_has9 rfl (by simp [Value.oneCell']) ?_
      intro w3 h3 k3 s3
      obtain ⟨Zx, hZx⟩ : ∃ Z, w2.heap.size = Z := ⟨_, rfl⟩
      have hb23 : Below w2.heap.size w2 w3 := below_keep ((Below.refl w2.heap.size w2).alloc (Nat.le_refl _) _) k3
      have HB3 := Lib.hid (HB2.out.trans (hb23.mono HB2.out.size))
      have HI3 := Lib.hid (HH.out.below HB3.out)
      have HZL : Hid (w.heap.size ≤ Zx) := Lib.hid (by rw [← hZx]; exact HB2.out.size)
      rw [hZx] at h3 ⊢
      have HR3 := Lib.hid h3
      have hlk := HI3.out.looks K
      obtain ⟨A, c, hrv, hrow⟩ := HI3.out.slice K
      obtain ⟨xs, hxs⟩ : ∃ xs, G.lives K = xs := ⟨_, rfl⟩
      have HXS := Lib.hid hxs
      rw [hxs] at hrv hrow HLL
      rw [hrv] at hlk
      obtain ⟨n, hn⟩ : ∃ n, xs.length = n := ⟨_, rfl⟩
      have HN := Lib.hid hn
      rw [hn] at hrv hrow hlk HLL
      have HRV := Lib.hid hrv
      have HROW := Lib.hid hrow
      have hnb := HLL.out
      have c3 := HI3.out.cells.2.2.2
      clear h3 k3 s3 hb23 hZx q0 q1 q2 q3 q4 hrv hrow hxs hn
      by_cases hn0 : n = 0
      · have HB4 := HB3
        have HR4 := HR3
        subst hn0
        go_wp2_with fail
        have HBD : Hid (Below w.heap.size w w3.drew) := Lib.hid (HB4.out.drew)
        have hS : (fun U9 : World => U9.cell? ⟨G.b, 3, none⟩ = some (.map (some G.bm)) ∧ U9.cell? ⟨Zx, 0, none⟩ = some (.slice none 0 0) ∧ U9.cell? ⟨Zx, 1, none⟩ = some (.slice none 0 0) ∧ U9.cell? ⟨Zx, 2, none⟩ = some (.bool false) ∧ U9.cell? ⟨Zx, 3, none⟩ = some (.string r.owner) ∧ U9.cell? ⟨Zx, 4, none⟩ = some (.string r.file) ∧ U9.cell? ⟨Zx, 5, none⟩ = some (.int .i64 0) ∧ U9.cell? ⟨Zx, 6, none⟩ = some (.slice none 0 0) ∧ U9.cell? ⟨Zx, 7, none⟩ = some (.slice none 0 0) ∧ U9.cell? ⟨Zx, 8, none⟩ = some (.int .u64 1) ∧ (Instr.lookup 52 (.map (some G.bm)) (.string K) false).run Tryd.prog U9 = .ok (.slice A 0 c) U9) w3.drew := by
          obtain ⟨b0, b1, b2, b3, b4, b5, b6, b7, b8⟩ := row9h HR4.out
          exact ⟨(HH.out.below HB4.out).cells.2.2.2, b0, b1, b2, b3, b4, b5, b6, b7, b8, by rw [← HRV.out]; exact (HH.out.below HB4.out.drew).looks K⟩
        refine wp_region_G (fun U9 : World => U9.cell? ⟨G.b, 3, none⟩ = some (.map (some G.bm)) ∧ U9.cell? ⟨Zx, 0, none⟩ = some (.slice none 0 0) ∧ U9.cell? ⟨Zx, 1, none⟩ = some (.slice none 0 0) ∧ U9.cell? ⟨Zx, 2, none⟩ = some (.bool false) ∧ U9.cell? ⟨Zx, 3, none⟩ = some (.string r.owner) ∧ U9.cell? ⟨Zx, 4, none⟩ = some (.string r.file) ∧ U9.cell? ⟨Zx, 5, none⟩ = some (.int .i64 0) ∧ U9.cell? ⟨Zx, 6, none⟩ = some (.slice none 0 0) ∧ U9.cell? ⟨Zx, 7, none⟩ = some (.slice none 0 0) ∧ U9.cell? ⟨Zx, 8, none⟩ = some (.int .u64 1) ∧ (Instr.lookup 52 (.map (some G.bm)) (.string K) false).run Tryd.prog U9 = .ok (.slice A 0 c) U9) [14] (by kernel_rfl) ?_
        obtain ⟨wd, hwd⟩ : ∃ y, w3.drew = y := ⟨_, rfl⟩
        rw [hwd] at HBD hS ⊢
        clear hwd
        have HID := Lib.hid (HH.out.below HBD.out)
        obtain ⟨A9, c9, w5, hrun, ho5, hk5, hl5⟩ := append_life (x := ⟨[], [], false, r, 1, .slice none 0 0, .slice none 0 0, .slice none 0 0, .slice none 0 0⟩) (by have := (HID.out.slice K).choose_spec.choose_spec.2; have e2 := (HID.out.slice K).choose_spec.choose_spec.1; rw [← e2, HRV.out, HXS.out] at this; exact this) rfl rfl rfl rfl (by rw [HN.out]; omega)
        dsimp only at hrun
        rw [HNR.out.2.2, HN.out] at hrun
        rw [HN.out] at ho5 hl5
        have hS5 : w5.cell? ⟨G.b, 3, none⟩ = some (.map (some G.bm)) ∧ w5.cell? ⟨Zx, 0, none⟩ = some (.slice none 0 0) ∧ w5.cell? ⟨Zx, 1, none⟩ = some (.slice none 0 0) ∧ w5.cell? ⟨Zx, 2, none⟩ = some (.bool false) ∧ w5.cell? ⟨Zx, 3, none⟩ = some (.string r.owner) ∧ w5.cell? ⟨Zx, 4, none⟩ = some (.string r.file) ∧ w5.cell? ⟨Zx, 5, none⟩ = some (.int .i64 0) ∧ w5.cell? ⟨Zx, 6, none⟩ = some (.slice none 0 0) ∧ w5.cell? ⟨Zx, 7, none⟩ = some (.slice none 0 0) ∧ w5.cell? ⟨Zx, 8, none⟩ = some (.int .u64 1) ∧ (Instr.lookup 52 (.map (some G.bm)) (.string K) false).run Tryd.prog w5 = .ok (.slice A 0 c) w5 := by
          have n1 : ¬ (Value.slice A 0 c).ownBlock = some G.b := fun e => by
            have := (HID.out.vrole (k := K) (by rw [HRV.out]; exact e)).1
            rw [HH.out.rb] at this; cases this
          have n2 : ¬ (Value.slice A 0 c).ownBlock = some Zx := fun e => by
            have := HH.out.low Zx (by rw [(HID.out.vrole (k := K) (by rw [HRV.out]; exact e)).1]; simp)
            have := HZL.out
            omega
          exact ⟨hk5.cell hS.1 n1, hk5.cell hS.2.1 n2, hk5.cell hS.2.2.1 n2, hk5.cell hS.2.2.2.1 n2, hk5.cell hS.2.2.2.2.1 n2, hk5.cell hS.2.2.2.2.2.1 n2, hk5.cell hS.2.2.2.2.2.2.1 n2, hk5.cell hS.2.2.2.2.2.2.2.1 n2, hk5.cell hS.2.2.2.2.2.2.2.2.1 n2, hk5.cell hS.2.2.2.2.2.2.2.2.2.1 n2, by
            rw [← HRV.out]
            refine look_vals (hk5.smap HID.out.map fun e => ?_) K
            have := (HID.out.vrole (k := K) (by rw [HRV.out]; exact e)).1
            rw [HH.out.rmp] at this; cases this⟩
        have hSa : ∀ ob, ((wd.alloc ob).cell? ⟨G.b, 3, none⟩ = some (.map (some G.bm)) ∧ (wd.alloc ob).cell? ⟨Zx, 0, none⟩ = some (.slice none 0 0) ∧ (wd.alloc ob).cell? ⟨Zx, 1, none⟩ = some (.slice none 0 0) ∧ (wd.alloc ob).cell? ⟨Zx, 2, none⟩ = some (.bool false) ∧ (wd.alloc ob).cell? ⟨Zx, 3, none⟩ = some (.string r.owner) ∧ (wd.alloc ob).cell? ⟨Zx, 4, none⟩ = some (.string r.file) ∧ (wd.alloc ob).cell? ⟨Zx, 5, none⟩ = some (.int .i64 0) ∧ (wd.alloc ob).cell? ⟨Zx, 6, none⟩ = some (.slice none 0 0) ∧ (wd.alloc ob).cell? ⟨Zx, 7, none⟩ = some (.slice none 0 0) ∧ (wd.alloc ob).cell? ⟨Zx, 8, none⟩ = some (.int .u64 1) ∧ (Instr.lookup 52 (.map (some G.bm)) (.string K) false).run Tryd.prog (wd.alloc ob) = .ok (.slice A 0 c) (wd.alloc ob)) := fun ob => by
          have KK := Keep.alloc (fun _ => False) wd ob
          exact ⟨KK.cell hS.1 fun e => e, KK.cell hS.2.1 fun e => e, KK.cell hS.2.2.1 fun e => e, KK.cell hS.2.2.2.1 fun e => e, KK.cell hS.2.2.2.2.1 fun e => e, KK.cell hS.2.2.2.2.2.1 fun e => e, KK.cell hS.2.2.2.2.2.2.1 fun e => e, KK.cell hS.2.2.2.2.2.2.2.1 fun e => e, KK.cell hS.2.2.2.2.2.2.2.2.1 fun e => e, KK.cell hS.2.2.2.2.2.2.2.2.2.1 fun e => e, by rw [← HRV.out]; exact look_vals (KK.smap HID.out.map fun e => e) K⟩
        have hsm5 : smap w5 Value.string G.bm (valsOf G.rows) := hk5.smap HID.out.map (fun e => by
          have := (HID.out.vrole (k := K) (by rw [HRV.out]; exact e)).1
          rw [HH.out.rmp] at this; cases this)
        have hfinal : ∀ w6, smap w6 Value.string G.bm (aput (valsOf G.rows) K (.slice A9 (0 + 1) c9)) → Keep (fun q => q = G.bm) w5 w6 → LedRet w role G G.now G.cor (beginP G.pure o f) w6 := fun w6 hm6 hk6 => by
          obtain ⟨role', hI, hKK, hold⟩ := HID.out.grow (w1 := w5) (w2 := w6) K ⟨[], [], false, r, 1, .slice none 0 0, .slice none 0 0, .slice none 0 0, .slice none 0 0⟩ (u := .slice A9 (0 + 1) c9) rfl rfl rfl rfl HNR.out.1 HNR.out.2.1 (by
            refine ⟨?_, ?_⟩
            · show strs w5 (.slice none 0 0) r.rd
              rw [HNR.out.1]; exact strs_nil _
            · show strs w5 (.slice none 0 0) r.wr
              rw [HNR.out.2.1]; exact strs_nil _) (by rw [HXS.out]; exact ho5) (by rw [HRV.out]; exact hk5) (by
              rw [HRV.out]
              rcases hl5 with e | e
              · exact Or.inl e
              · right
                intro g hg
                rw [e] at hg
                have : wd.heap.size + 1 = g := Option.some.inj hg
                omega) hm6 hk6
          refine ⟨role', _, hI, rfl, rfl, rfl, rfl, ?_, (Keep.of_below HBD.out).trans hKK (fun q hq => by
              by_cases hql : q < w.heap.size
              · exact Or.inl hq
              · exact Or.inr (by omega)), fun q hq => hold q (Nat.lt_of_lt_of_le hq HBD.out.size)⟩
          rw [begin_pure, HBR.out]
          congr 1
          congr 1
          show [(⟨[], [], false, r, 1⟩ : Life)] = _
          have hx0 : xs = [] := List.eq_nil_of_length_eq_zero HN.out
          rw [pure_at_k, HXS.out, hx0]; rfl
        have HSA := Lib.hid hSa
        have HFI := Lib.hid hfinal
        have HSM5 := Lib.hid hsm5
        clear hSa hfinal hsm5 ho5 hk5 hl5
        refine wpAnyG_pure (i := 0) (v := ?vtw30) at0 (by kernel_rfl) (fun _ _ _ h => h) (Or.inl ⟨by rfl, ?htw30⟩) (Or.inr (by assumption)) ?rtw30
        case htw30 => (intro w hSw; (try dsimp only at hSw); go_simp; try with_reducible rfl)
        case' rtw30 => skip
        try simp only [Act.put, List.setIfInBounds_toArray, List.set_cons_zero, List.set_cons_succ]
        refine wpAnyG_pure (i := 1) (v := ?vtw31) at1 (by kernel_rfl) (fun _ _ _ h => h) (Or.inl ⟨by rfl, ?htw31⟩) (Or.inr (by assumption)) ?rtw31
        case htw31 => (intro w hSw; (try dsimp only at hSw); go_simp; try with_reducible rfl)
        case' rtw31 => skip
        try simp only [Act.put, List.setIfInBounds_toArray, List.set_cons_zero, List.set_cons_succ]
        refine wpAnyG_pure (i := 2) (v := ?vtw32) at2 (by kernel_rfl) (fun _ _ _ h => h) (Or.inl ⟨by rfl, ?htw32⟩) (Or.inr (by assumption)) ?rtw32
        case htw32 => (intro w hSw; (try dsimp only at hSw); go_simp; try with_reducible rfl)
        case' rtw32 => skip
        try simp only [Act.put, List.setIfInBounds_toArray, List.set_cons_zero, List.set_cons_succ]
        refine wpAnyG_take (ws := [3,8,10,11]) (i := 3) (v := ?vtw33) at3 (by kernel_rfl) (fun _ _ _ h => h) (Or.inl ⟨by rfl, ?htw33⟩) (by assumption) ?rtw33
        case htw33 => (intro w hSw; (try dsimp only at hSw); go_simp; try with_reducible rfl)
        case' rtw33 => skip
        try simp only [Act.put, List.setIfInBounds_toArray, List.set_cons_zero, List.set_cons_succ]
        refine wpAnyG_pure (i := 4) (v := ?vtw34) at4 (by kernel_rfl) (fun _ _ _ h => h) (Or.inl ⟨by rfl, ?htw34⟩) (Or.inr (by assumption)) ?rtw34
        case htw34 => (intro w hSw; (try dsimp only at hSw); go_simp; try with_reducible rfl)
        case' rtw34 => skip
        try simp only [Act.put, List.setIfInBounds_toArray, List.set_cons_zero, List.set_cons_succ]
        refine wpAnyG_pure (i := 5) (v := ?vtw35) at5 (by kernel_rfl) (fun _ _ _ h => h) (Or.inl ⟨by rfl, ?htw35⟩) (Or.inr (by assumption)) ?rtw35
        case htw35 => (intro w hSw; (try dsimp only at hSw); go_simp; try with_reducible rfl)
        case' rtw35 => skip
        try simp only [Act.put, List.setIfInBounds_toArray, List.set_cons_zero, List.set_cons_succ]
        refine wpAnyG_pure (i := 6) (v := ?vtw36) at6 (by kernel_rfl) (fun _ _ _ h => h) (Or.inl ⟨by rfl, ?htw36⟩) (Or.inr (by assumption)) ?rtw36
        case htw36 => (intro w hSw; (try dsimp only at hSw); go_simp; try with_reducible rfl)
        case' rtw36 => skip
        try simp only [Act.put, List.setIfInBounds_toArray, List.set_cons_zero, List.set_cons_succ]
        refine wpAnyG_pure (i := 7) (v := ?vtw37) at7 (by kernel_rfl) (fun _ _ _ h => h) (Or.inl ⟨by rfl, ?htw37⟩) (Or.inr (by assumption)) ?rtw37
        case htw37 => (intro w hSw; (try dsimp only at hSw); go_simp; try with_reducible rfl)
        case' rtw37 => skip
        try simp only [Act.put, List.setIfInBounds_toArray, List.set_cons_zero, List.set_cons_succ]
        refine wpAnyG_take (ws := [3,8,10,11]) (i := 8) (v := ?vtw38) at8 (by kernel_rfl) (fun _ _ _ h => h) (Or.inl ⟨by rfl, ?htw38⟩) (by assumption) ?rtw38
        case htw38 => (intro w hSw; (try dsimp only at hSw); go_simp; try with_reducible rfl)
        case' rtw38 => skip
        try simp only [Act.put, List.setIfInBounds_toArray, List.set_cons_zero, List.set_cons_succ]
        refine wpAnyG_pure (i := 9) (v := ?vtw39) at9 (by kernel_rfl) (fun _ _ _ h => h) (Or.inl ⟨by rfl, ?htw39⟩) (Or.inr (by assumption)) ?rtw39
        case htw39 => (intro w hSw; (try dsimp only at hSw); go_simp; try with_reducible rfl)
        case' rtw39 => skip
        try simp only [Act.put, List.setIfInBounds_toArray, List.set_cons_zero, List.set_cons_succ]
        refine wpAnyG_take (ws := [3,8,10,11]) (i := 10) (v := ?vtw310) at10 (by kernel_rfl) (fun _ _ _ h => h) (Or.inl ⟨by rfl, ?htw310⟩) (by assumption) ?rtw310
        case htw310 => (intro w hSw; (try dsimp only at hSw); go_simp; try with_reducible rfl)
        case' rtw310 => skip
        try simp only [Act.put, List.setIfInBounds_toArray, List.set_cons_zero, List.set_cons_succ]
        refine wpAnyG_take (ws := [3,8,10,11]) (i := 11) (v := ?vtw311) at11 (by kernel_rfl) (fun _ _ _ h => h) (Or.inl ⟨by rfl, ?htw311⟩) (by assumption) ?rtw311
        case htw311 => (intro w hSw; (try dsimp only at hSw); go_simp; try with_reducible rfl)
        case' rtw311 => skip
        try simp only [Act.put, List.setIfInBounds_toArray, List.set_cons_zero, List.set_cons_succ]
        refine wpAnyG_one 12 at12 (by kernel_rfl) (fun Kn hK => ?_)
        go_simp
        refine hK.out _ _ (Or.inr (HSA.out _)) ?_
        clear hK Kn hS
        try simp only [Act.put, List.setIfInBounds_toArray, List.set_cons_zero, List.set_cons_succ]
        refine wpAnyG_one 13 at13 (by kernel_rfl) (fun Kn hK => ?_)
        refine step_append_run rfl _ _ _ rfl rfl rfl hrun ?_
        refine hK.out _ _ (Or.inr hS5) ?_
        clear hK Kn hrun
        try simp only [Act.put, List.setIfInBounds_toArray, List.set_cons_zero, List.set_cons_succ]
        refine wpAnyG_one 14 at14 (by kernel_rfl) (fun Kn hK => ?_)
        refine step_upd rfl _ _ _ _ rfl lawS 66 Tryd.underlying52 G.bm _ rfl HSM5.out K rfl _ rfl ?_
        intro w6 hm6 hg6 hs6
        refine hK.out _ _ (Or.inl (by kernel_rfl)) ?_
        have HEND := Lib.hid (HFI.out w6 hm6 (Keep.of_grown hg6 fun q hq => by cases hq; rfl))
        clear hK Kn hS5 hm6 hg6 hs6
        refine wpAnyG_done (by kernel_rfl) ?_
        try simp only [Act.put, List.setIfInBounds_toArray, List.set_cons_zero, List.set_cons_succ]
        go_wp2_with fail
        go_returns
        exact ⟨rfl, HEND.out⟩
      · obtain ⟨m, rfl⟩ : ∃ m, n = m + 1 := ⟨n - 1, by omega⟩
        obtain ⟨x, hx⟩ : ∃ x, xs[m]? = some x := ⟨_, List.getElem?_eq_getElem (by rw [HN.out]; omega)⟩
        obtain ⟨g, c', hv', _, hcell⟩ := own_block HROW.out (by omega)
        obtain ⟨rfl, rfl⟩ : A = some ⟨g, 0, none⟩ ∧ c = c' := by cases hv'; exact ⟨rfl, rfl⟩
        have k8 : w3.cell? ⟨g, m * 9 + 8, none⟩ = some (.int .u64 x.ver) := (hcell (m * 9 + 8) _ (by rw [flat_get lifeV_len hx (by omega)]; rfl)).1
        obtain ⟨b0, b1, b2, b3, b4, b5, b6, b7, b8⟩ := row9h HR3.out
        have hf8 := frozen_of_row HR3.out 8
        have hwm : wrap64 (m : Int) = (m : Int) := by simp (disch := omega) only [IntWalk.wrap64_in]
        have hwi : IntKind.i64.wrap (m : Int) = (m : Int) := by rw [IntKind.wrap_i64]; omega
        obtain ⟨V, hV⟩ : ∃ V, IntKind.u64.wrap (x.ver + 1) = V := ⟨_, rfl⟩
        obtain ⟨w4, hw4⟩ : ∃ y, w3.setCell ⟨Zx, 8, none⟩ (.int .u64 V) = y := ⟨_, rfl⟩
        have hk4 : Keep (fun q => q = Zx) w3 w4 := by rw [← hw4]; exact Keep.setCell (fun q => q = Zx) w3 (p := ⟨Zx, 8, none⟩) rfl _
        have HR4 : Hid (w4.heap[Zx]? = some (.cells #[.slice none 0 0, .slice none 0 0, .bool false, .string r.owner, .string r.file, .int .i64 0, .slice none 0 0, .slice none 0 0, .int .u64 V] 59 (0, 0))) := Lib.hid (by rw [← hw4, set_at HR3.out]; rfl)
        have HB4 : Hid (Below w.heap.size w w4) := Lib.hid (((Keep.of_below HB3.out (F := fun i => w.heap.size ≤ i)).same (hk4.mono fun i e => by have := HZL.out; have e2 : i = Zx := e; omega)).new)
        have HX := Lib.hid hx
        have HV := Lib.hid hV
        clear hx hv' hcell hk4
        go_wp2_with fail
        clear b0 b1 b2 b3 b4 b5 b6 b7 b8 hf8 k8 hwm hwi hw4
        have HBD : Hid (Below w.heap.size w w4.drew) := Lib.hid (HB4.out.drew)
        have hS : (fun U9 : World => U9.cell? ⟨G.b, 3, none⟩ = some (.map (some G.bm)) ∧ U9.cell? ⟨Zx, 0, none⟩ = some (.slice none 0 0) ∧ U9.cell? ⟨Zx, 1, none⟩ = some (.slice none 0 0) ∧ U9.cell? ⟨Zx, 2, none⟩ = some (.bool false) ∧ U9.cell? ⟨Zx, 3, none⟩ = some (.string r.owner) ∧ U9.cell? ⟨Zx, 4, none⟩ = some (.string r.file) ∧ U9.cell? ⟨Zx, 5, none⟩ = some (.int .i64 0) ∧ U9.cell? ⟨Zx, 6, none⟩ = some (.slice none 0 0) ∧ U9.cell? ⟨Zx, 7, none⟩ = some (.slice none 0 0) ∧ U9.cell? ⟨Zx, 8, none⟩ = some (.int .u64 V) ∧ (Instr.lookup 52 (.map (some G.bm)) (.string K) false).run Tryd.prog U9 = .ok (.slice (some ⟨g, 0, none⟩) (m + 1) c) U9) w4.drew := by
          obtain ⟨b0, b1, b2, b3, b4, b5, b6, b7, b8⟩ := row9h HR4.out
          exact ⟨(HH.out.below HB4.out).cells.2.2.2, b0, b1, b2, b3, b4, b5, b6, b7, b8, by rw [← HRV.out]; exact (HH.out.below HB4.out.drew).looks K⟩
        refine wp_region_G (fun U9 : World => U9.cell? ⟨G.b, 3, none⟩ = some (.map (some G.bm)) ∧ U9.cell? ⟨Zx, 0, none⟩ = some (.slice none 0 0) ∧ U9.cell? ⟨Zx, 1, none⟩ = some (.slice none 0 0) ∧ U9.cell? ⟨Zx, 2, none⟩ = some (.bool false) ∧ U9.cell? ⟨Zx, 3, none⟩ = some (.string r.owner) ∧ U9.cell? ⟨Zx, 4, none⟩ = some (.string r.file) ∧ U9.cell? ⟨Zx, 5, none⟩ = some (.int .i64 0) ∧ U9.cell? ⟨Zx, 6, none⟩ = some (.slice none 0 0) ∧ U9.cell? ⟨Zx, 7, none⟩ = some (.slice none 0 0) ∧ U9.cell? ⟨Zx, 8, none⟩ = some (.int .u64 V) ∧ (Instr.lookup 52 (.map (some G.bm)) (.string K) false).run Tryd.prog U9 = .ok (.slice (some ⟨g, 0, none⟩) (m + 1) c) U9) [14] (by kernel_rfl) ?_
        obtain ⟨wd, hwd⟩ : ∃ y, w4.drew = y := ⟨_, rfl⟩
        rw [hwd] at HBD hS ⊢
        clear hwd
        have HID := Lib.hid (HH.out.below HBD.out)
        obtain ⟨A9, c9, w5, hrun, ho5, hk5, hl5⟩ := append_life (x := ⟨[], [], false, r, V, .slice none 0 0, .slice none 0 0, .slice none 0 0, .slice none 0 0⟩) (by have := (HID.out.slice K).choose_spec.choose_spec.2; have e2 := (HID.out.slice K).choose_spec.choose_spec.1; rw [← e2, HRV.out, HXS.out] at this; exact this) rfl rfl rfl rfl (by rw [HN.out]; omega)
        dsimp only at hrun
        rw [HNR.out.2.2, HN.out] at hrun
        rw [HN.out] at ho5 hl5
        have hS5 : w5.cell? ⟨G.b, 3, none⟩ = some (.map (some G.bm)) ∧ w5.cell? ⟨Zx, 0, none⟩ = some (.slice none 0 0) ∧ w5.cell? ⟨Zx, 1, none⟩ = some (.slice none 0 0) ∧ w5.cell? ⟨Zx, 2, none⟩ = some (.bool false) ∧ w5.cell? ⟨Zx, 3, none⟩ = some (.string r.owner) ∧ w5.cell? ⟨Zx, 4, none⟩ = some (.string r.file) ∧ w5.cell? ⟨Zx, 5, none⟩ = some (.int .i64 0) ∧ w5.cell? ⟨Zx, 6, none⟩ = some (.slice none 0 0) ∧ w5.cell? ⟨Zx, 7, none⟩ = some (.slice none 0 0) ∧ w5.cell? ⟨Zx, 8, none⟩ = some (.int .u64 V) ∧ (Instr.lookup 52 (.map (some G.bm)) (.string K) false).run Tryd.prog w5 = .ok (.slice (some ⟨g, 0, none⟩) (m + 1) c) w5 := by
          have n1 : ¬ (Value.slice (some ⟨g, 0, none⟩) (m + 1) c).ownBlock = some G.b := fun e => by
            have := (HID.out.vrole (k := K) (by rw [HRV.out]; exact e)).1
            rw [HH.out.rb] at this; cases this
          have n2 : ¬ (Value.slice (some ⟨g, 0, none⟩) (m + 1) c).ownBlock = some Zx := fun e => by
            have := HH.out.low Zx (by rw [(HID.out.vrole (k := K) (by rw [HRV.out]; exact e)).1]; simp)
            have := HZL.out
            omega
          exact ⟨hk5.cell hS.1 n1, hk5.cell hS.2.1 n2, hk5.cell hS.2.2.1 n2, hk5.cell hS.2.2.2.1 n2, hk5.cell hS.2.2.2.2.1 n2, hk5.cell hS.2.2.2.2.2.1 n2, hk5.cell hS.2.2.2.2.2.2.1 n2, hk5.cell hS.2.2.2.2.2.2.2.1 n2, hk5.cell hS.2.2.2.2.2.2.2.2.1 n2, hk5.cell hS.2.2.2.2.2.2.2.2.2.1 n2, by
            rw [← HRV.out]
            refine look_vals (hk5.smap HID.out.map fun e => ?_) K
            have := (HID.out.vrole (k := K) (by rw [HRV.out]; exact e)).1
            rw [HH.out.rmp] at this; cases this⟩
        have hSa : ∀ ob, ((wd.alloc ob).cell? ⟨G.b, 3, none⟩ = some (.map (some G.bm)) ∧ (wd.alloc ob).cell? ⟨Zx, 0, none⟩ = some (.slice none 0 0) ∧ (wd.alloc ob).cell? ⟨Zx, 1, none⟩ = some (.slice none 0 0) ∧ (wd.alloc ob).cell? ⟨Zx, 2, none⟩ = some (.bool false) ∧ (wd.alloc ob).cell? ⟨Zx, 3, none⟩ = some (.string r.owner) ∧ (wd.alloc ob).cell? ⟨Zx, 4, none⟩ = some (.string r.file) ∧ (wd.alloc ob).cell? ⟨Zx, 5, none⟩ = some (.int .i64 0) ∧ (wd.alloc ob).cell? ⟨Zx, 6, none⟩ = some (.slice none 0 0) ∧ (wd.alloc ob).cell? ⟨Zx, 7, none⟩ = some (.slice none 0 0) ∧ (wd.alloc ob).cell? ⟨Zx, 8, none⟩ = some (.int .u64 V) ∧ (Instr.lookup 52 (.map (some G.bm)) (.string K) false).run Tryd.prog (wd.alloc ob) = .ok (.slice (some ⟨g, 0, none⟩) (m + 1) c) (wd.alloc ob)) := fun ob => by
          have KK := Keep.alloc (fun _ => False) wd ob
          exact ⟨KK.cell hS.1 fun e => e, KK.cell hS.2.1 fun e => e, KK.cell hS.2.2.1 fun e => e, KK.cell hS.2.2.2.1 fun e => e, KK.cell hS.2.2.2.2.1 fun e => e, KK.cell hS.2.2.2.2.2.1 fun e => e, KK.cell hS.2.2.2.2.2.2.1 fun e => e, KK.cell hS.2.2.2.2.2.2.2.1 fun e => e, KK.cell hS.2.2.2.2.2.2.2.2.1 fun e => e, KK.cell hS.2.2.2.2.2.2.2.2.2.1 fun e => e, by rw [← HRV.out]; exact look_vals (KK.smap HID.out.map fun e => e) K⟩
        have hsm5 : smap w5 Value.string G.bm (valsOf G.rows) := hk5.smap HID.out.map (fun e => by
          have := (HID.out.vrole (k := K) (by rw [HRV.out]; exact e)).1
          rw [HH.out.rmp] at this; cases this)
        have hfinal : ∀ w6, smap w6 Value.string G.bm (aput (valsOf G.rows) K (.slice A9 ((m + 1) + 1) c9)) → Keep (fun q => q = G.bm) w5 w6 → LedRet w role G G.now G.cor (beginP G.pure o f) w6 := fun w6 hm6 hk6 => by
          obtain ⟨role', hI, hKK, hold⟩ := HID.out.grow (w1 := w5) (w2 := w6) K ⟨[], [], false, r, V, .slice none 0 0, .slice none 0 0, .slice none 0 0, .slice none 0 0⟩ (u := .slice A9 ((m + 1) + 1) c9) rfl rfl rfl rfl HNR.out.1 HNR.out.2.1 (by
            refine ⟨?_, ?_⟩
            · show strs w5 (.slice none 0 0) r.rd
              rw [HNR.out.1]; exact strs_nil _
            · show strs w5 (.slice none 0 0) r.wr
              rw [HNR.out.2.1]; exact strs_nil _) (by rw [HXS.out]; exact ho5) (by rw [HRV.out]; exact hk5) (by
              rw [HRV.out]
              rcases hl5 with e | e
              · exact Or.inl e
              · right
                intro g hg
                rw [e] at hg
                have : wd.heap.size + 1 = g := Option.some.inj hg
                omega) hm6 hk6
          refine ⟨role', _, hI, rfl, rfl, rfl, rfl, ?_, (Keep.of_below HBD.out).trans hKK (fun q hq => by
              by_cases hql : q < w.heap.size
              · exact Or.inl hq
              · exact Or.inr (by omega)), fun q hq => hold q (Nat.lt_of_lt_of_le hq HBD.out.size)⟩
          rw [begin_pure, HBR.out]
          congr 1
          congr 1
          show [(⟨[], [], false, r, V⟩ : Life)] = _
          rw [pure_at_k, HXS.out]
          unfold nextVer
          rw [List.getLast?_map, List.getLast?_eq_getElem?, HN.out, Nat.add_sub_cancel, HX.out]
          show _ = [(⟨[], [], false, r, IntKind.u64.wrap (x.ver + 1)⟩ : Life)]
          rw [HV.out]
        have HSA := Lib.hid hSa
        have HFI := Lib.hid hfinal
        have HSM5 := Lib.hid hsm5
        clear hSa hfinal hsm5 ho5 hk5 hl5
        refine wpAnyG_pure (i := 0) (v := ?vtw40) at0 (by kernel_rfl) (fun _ _ _ h => h) (Or.inl ⟨by rfl, ?htw40⟩) (Or.inr (by assumption)) ?rtw40
        case htw40 => (intro w hSw; (try dsimp only at hSw); go_simp; try with_reducible rfl)
        case' rtw40 => skip
        try simp only [Act.put, List.setIfInBounds_toArray, List.set_cons_zero, List.set_cons_succ]
        refine wpAnyG_pure (i := 1) (v := ?vtw41) at1 (by kernel_rfl) (fun _ _ _ h => h) (Or.inl ⟨by rfl, ?htw41⟩) (Or.inr (by assumption)) ?rtw41
        case htw41 => (intro w hSw; (try dsimp only at hSw); go_simp; try with_reducible rfl)
        case' rtw41 => skip
        try simp only [Act.put, List.setIfInBounds_toArray, List.set_cons_zero, List.set_cons_succ]
        refine wpAnyG_pure (i := 2) (v := ?vtw42) at2 (by kernel_rfl) (fun _ _ _ h => h) (Or.inl ⟨by rfl, ?htw42⟩) (Or.inr (by assumption)) ?rtw42
        case htw42 => (intro w hSw; (try dsimp only at hSw); go_simp; try with_reducible rfl)
        case' rtw42 => skip
        try simp only [Act.put, List.setIfInBounds_toArray, List.set_cons_zero, List.set_cons_succ]
        refine wpAnyG_take (ws := [3,8,10,11]) (i := 3) (v := ?vtw43) at3 (by kernel_rfl) (fun _ _ _ h => h) (Or.inl ⟨by rfl, ?htw43⟩) (by assumption) ?rtw43
        case htw43 => (intro w hSw; (try dsimp only at hSw); go_simp; try with_reducible rfl)
        case' rtw43 => skip
        try simp only [Act.put, List.setIfInBounds_toArray, List.set_cons_zero, List.set_cons_succ]
        refine wpAnyG_pure (i := 4) (v := ?vtw44) at4 (by kernel_rfl) (fun _ _ _ h => h) (Or.inl ⟨by rfl, ?htw44⟩) (Or.inr (by assumption)) ?rtw44
        case htw44 => (intro w hSw; (try dsimp only at hSw); go_simp; try with_reducible rfl)
        case' rtw44 => skip
        try simp only [Act.put, List.setIfInBounds_toArray, List.set_cons_zero, List.set_cons_succ]
        refine wpAnyG_pure (i := 5) (v := ?vtw45) at5 (by kernel_rfl) (fun _ _ _ h => h) (Or.inl ⟨by rfl, ?htw45⟩) (Or.inr (by assumption)) ?rtw45
        case htw45 => (intro w hSw; (try dsimp only at hSw); go_simp; try with_reducible rfl)
        case' rtw45 => skip
        try simp only [Act.put, List.setIfInBounds_toArray, List.set_cons_zero, List.set_cons_succ]
        refine wpAnyG_pure (i := 6) (v := ?vtw46) at6 (by kernel_rfl) (fun _ _ _ h => h) (Or.inl ⟨by rfl, ?htw46⟩) (Or.inr (by assumption)) ?rtw46
        case htw46 => (intro w hSw; (try dsimp only at hSw); go_simp; try with_reducible rfl)
        case' rtw46 => skip
        try simp only [Act.put, List.setIfInBounds_toArray, List.set_cons_zero, List.set_cons_succ]
        refine wpAnyG_pure (i := 7) (v := ?vtw47) at7 (by kernel_rfl) (fun _ _ _ h => h) (Or.inl ⟨by rfl, ?htw47⟩) (Or.inr (by assumption)) ?rtw47
        case htw47 => (intro w hSw; (try dsimp only at hSw); go_simp; try with_reducible rfl)
        case' rtw47 => skip
        try simp only [Act.put, List.setIfInBounds_toArray, List.set_cons_zero, List.set_cons_succ]
        refine wpAnyG_take (ws := [3,8,10,11]) (i := 8) (v := ?vtw48) at8 (by kernel_rfl) (fun _ _ _ h => h) (Or.inl ⟨by rfl, ?htw48⟩) (by assumption) ?rtw48
        case htw48 => (intro w hSw; (try dsimp only at hSw); go_simp; try with_reducible rfl)
        case' rtw48 => skip
        try simp only [Act.put, List.setIfInBounds_toArray, List.set_cons_zero, List.set_cons_succ]
        refine wpAnyG_pure (i := 9) (v := ?vtw49) at9 (by kernel_rfl) (fun _ _ _ h => h) (Or.inl ⟨by rfl, ?htw49⟩) (Or.inr (by assumption)) ?rtw49
        case htw49 => (intro w hSw; (try dsimp only at hSw); go_simp; try with_reducible rfl)
        case' rtw49 => skip
        try simp only [Act.put, List.setIfInBounds_toArray, List.set_cons_zero, List.set_cons_succ]
        refine wpAnyG_take (ws := [3,8,10,11]) (i := 10) (v := ?vtw410) at10 (by kernel_rfl) (fun _ _ _ h => h) (Or.inl ⟨by rfl, ?htw410⟩) (by assumption) ?rtw410
        case htw410 => (intro w hSw; (try dsimp only at hSw); go_simp; try with_reducible rfl)
        case' rtw410 => skip
        try simp only [Act.put, List.setIfInBounds_toArray, List.set_cons_zero, List.set_cons_succ]
        refine wpAnyG_take (ws := [3,8,10,11]) (i := 11) (v := ?vtw411) at11 (by kernel_rfl) (fun _ _ _ h => h) (Or.inl ⟨by rfl, ?htw411⟩) (by assumption) ?rtw411
        case htw411 => (intro w hSw; (try dsimp only at hSw); go_simp; try with_reducible rfl)
        case' rtw411 => skip
        try simp only [Act.put, List.setIfInBounds_toArray, List.set_cons_zero, List.set_cons_succ]
        refine wpAnyG_one 12 at12 (by kernel_rfl) (fun Kn hK => ?_)
        go_simp
        refine hK.out _ _ (Or.inr (HSA.out _)) ?_
        clear hK Kn hS
        try simp only [Act.put, List.setIfInBounds_toArray, List.set_cons_zero, List.set_cons_succ]
        refine wpAnyG_one 13 at13 (by kernel_rfl) (fun Kn hK => ?_)
        refine step_append_run rfl _ _ _ rfl rfl rfl hrun ?_
        refine hK.out _ _ (Or.inr hS5) ?_
        clear hK Kn hrun
        try simp only [Act.put, List.setIfInBounds_toArray, List.set_cons_zero, List.set_cons_succ]
        refine wpAnyG_one 14 at14 (by kernel_rfl) (fun Kn hK => ?_)
        refine step_upd rfl _ _ _ _ rfl lawS 66 Tryd.underlying52 G.bm _ rfl HSM5.out K rfl _ rfl ?_
        intro w6 hm6 hg6 hs6
        refine hK.out _ _ (Or.inl (by kernel_rfl)) ?_
        have HEND := Lib.hid (HFI.out w6 hm6 (Keep.of_grown hg6 fun q hq => by cases hq; rfl))
        clear hK Kn hS5 hm6 hg6 hs6
        refine wpAnyG_done (by kernel_rfl) ?_
        try simp only [Act.put, List.setIfInBounds_toArray, List.set_cons_zero, List.set_cons_succ]
        go_wp2_with fail
        go_returns
        exact ⟨rfl, HEND.out⟩
    · have HST : Hid (LedRet w role G G.now G.cor (beginP G.pure o f) w2) := Lib.hid (by
        rw [HBQ.out, if_neg]
        · exact LedRet.still HH.out HB2.out
        · intro e
          have hlv : G.lives K = xs := by unfold LedM.lives; rw [hk]; rfl
          rw [pure_at_k, hlv] at e
          unfold lifeOn at e
          rw [List.getLast?_map, List.getLast?_eq_getElem?, hn, Nat.add_sub_cancel, hx] at e
          have e2 : (if x.gone = true then none else some x.life) = none := e
          rw [hxg] at e2
          simp at e2)
      clear hk hn hx hxg
      go_wp2_with fail
      go_returns
      exact ⟨rfl, HST.out⟩
  · have HST : Hid (LedRet w role G G.now G.cor (beginP G.pure o f) w2) := Lib.hid (by
      rw [HBP.out, if_neg (fun e => by simp at e)]
      exact LedRet.still HH.out HB2.out)
    go_wp2_with fail
    go_returns
    exact ⟨rfl, HST.out⟩
end Go.Proofs.YtgacfkenndhcnaaDoor
