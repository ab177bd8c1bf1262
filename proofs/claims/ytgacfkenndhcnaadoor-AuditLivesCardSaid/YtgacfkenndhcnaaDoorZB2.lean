/- slices.DeleteFunc of all that is one text, on a list of one's own. rights.Revoke. Rights stay right: plain law. -/
import Derived.Test.YtgacfkenndhcnaaDoorZA2
import Derived.Test.YtgacfkenndhcnaaDoorZA5
import Derived.Test.YtgacfkenndhcnaaDoorLayDl
import Derived.Shelf.SlicesE.DeleteFunc
import Derived.Lib.SliceRun
import Derived.Handy
import Derived.Test.YtgacfkenndhcnaaDoorZB1
namespace Go.Proofs.YtgacfkenndhcnaaDoor
open Go.RowKit Go.Lib Go.Shelf Go.Sort
set_option linter.unusedVariables false
set_option linter.unusedSimpArgs false

theorem is_gives (u x : ByteArray) (B : Nat) (W : World) (hc : W.cell? ⟨B, 0, none⟩ = some (.string u)) :
    FnGives Tryd.prog 47 #[.pointer (some ⟨B, 0, none⟩)] #[.string x] (.bool (decide (x = u))) W := by
  show Calls Tryd.prog 47 #[.string x, .pointer (some ⟨B, 0, none⟩)] W _
  by_cases h : x = u
  · have e1 : (x.toList == u.toList) = true := by rw [h]; simp
    have HD : Hid (decide (x = u) = true) := Lib.hid (decide_eq_true h)
    clear h
    go_enter Tryd.func47, Tryd.ntmps47
    go_wp2
    go_ret
    exact ⟨by rw [HD.out]; rfl, 0, rfl⟩
  · have e1 : (x.toList == u.toList) = false := by rw [beq_eq_false_iff_ne]; exact fun e => h (blist_inj e)
    have HD : Hid (decide (x = u) = false) := Lib.hid (decide_eq_false h)
    clear h
    go_enter Tryd.func47, Tryd.ntmps47
    go_wp2
    go_ret
    exact ⟨by rw [HD.out]; rfl, 0, rfl⟩

theorem indexf_nil (w : World) (f : Value) : Calls Tryd.prog 40 #[.slice none 0 0, f] w fun e w' => e = .returned (.int .i64 (-1)) ∧ w' = w := by
  go_enter Tryd.func40, Tryd.ntmps40
  go_wp2
  go_rounds 1
  go_ret
  exact ⟨rfl, rfl⟩
theorem deletef_nil (w : World) (f : Value) : Calls Tryd.prog 48 #[.slice none 0 0, f] w fun e w' => e = .returned (.slice none 0 0) ∧ w' = w := by
  go_enter Tryd.func48, Tryd.ntmps48
  go_wp2_with fail
  refine (indexf_nil w f).mono ?_
  rintro e w' ⟨rfl, rfl⟩
  go_wp2_with fail
  go_ret
  exact ⟨rfl, rfl⟩
theorem keep_putRow (w : World) (blk off : Nat) (d : Array ByteArray) : Keep (fun k => k = blk) w (putRow Value.string w blk off d) :=
  ⟨rfl, rfl, rfl, by simp [putRow, mapBlock], fun k _ hk => by simp [putRow, mapBlock, Array.getElem?_modify, Ne.symm hk]⟩

/-- without a text: where it lay -/
theorem delete_calls {w : World} {base : Nat} {v : Value} {l : List ByteArray} (ho : w.ownsRow base 9 1 v l.length (strV l)) (u : ByteArray) (B : Nat) (hB : B < w.heap.size) (hu : w.cell? ⟨B, 0, none⟩ = some (.string u)) (hne : v.ownBlock ≠ some B) (hl : l.length ≤ 1000) :
    Calls Tryd.prog 48 #[v, .func (.func 47) #[] #[.pointer (some ⟨B, 0, none⟩)]] w fun e w' => ∃ A c, e = .returned (.slice A (l.filter fun x => !decide (x = u)).length c) ∧ strs w' (.slice A (l.filter fun x => !decide (x = u)).length c) (l.filter fun x => !decide (x = u)) ∧ Keep (fun k => v.ownBlock = some k) w w' ∧ (Value.slice A (l.filter fun x => !decide (x = u)).length c).ownBlock = v.ownBlock := by
  rcases ho.2 with ⟨rfl, h0⟩ | ⟨g, cap, cur, rfl, hb, hg, hnc, hcm, hcs, htake⟩
  · have hln : l = [] := List.eq_nil_of_length_eq_zero h0
    subst hln
    refine (deletef_nil w _).mono ?_
    rintro e w' ⟨rfl, rfl⟩
    exact ⟨none, 0, rfl, strs_nil _, Keep.refl _ _, rfl⟩
  · have hcg : ∀ j u, (strV l)[j]? = some u → w.cell? ⟨g, j, none⟩ = some u := fun j u hu => by
      rw [cell_of_row w g _ _ _ _ hg, ← Array.getElem?_toList]
      rw [← htake, List.getElem?_take] at hu
      split at hu
      · exact hu
      · cases hu
    have hgB : B ≠ g := fun e => hne (by rw [e]; rfl)
    have hH : Holds Value.string w g 0 l.toArray := fun j hj => ⟨by
      rw [Nat.zero_add]
      have hj' : j < l.length := by simpa using hj
      refine hcg j _ ?_
      rw [strV_get, List.getElem?_eq_getElem hj', getElem!_pos l.toArray j hj]; rfl, frozen_of_row hg _⟩
    have eg : ∀ args w, (callFunc 47 args).run Tryd.prog w = .ok (.enter 47 args) w := enters_of Tryd.func47 (by kernel_rfl) rfl
    have hcon := AnyE.slices_DeleteFunc Tryd.laysDel Value.string (fun _ => rfl) (fun x => decide (x = u)) 47 #[.pointer (some ⟨B, 0, none⟩)] eg ByteArray.empty Tryd.zeroValue9 g 0 cap l.toArray w
      (fun W x hb => is_gives u x B W ((hb.cell (p := ⟨B, 0, none⟩) hB).trans hu))
      (fun n os dk x _ => is_gives u x B _ (by
        unfold sortWorld
        rw [cell?_grow _ _ _ (by show B < (putRow _ _ _ _ _).heap.size; rw [size_putRow]; exact hB), cell?_putRow_other _ _ g _ _ _ (Or.inl hgB)]
        exact hu)) hH (by simp; omega) (by simpa using hnc)
    refine hcon.mono ?_
    rintro e w' ⟨rfl, q, rfl⟩
    obtain ⟨F, hF⟩ : ∃ F, (l.filter fun x => !decide (x = u)) = F := ⟨_, rfl⟩
    have hFl : F.length ≤ l.length := by rw [← hF]; exact List.length_filter_le _ _
    rw [hF]
    refine ⟨_, cap, rfl, ⟨_, cap, rfl, by omega, by omega, fun _ => ⟨g, 0, rfl, fun i s hi => ?_⟩⟩, ?_, rfl⟩
    · have hi' := (List.getElem?_eq_some_iff.1 hi).1
      have hsz : (F ++ List.replicate (l.toArray.size - F.length) ByteArray.empty).toArray.size = l.toArray.size := by simp; omega
      have := (holds_putRow Value.string (Sort.ahead w q) g 0 l.toArray _ (holds_ahead _ w q g 0 l.toArray hH) hsz i (by rw [hsz]; simp; omega)).1
      rw [this]
      congr 1
      have h2 : (F ++ List.replicate (l.toArray.size - F.length) ByteArray.empty)[i]? = some s := by rw [List.getElem?_append_left hi']; exact hi
      rw [getElem!_pos _ i (by rw [hsz]; simp; omega)]
      congr 1
      have h3 := (List.getElem?_eq_some_iff.1 h2).2
      simpa using h3
    · refine Keep.same (w1 := Sort.ahead w q) ⟨rfl, rfl, rfl, Nat.le_refl _, fun _ _ _ => rfl⟩ ?_
      exact (keep_putRow _ g 0 _).mono fun k hk => by rw [hk]; rfl
end Go.Proofs.YtgacfkenndhcnaaDoor
namespace Go.Proofs.YtgacfkenndhcnaaDoor
open Go.RowKit Go.Sort
set_option linter.unusedVariables false
set_option linter.unusedSimpArgs false

def Rt.revoke (r : Rt) (u : ByteArray) : Rt × Int :=
  if r.asked u ≠ 0 then (Rt.none, r.asked u) else if r.other u = false then (Rt.none, 4) else if r.epoch = 7 then (Rt.none, 9)
  else (⟨r.owner, r.file, r.epoch + 1, r.rd.filter fun x => !decide (x = u), r.wr.filter fun x => !decide (x = u)⟩, 0)
theorem below_keep2 {w w1 w2 : World} (h : Below w.heap.size w w1) (k : Keep (fun k => k = w.heap.size + 1 + 1) w1 w2) : Below w.heap.size w w2 :=
  ((Keep.of_below h (F := fun k => w.heap.size ≤ k)).trans k fun i hi => Or.inr (by omega)).new
structure RkBox (w w' : World) (r : Rt) (u : ByteArray) (vr vw : Value) : Prop where
  at' : RtAt w w' w.heap.size r vr vw
  usr : w'.heap[w.heap.size + 1]? = some (.cells #[.string u] 9 (0, 0))
  zero : w'.heap[w.heap.size + 1 + 1]? = some (.cells #[.string ⟨#[]⟩, .string ⟨#[]⟩, .int .i64 0, .slice none 0 0, .slice none 0 0] 46 (0, 0))
theorem RkBox.next {w w' w2 : World} {r : Rt} {u : ByteArray} {vr vw : Value} (h : RkBox w w' r u vr vw) (k : Below w'.heap.size w' w2) : RkBox w w2 r u vr vw :=
  ⟨h.at'.next k, (Keep.of_below k (F := fun _ => False)).at h.usr fun e => e, (Keep.of_below k (F := fun _ => False)).at h.zero fun e => e⟩
theorem RkBox.ucell {w w' : World} {r : Rt} {u : ByteArray} {vr vw : Value} (h : RkBox w w' r u vr vw) : w'.cell? ⟨w.heap.size + 1, 0, none⟩ = some (.string u) := by rw [cell_of_row _ _ _ _ _ _ h.usr]; rfl
theorem rk_box {w : World} {r : Rt} {vr vw : Value} (u : ByteArray) (hl : Lists w r vr vw) (hT : Tabs w) : RkBox w (((w.alloc (.cells (rtCells r vr vw) 46)).alloc (.cells #[.string u] 9)).alloc (.cells #[.string ⟨#[]⟩, .string ⟨#[]⟩, .int .i64 0, .slice none 0 0, .slice none 0 0] 46)) r u vr vw :=
  ⟨((rt_box hl hT).next ((Below.refl _ _).alloc (Nat.le_refl _) _)).next ((Below.refl _ _).alloc (Nat.le_refl _) _), by rw [get_alloc, get_alloc, size_alloc, size_alloc]; simp, by rw [get_alloc, size_alloc, size_alloc]; simp⟩

/-- behind the region: both lists laid down -/
structure RkMid (w W : World) (r x : Rt) (va vb : Value) : Prop where
  row : W.heap[w.heap.size]? = some (.cells (rtCells ⟨r.owner, r.file, r.epoch, x.rd, x.wr⟩ va vb) 46 (0, 0))
  zero : W.heap[w.heap.size + 1 + 1]? = some (.cells #[.string ⟨#[]⟩, .string ⟨#[]⟩, .int .i64 0, .slice none 0 0, .slice none 0 0] 46 (0, 0))
  below : Below w.heap.size w W
  sa : strs W va x.rd
  sb : strs W vb x.wr
  na : ∀ g, va.ownBlock = some g → w.heap.size + 3 ≤ g
  nb : ∀ g, vb.ownBlock = some g → w.heap.size + 3 ≤ g
  ub : ∀ g, (va.ownBlock = some g ∨ vb.ownBlock = some g) → g < W.heap.size
theorem rk_mid {w W : World} {r x : Rt} {u : ByteArray} {vr vw va vb : Value} (X : RkBox w W r u vr vw) (sa : strs W va x.rd) (sb : strs W vb x.wr) (na : ∀ g, va.ownBlock = some g → w.heap.size + 3 ≤ g) (nb : ∀ g, vb.ownBlock = some g → w.heap.size + 3 ≤ g) (ub : ∀ g, (va.ownBlock = some g ∨ vb.ownBlock = some g) → g < W.heap.size) :
    RkMid w ((W.setCell ⟨w.heap.size, 3, none⟩ va).setCell ⟨w.heap.size, 4, none⟩ vb) r x va vb := by
  have k1 := Keep.setCell (fun k => k = w.heap.size) W (p := ⟨w.heap.size, 3, none⟩) rfl va
  have k2 := Keep.setCell (fun k => k = w.heap.size) (W.setCell ⟨w.heap.size, 3, none⟩ va) (p := ⟨w.heap.size, 4, none⟩) rfl vb
  have k := k1.same k2
  refine ⟨?_, k.at X.zero (by omega), below_keep X.at'.below k, sa.keep k fun b hb => ?_, sb.keep k fun b hb => ?_, na, nb, fun g hg => Nat.lt_of_lt_of_le (ub g hg) k.size⟩
  · have h1 := set_at X.at'.row 3 va
    have h2 := set_at h1 4 vb
    rw [h2]; rfl
  · have := na b hb; omega
  · have := nb b hb; omega
theorem rk_end {w W w10 : World} {r x : Rt} {va vb : Value} (M : RkMid w W r x va vb) (k : Keep (fun k => k = w.heap.size ∨ k = w.heap.size + 1 + 1) W w10) :
    Lists w10 x va vb ∧ Below w.heap.size w w10 ∧ (∀ b, va.ownBlock = some b → w.heap.size ≤ b) ∧ (∀ b, vb.ownBlock = some b → w.heap.size ≤ b) ∧ (∀ b, (va.ownBlock = some b ∨ vb.ownBlock = some b) → b < w10.heap.size) :=
  ⟨⟨M.sa.keep k fun b hb' => by have := M.na b hb'; omega, M.sb.keep k fun b hb' => by have := M.nb b hb'; omega⟩, ((Keep.of_below M.below (F := fun k => w.heap.size ≤ k)).trans k fun i hi => Or.inr (by omega)).new, fun b hb' => by have := M.na b hb'; omega, fun b hb' => by have := M.nb b hb'; omega, fun b hb' => Nat.lt_of_lt_of_le (M.ub b hb') k.size⟩

set_option maxRecDepth 100000 in
set_option maxHeartbeats 4000000 in
theorem revoke_calls (w : World) (r : Rt) (vr vw : Value) (u : ByteArray) (hl : Lists w r vr vw) (hT : Tabs w) (hw : r.wf) (hu : u.size ≤ 9223372036854775807) :
    Calls Tryd.prog 36 #[.agg #[.string r.owner, .string r.file, .int .i64 r.epoch, vr, vw], .string u] w fun e w' => RtRet w e w' (r.revoke u) := by
  have HX := Lib.hid (rk_box u hl hT)
  have HW := Lib.hid hw
  have TW := Lib.hid hT
  have HA : Hid (r.asked u = if r.right = false then 1 else if nameR u = false then 3 else 0) := Lib.hid rfl
  have HG : Hid (r.revoke u = if r.asked u ≠ 0 then (Rt.none, r.asked u) else if r.other u = false then (Rt.none, 4) else if r.epoch = 7 then (Rt.none, 9)
    else (⟨r.owner, r.file, r.epoch + 1, r.rd.filter fun x => !decide (x = u), r.wr.filter fun x => !decide (x = u)⟩, 0)) := Lib.hid rfl
  have HH := Lib.hid (@Rt.right_head r)
  obtain ⟨N, hN⟩ : ∃ N, r.revoke u = N := ⟨_, rfl⟩
  rw [hN] at HG ⊢
  clear hN
  obtain ⟨ow, fi, ep, rd, wr'⟩ := r
  obtain ⟨A, ca, rfl, a1, a2, _⟩ := hl.rd
  obtain ⟨C, cb, rfl, b1, b2, _⟩ := hl.wr
  dsimp only at *
  clear hl hT hw
  obtain ⟨c0, c1, c2, c3, c4⟩ := HX.out.at'.cells
  have cu := HX.out.ucell
  go_enter Tryd.func36, Tryd.ntmps36
  go_wp2_with fail
  refine (asked_calls _ ⟨ow, fi, ep, rd, wr'⟩ _ _ u HX.out.at'.lists HX.out.at'.tabs HW.out hu).mono ?_
  rintro e w1 ⟨rfl, hb1⟩
  have X1 := Lib.hid (HX.out.next hb1)
  have Z1 := Lib.hid X1.out.zero
  clear hb1 c0 c1 c2 c3 c4 cu
  obtain ⟨a, ha⟩ : ∃ a, Rt.asked ⟨ow, fi, ep, rd, wr'⟩ u = a := ⟨_, rfl⟩
  rw [ha] at HG HA ⊢
  clear ha
  have ha3 : a = 1 ∨ a = 3 ∨ (a = 0 ∧ Rt.right ⟨ow, fi, ep, rd, wr'⟩ = true) := by
    have := HA.out
    cases hr : Rt.right ⟨ow, fi, ep, rd, wr'⟩ <;> cases hn : nameR u <;> simp [hr, hn] at this <;> simp [this]
  rcases ha3 with rfl | rfl | ⟨rfl, hr⟩
  · have H1 : Hid (N = (Rt.none, 1)) := Lib.hid (by rw [HG.out]; rfl)
    go_wp2_with (with_reducible refine wp_stop_store _ _ _ rfl ?_)
    unfold Stop
    refine wp_store_all rfl _ _ _ rfl rfl rfl _ _ Z1.out info_rt rfl (by simp [Value.oneCell']) ?_
    intro wz hz kz sz
    have BZ : Hid (Below w.heap.size w wz) := Lib.hid (below_keep2 X1.out.at'.below kz)
    have h4 := row5 hz
    clear hz kz sz
    obtain ⟨c0, c1, c2, c3, c4⟩ := h4
    go_wp2_with fail
    refine bodyPost_ret (v := .tuple #[.agg #[.string ⟨#[]⟩, .string ⟨#[]⟩, .int .i64 0, .slice none 0 0, .slice none 0 0], .int .i64 1]) (by simp [results, Tryd.results36, go_sem, c0, c1, c2, c3, c4]) rfl ?_
    exact ⟨.slice none 0 0, .slice none 0 0, by rw [H1.out]; rfl, by rw [H1.out]; exact ⟨strs_nil _, strs_nil _⟩, BZ.out, (fun _ h => by cases h), (fun _ h => by cases h), (fun _ h => by rcases h with h | h <;> cases h)⟩
  · have H1 : Hid (N = (Rt.none, 3)) := Lib.hid (by rw [HG.out]; rfl)
    go_wp2_with (with_reducible refine wp_stop_store _ _ _ rfl ?_)
    unfold Stop
    refine wp_store_all rfl _ _ _ rfl rfl rfl _ _ Z1.out info_rt rfl (by simp [Value.oneCell']) ?_
    intro wz hz kz sz
    have BZ : Hid (Below w.heap.size w wz) := Lib.hid (below_keep2 X1.out.at'.below kz)
    have h4 := row5 hz
    clear hz kz sz
    obtain ⟨c0, c1, c2, c3, c4⟩ := h4
    go_wp2_with fail
    refine bodyPost_ret (v := .tuple #[.agg #[.string ⟨#[]⟩, .string ⟨#[]⟩, .int .i64 0, .slice none 0 0, .slice none 0 0], .int .i64 3]) (by simp [results, Tryd.results36, go_sem, c0, c1, c2, c3, c4]) rfl ?_
    exact ⟨.slice none 0 0, .slice none 0 0, by rw [H1.out]; rfl, by rw [H1.out]; exact ⟨strs_nil _, strs_nil _⟩, BZ.out, (fun _ h => by cases h), (fun _ h => by cases h), (fun _ h => by rcases h with h | h <;> cases h)⟩
  have H1 : Hid (N = if Rt.other ⟨ow, fi, ep, rd, wr'⟩ u = false then (Rt.none, 4) else if ep = 7 then (Rt.none, 9)
    else (⟨ow, fi, ep + 1, rd.filter fun x => !decide (x = u), wr'.filter fun x => !decide (x = u)⟩, 0)) := Lib.hid (by rw [HG.out]; simp)
  obtain ⟨r1, r2, r3, r4, r5, _⟩ := HH.out hr
  dsimp only at *
  have HR := Lib.hid hr
  clear r1 r2 hr HG HA HH
  obtain ⟨c0, c1, c2, c3, c4⟩ := X1.out.at'.cells
  have cu := X1.out.ucell
  go_wp2_with fail
  refine (other_calls _ ⟨ow, fi, ep, rd, wr'⟩ _ _ u X1.out.at'.lists X1.out.at'.tabs HR.out).mono ?_
  rintro e w2 ⟨rfl, hb2⟩
  have X2 := Lib.hid (X1.out.next hb2)
  have Z2 := Lib.hid X2.out.zero
  clear hb2 c0 c1 c2 c3 c4 cu
  obtain ⟨c0, c1, c2, c3, c4⟩ := X2.out.at'.cells
  cases h3 : Rt.other ⟨ow, fi, ep, rd, wr'⟩ u with
  | false =>
    have H2 : Hid (N = (Rt.none, 4)) := Lib.hid (by rw [H1.out, if_pos h3])
    clear h3
    go_wp2_with (with_reducible refine wp_stop_store _ _ _ rfl ?_)
    unfold Stop
    refine wp_store_all rfl _ _ _ rfl rfl rfl _ _ Z2.out info_rt rfl (by simp [Value.oneCell']) ?_
    intro wz hz kz sz
    have BZ : Hid (Below w.heap.size w wz) := Lib.hid (below_keep2 X2.out.at'.below kz)
    have h4 := row5 hz
    clear hz kz sz
    obtain ⟨c0, c1, c2, c3, c4⟩ := h4
    go_wp2_with fail
    refine bodyPost_ret (v := .tuple #[.agg #[.string ⟨#[]⟩, .string ⟨#[]⟩, .int .i64 0, .slice none 0 0, .slice none 0 0], .int .i64 4]) (by simp [results, Tryd.results36, go_sem, c0, c1, c2, c3, c4]) rfl ?_
    exact ⟨.slice none 0 0, .slice none 0 0, by rw [H2.out]; rfl, by rw [H2.out]; exact ⟨strs_nil _, strs_nil _⟩, BZ.out, (fun _ h => by cases h), (fun _ h => by cases h), (fun _ h => by rcases h with h | h <;> cases h)⟩
  | true =>
  have H2 : Hid (N = if ep = 7 then (Rt.none, 9) else (⟨ow, fi, ep + 1, rd.filter fun x => !decide (x = u), wr'.filter fun x => !decide (x = u)⟩, 0)) := Lib.hid (by rw [H1.out, h3]; rfl)
  clear h3
  by_cases h5 : ep = 7
  · have H3 : Hid (N = (Rt.none, 9)) := Lib.hid (by rw [H2.out, if_pos h5])
    have h5' : (ep == 7) = true := by rw [h5]; rfl
    clear h5
    go_wp2_with (with_reducible refine wp_stop_store _ _ _ rfl ?_)
    unfold Stop
    refine wp_store_all rfl _ _ _ rfl rfl rfl _ _ Z2.out info_rt rfl (by simp [Value.oneCell']) ?_
    intro wz hz kz sz
    have BZ : Hid (Below w.heap.size w wz) := Lib.hid (below_keep2 X2.out.at'.below kz)
    have h4 := row5 hz
    clear hz kz sz
    obtain ⟨c0, c1, c2, c3, c4⟩ := h4
    go_wp2_with fail
    refine bodyPost_ret (v := .tuple #[.agg #[.string ⟨#[]⟩, .string ⟨#[]⟩, .int .i64 0, .slice none 0 0, .slice none 0 0], .int .i64 9]) (by simp [results, Tryd.results36, go_sem, c0, c1, c2, c3, c4]) rfl ?_
    exact ⟨.slice none 0 0, .slice none 0 0, by rw [H3.out]; rfl, by rw [H3.out]; exact ⟨strs_nil _, strs_nil _⟩, BZ.out, (fun _ h => by cases h), (fun _ h => by cases h), (fun _ h => by rcases h with h | h <;> cases h)⟩
  have H3 : Hid (N = (⟨ow, fi, ep + 1, rd.filter fun x => !decide (x = u), wr'.filter fun x => !decide (x = u)⟩, 0)) := Lib.hid (by rw [H2.out, if_neg h5])
  have h5' : (ep == 7) = false := beq_eq_false_iff_ne.2 h5
  have SZ2 : Hid (w.heap.size + 3 ≤ w2.drew.heap.size) := Lib.hid (by have := (Array.getElem?_eq_some_iff.1 X2.out.zero).1; show _ ≤ w2.heap.size; omega)
  have XD := Lib.hid (X2.out.next ((Below.refl _ w2).drew))
  obtain ⟨fd, hfd⟩ : ∃ fd, (rd.filter fun x => !decide (x = u)) = fd := ⟨_, rfl⟩
  obtain ⟨fw, hfw⟩ : ∃ fw, (wr'.filter fun x => !decide (x = u)) = fw := ⟨_, rfl⟩
  rw [hfd, hfw] at H3
  have HFD := Lib.hid hfd
  have HFW := Lib.hid hfw
  clear hfd hfw
  go_wp2_with fail
  clear c0 c1 c2
  go_region_with (first
    | (go_at_call_of 21 (Value.slice A rd.length ca); refine (clone_strs XD.out.at'.lists.rd (by dsimp only; omega)).mono ?_; rintro e w3 ⟨v3, rfl, ho3, hb3⟩; obtain ⟨A3, k3, rfl, _, _⟩ := own_slice ho3; have X3 := Lib.hid (XD.out.next hb3); have O3 := Lib.hid ho3; have B3 := Lib.hid hb3; obtain ⟨_, _, _, d3, d4⟩ := X3.out.at'.cells; clear ho3 hb3)
    | (go_at_call_of 48 (Value.slice A3 rd.length k3); refine (delete_calls O3.out u (w.heap.size + 1) (Array.getElem?_eq_some_iff.1 X3.out.usr).1 X3.out.ucell (fun e => by have := own_new O3.out _ e; have := SZ2.out; omega) (by omega)).mono ?_; rw [HFD.out]; rintro e w4 ⟨A4, k4, rfl, hs4, hk4, ho4⟩; have B4 := Lib.hid ((Keep.of_below B3.out (F := fun k => w2.drew.heap.size ≤ k)).trans hk4 (fun i hi => Or.inl (own_new O3.out i hi))).new; have X4 := Lib.hid (XD.out.next B4.out); have S4 := Lib.hid hs4; have N4 := Lib.hid (show ∀ g, (Value.slice A4 fd.length k4).ownBlock = some g → w2.drew.heap.size ≤ g ∧ g < w4.heap.size from fun g hg => ⟨own_new O3.out g (ho4.symm.trans hg), Nat.lt_of_lt_of_le (World.ownsRow.lt O3.out g (ho4.symm.trans hg)).2 hk4.size⟩); obtain ⟨_, _, _, g3, g4⟩ := X4.out.at'.cells; clear hs4 hk4 ho4)
    | (go_at_call_of 21 (Value.slice C wr'.length cb); refine (clone_strs X4.out.at'.lists.wr (by dsimp only; omega)).mono ?_; rintro e w5 ⟨v5, rfl, ho5, hb5⟩; obtain ⟨A5, k5, rfl, _, _⟩ := own_slice ho5; have X5 := Lib.hid (X4.out.next hb5); have O5 := Lib.hid ho5; have B5 := Lib.hid hb5; have S5 := Lib.hid (S4.out.below hb5); clear ho5 hb5)
    | (go_at_call_of 48 (Value.slice A5 wr'.length k5); refine (delete_calls O5.out u (w.heap.size + 1) (Array.getElem?_eq_some_iff.1 X5.out.usr).1 X5.out.ucell (fun e => by have := own_new O5.out _ e; have := (Array.getElem?_eq_some_iff.1 X4.out.usr).1; omega) (by omega)).mono ?_; rw [HFW.out]; rintro e w6 ⟨A6, k6, rfl, hs6, hk6, ho6⟩; have B6 := Lib.hid ((Keep.of_below B5.out (F := fun k => w4.heap.size ≤ k)).trans hk6 (fun i hi => Or.inl (own_new O5.out i hi))).new; have X6 := Lib.hid (X4.out.next B6.out); have S6 := Lib.hid hs6; have T6 := Lib.hid (S5.out.keep hk6 fun b hb e => by have := (N4.out b hb).2; have := own_new O5.out b e; omega); have N6 := Lib.hid (show ∀ g, (Value.slice A6 fw.length k6).ownBlock = some g → w4.heap.size ≤ g ∧ g < w6.heap.size from fun g hg => ⟨own_new O5.out g (ho6.symm.trans hg), Nat.lt_of_lt_of_le (World.ownsRow.lt O5.out g (ho6.symm.trans hg)).2 hk6.size⟩); have f3 := frozen_of_row X6.out.at'.row 3; have f4 := frozen_of_row X6.out.at'.row 4; have m3 := X6.out.at'.cells.2.2.2.1; have m4 := X6.out.at'.cells.2.2.2.2; clear hs6 hk6 ho6))
  all_goals
    have M7 := Lib.hid (rk_mid (x := ⟨ow, fi, ep + 1, fd, fw⟩) X6.out T6.out S6.out (fun g hg => Nat.le_trans SZ2.out (N4.out g hg).1) (fun g hg => by have := N6.out g hg; have := B4.out.size; have := SZ2.out; omega) (fun g hg => by have h46 := B6.out.size; rcases hg with hg | hg; exact Nat.lt_of_lt_of_le (N4.out g hg).2 h46; exact (N6.out g hg).2))
    clear c3 c4 d3 d4 g3 g4 f3 f4 m3 m4
    obtain ⟨w7, hw7⟩ : ∃ w7, ((w6.setCell ⟨w.heap.size, 3, none⟩ (.slice A4 fd.length k4)).setCell ⟨w.heap.size, 4, none⟩ (.slice A6 fw.length k6)) = w7 := ⟨_, rfl⟩
    rw [hw7] at M7 ⊢
    clear hw7
    obtain ⟨c0, c1, c2, c3, c4⟩ := row5 M7.out.row
    have f2 := frozen_of_row M7.out.row 2
    have Z8 := Lib.hid ((Keep.setCell (fun k => k = w.heap.size) w7 (p := ⟨w.heap.size, 2, none⟩) rfl (.int .i64 (ep + 1))).at M7.out.zero (by omega))
    have K8 := Lib.hid (Keep.setCell (fun k => k = w.heap.size ∨ k = w.heap.size + 1 + 1) w7 (p := ⟨w.heap.size, 2, none⟩) (Or.inl rfl) (.int .i64 (ep + 1)))
    go_wp2_with (with_reducible refine wp_stop_store_agg _ _ _ rfl rfl ?_)
    unfold Stop
    refine wp_store_all rfl _ _ _ rfl rfl rfl _ _ Z8.out info_rt rfl (by simp [Value.oneCell']) ?_
    intro wz hz kz sz
    have GE := Lib.hid (rk_end M7.out (K8.out.same (kz.mono fun k hk => Or.inr hk)))
    clear c0 c1 c2 c3 c4
    obtain ⟨c0, c1, c2, c3, c4⟩ := row5 hz
    clear hz kz sz
    go_wp2_with fail
    refine bodyPost_ret (v := .tuple #[.agg #[.string ow, .string fi, .int .i64 (ep + 1), .slice A4 fd.length k4, .slice A6 fw.length k6], .int .i64 0]) (by simp [results, Tryd.results36, go_sem, c0, c1, c2, c3, c4]) rfl ?_
    exact ⟨_, _, by rw [H3.out], by rw [H3.out]; exact GE.out⟩
end Go.Proofs.YtgacfkenndhcnaaDoor
namespace Go.Proofs.YtgacfkenndhcnaaDoor
open Go.RowKit
set_option linter.unusedVariables false
set_option linter.unusedSimpArgs false

theorem mem_insB {x u : ByteArray} {l : List ByteArray} : x ∈ insB l u ↔ x = u ∨ x ∈ l := by
  unfold insB
  rw [List.mem_append, List.mem_cons]
  constructor
  · rintro (h | h | h)
    · exact Or.inr (List.mem_of_mem_take h)
    · exact Or.inl h
    · exact Or.inr (List.mem_of_mem_drop h)
  · rintro (h | h)
    · exact Or.inr (Or.inl h)
    · have h2 := h
      rw [← List.take_append_drop (posB l u) l, List.mem_append] at h2
      rcases h2 with h2 | h2
      · exact Or.inl h2
      · exact Or.inr (Or.inr h2)
theorem insB_length (l : List ByteArray) (u : ByteArray) : (insB l u).length = l.length + 1 := by
  unfold insB
  have := pos_le l u
  rw [List.length_append, List.length_cons, List.length_take, List.length_drop]; omega
theorem insB_rising {l : List ByteArray} {u : ByteArray} (h : Rising l) (hu : u ∉ l) : Rising (insB l u) := by
  unfold Rising insB at *
  have hb : ∀ y ∈ l.take (posB l u), bLt y u = true := fun y hy => by
    obtain ⟨t, ht⟩ := List.getElem?_of_mem hy
    rw [List.getElem?_take] at ht
    split at ht
    · rename_i hlt; exact pos_less hlt ht
    · cases ht
  have ha : ∀ y ∈ l.drop (posB l u), bLt u y = true := fun y hy => by
    obtain ⟨t, ht⟩ := List.getElem?_of_mem hy
    rw [List.getElem?_drop] at ht
    have h1 := pos_not (h : Rising l) (Nat.le_add_right _ _) ht
    cases h2 : bLt u y with
    | true => rfl
    | false => exact absurd (bLt_antisymm h1 h2 ▸ List.mem_of_getElem? ht) hu
  rw [← List.take_append_drop (posB l u) l, List.pairwise_append] at h
  rw [List.pairwise_append, List.pairwise_cons]
  refine ⟨h.1, ⟨ha, h.2.1⟩, fun x hx y hy => ?_⟩
  rcases List.mem_cons.1 hy with rfl | hy
  · exact hb x hx
  · exact h.2.2 x hx y hy
theorem filter_rising {l : List ByteArray} (h : Rising l) (p : ByteArray → Bool) : Rising (l.filter p) := List.Pairwise.filter p h
theorem Rt.right_iff {r : Rt} : r.right = true ↔ (nameR r.owner = true ∧ nameR r.file = true ∧ 0 ≤ r.epoch ∧ r.epoch < 8 ∧ r.rd.length + r.wr.length ≤ 5 ∧ Rising r.rd ∧ Rising r.wr) ∧ ∀ s ∈ r.rd ++ r.wr, nameR s = true ∧ s ≠ r.owner ∧ ¬ (s ∈ r.rd ∧ s ∈ r.wr) := by
  unfold Rt.right Rt.head Rt.fits risesB
  simp only [Bool.and_eq_true, decide_eq_true_eq, List.all_eq_true, Bool.not_eq_true', decide_eq_false_iff_not, Bool.and_eq_false_iff]
  constructor
  · rintro ⟨⟨⟨⟨⟨⟨⟨a, b⟩, c⟩, d⟩, e⟩, f⟩, g⟩, h⟩
    refine ⟨⟨a, b, c, d, e, f, g⟩, fun s hs => ?_⟩
    obtain ⟨⟨h1, h2⟩, h3⟩ := h s hs
    refine ⟨h1, h2, fun hm => ?_⟩
    rcases h3 with h3 | h3
    · rw [memB_iff.2 hm.1] at h3; cases h3
    · rw [memB_iff.2 hm.2] at h3; cases h3
  · rintro ⟨⟨a, b, c, d, e, f, g⟩, h⟩
    refine ⟨⟨⟨⟨⟨⟨⟨a, b⟩, c⟩, d⟩, e⟩, f⟩, g⟩, fun s hs => ?_⟩
    obtain ⟨h1, h2, h3⟩ := h s hs
    refine ⟨⟨h1, h2⟩, ?_⟩
    by_cases hm : s ∈ r.rd
    · refine Or.inr ?_
      cases hq : memB s r.wr with
      | false => rfl
      | true => exact absurd ⟨hm, memB_iff.1 hq⟩ h3
    · refine Or.inl ?_
      cases hq : memB s r.rd with
      | false => rfl
      | true => exact absurd (memB_iff.1 hq) hm
theorem Rt.asked_zero {r : Rt} {u : ByteArray} (h : r.asked u = 0) : r.right = true ∧ nameR u = true := by
  unfold Rt.asked at h
  cases hr : r.right with
  | false => rw [hr, if_pos rfl] at h; omega
  | true =>
    rw [hr] at h
    cases hn : nameR u with
    | false => rw [hn] at h; simp at h
    | true => exact ⟨rfl, rfl⟩
theorem Rt.asked_nn (r : Rt) (u : ByteArray) : 0 ≤ r.asked u := by unfold Rt.asked; split; omega; split <;> omega
theorem Rt.other_iff {r : Rt} {u : ByteArray} : r.other u = true ↔ u ∈ r.rd ∨ u ∈ r.wr := by
  unfold Rt.other; rw [Bool.or_eq_true, memB_iff, memB_iff]
theorem Rt.grant_ok {r : Rt} {u : ByteArray} {wt : Bool} (h : (r.grant u wt).2 = 0) : (r.grant u wt).1.right = true ∧ (r.grant u wt).1.owner = r.owner ∧ (r.grant u wt).1.file = r.file ∧ (r.grant u wt).1.epoch = r.epoch := by
  unfold Rt.grant at h ⊢
  by_cases h1 : r.asked u ≠ 0
  · rw [if_pos h1] at h; exact absurd h h1
  rw [if_neg h1] at h ⊢
  obtain ⟨hr, hn⟩ := Rt.asked_zero (by simpa using h1)
  by_cases h2 : u = r.owner ∨ r.other u = true
  · rw [if_pos h2] at h; simp at h
  rw [if_neg h2] at h ⊢
  by_cases h3 : 5 ≤ r.rd.length + r.wr.length
  · rw [if_pos h3] at h; simp at h
  rw [if_neg h3]
  obtain ⟨⟨a, b, c, d, e, f, g⟩, hall⟩ := Rt.right_iff.1 hr
  have hno : u ≠ r.owner := fun e => h2 (Or.inl e)
  have hnr : u ∉ r.rd := fun e => h2 (Or.inr (Rt.other_iff.2 (Or.inl e)))
  have hnw : u ∉ r.wr := fun e => h2 (Or.inr (Rt.other_iff.2 (Or.inr e)))
  cases wt with
  | true =>
    refine ⟨Rt.right_iff.2 ⟨⟨a, b, c, d, ?_, f, insB_rising g hnw⟩, fun s hs => ?_⟩, rfl, rfl, rfl⟩
    · show r.rd.length + (insB r.wr u).length ≤ 5; rw [insB_length]; omega
    · have hs' : s ∈ r.rd ∨ s = u ∨ s ∈ r.wr := by
        rcases List.mem_append.1 hs with hs | hs
        · exact Or.inl hs
        · exact Or.inr (mem_insB.1 hs)
      by_cases hsu : s = u
      · subst hsu; exact ⟨hn, hno, fun hm => hnr hm.1⟩
      · have hin : s ∈ r.rd ++ r.wr := by
          rcases hs' with hs' | hs' | hs'
          · exact List.mem_append_left _ hs'
          · exact absurd hs' hsu
          · exact List.mem_append_right _ hs'
        obtain ⟨q1, q2, q3⟩ := hall s hin
        exact ⟨q1, q2, fun hm => q3 ⟨hm.1, (mem_insB.1 hm.2).resolve_left hsu⟩⟩
  | false =>
    refine ⟨Rt.right_iff.2 ⟨⟨a, b, c, d, ?_, insB_rising f hnr, g⟩, fun s hs => ?_⟩, rfl, rfl, rfl⟩
    · show (insB r.rd u).length + r.wr.length ≤ 5; rw [insB_length]; omega
    · have hs' : (s = u ∨ s ∈ r.rd) ∨ s ∈ r.wr := by
        rcases List.mem_append.1 hs with hs | hs
        · exact Or.inl (mem_insB.1 hs)
        · exact Or.inr hs
      by_cases hsu : s = u
      · subst hsu; exact ⟨hn, hno, fun hm => hnw hm.2⟩
      · have hin : s ∈ r.rd ++ r.wr := by
          rcases hs' with (hs' | hs') | hs'
          · exact absurd hs' hsu
          · exact List.mem_append_left _ hs'
          · exact List.mem_append_right _ hs'
        obtain ⟨q1, q2, q3⟩ := hall s hin
        exact ⟨q1, q2, fun hm => q3 ⟨(mem_insB.1 hm.1).resolve_left hsu, hm.2⟩⟩
theorem Rt.revoke_ok {r : Rt} {u : ByteArray} (h : (r.revoke u).2 = 0) : (r.revoke u).1.right = true ∧ (r.revoke u).1.owner = r.owner ∧ (r.revoke u).1.file = r.file ∧ (r.revoke u).1.epoch = r.epoch + 1 := by
  unfold Rt.revoke at h ⊢
  by_cases h1 : r.asked u ≠ 0
  · rw [if_pos h1] at h; exact absurd h h1
  rw [if_neg h1] at h ⊢
  obtain ⟨hr, hn⟩ := Rt.asked_zero (by simpa using h1)
  by_cases h2 : r.other u = false
  · rw [if_pos h2] at h; simp at h
  rw [if_neg h2] at h ⊢
  by_cases h3 : r.epoch = 7
  · rw [if_pos h3] at h; simp at h
  rw [if_neg h3]
  obtain ⟨⟨a, b, c, d, e, f, g⟩, hall⟩ := Rt.right_iff.1 hr
  refine ⟨Rt.right_iff.2 ⟨⟨a, b, ?_, ?_, ?_, filter_rising f _, filter_rising g _⟩, fun s hs => ?_⟩, rfl, rfl, rfl⟩
  · show 0 ≤ r.epoch + 1; omega
  · show r.epoch + 1 < 8; omega
  · have h1 := List.length_filter_le (fun x => !decide (x = u)) r.rd
    have h2 := List.length_filter_le (fun x => !decide (x = u)) r.wr
    show (r.rd.filter fun x => !decide (x = u)).length + (r.wr.filter fun x => !decide (x = u)).length ≤ 5
    omega
  · have hin : s ∈ r.rd ++ r.wr := by
      rcases List.mem_append.1 hs with hs | hs
      · exact List.mem_append_left _ (List.mem_filter.1 hs).1
      · exact List.mem_append_right _ (List.mem_filter.1 hs).1
    obtain ⟨q1, q2, q3⟩ := hall s hin
    exact ⟨q1, q2, fun hm => q3 ⟨(List.mem_filter.1 hm.1).1, (List.mem_filter.1 hm.2).1⟩⟩
theorem right_new {o f : ByteArray} (ho : nameR o = true) (hf : nameR f = true) : (⟨o, f, 0, [], []⟩ : Rt).right = true := by
  unfold Rt.right Rt.head
  simp [ho, hf, risesB, Rising]
end Go.Proofs.YtgacfkenndhcnaaDoor
