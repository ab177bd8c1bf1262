/- (*Ledger).counts. (Printed by tools/gac.py.) (*Ledger).Lives. -/
import Derived.Test.YtgacfkenndhcnaaDoorZL6
namespace Go.Proofs.YtgacfkenndhcnaaDoor
open Go.RowKit
set_option linter.unusedVariables false
set_option linter.unusedSimpArgs false

def countsP (cor : List ByteArray) (s : StA) : Bool := (s.kind == 114 || s.kind == 119) && s.err == 0 && !memB s.owner cor
/-- a step in a block of its own -/
structure StepIn (w W : World) (b : Nat) (s : StA) : Prop where
  row : W.heap[b]? = some (.cells (stepC s).toArray 37 (0, 0))
  below : Below w.heap.size w W
  lo : w.heap.size ≤ b
theorem StepIn.next {w W W' : World} {b : Nat} {s : StA} (h : StepIn w W b s) (k : Below W.heap.size W W') : StepIn w W' b s := ⟨(Keep.of_below k : Keep (fun _ => False) W W').at h.row fun e => e, h.below.trans (k.mono h.below.size), h.lo⟩
theorem StepIn.range {w W : World} {b : Nat} {s : StA} (h : StepIn w W b s) : W.rangeAt b 0 (cmdC s) := fun j v hj => by
  have hj' : (cmdC s ++ [.int .i64 s.err, .string s.rtext, s.vn, .int .u64 s.ver, .int .i64 s.epoch])[j]? = some v := by rw [List.getElem?_append_left (List.getElem?_eq_some_iff.1 hj).1]; exact hj
  rw [cell_of_row _ _ _ _ _ _ h.row, Nat.zero_add, List.getElem?_toArray]; exact hj'
def resC (s : StA) : List Value := [.int .i64 s.err, .string s.rtext, s.vn, .int .u64 s.ver, .int .i64 s.epoch]
theorem StepIn.rangeR {w W : World} {b : Nat} {s : StA} (h : StepIn w W b s) : W.rangeAt b 18 (resC s) := fun j v hj => by
  have hj' : (cmdC s ++ resC s)[18 + j]? = some v := by
    rw [List.getElem?_append_right (by show 18 ≤ 18 + j; omega)]
    show (resC s)[18 + j - 18]? = _
    rw [Nat.add_sub_cancel_left]; exact hj
  rw [cell_of_row _ _ _ _ _ _ h.row, List.getElem?_toArray]; exact hj'
theorem StepIn.cell {w W : World} {b : Nat} {s : StA} (h : StepIn w W b s) (j : Nat) (v : Value) (hj : (stepC s)[j]? = some v) : W.cell? ⟨b, j, none⟩ = some v := by rw [cell_of_row _ _ _ _ _ _ h.row, List.getElem?_toArray]; exact hj
theorem step_in (w : World) (s : StA) : StepIn w (w.alloc (.cells (stepC s).toArray 37)) w.heap.size s := ⟨by rw [get_alloc, if_pos rfl], (Below.refl _ w).alloc (Nat.le_refl _) _, Nat.le_refl _⟩
structure CmdIn (w W : World) (b : Nat) (s : StA) : Prop where
  row : W.heap[b]? = some (.cells (cmdC s).toArray 31 (0, 0))
  lo : w.heap.size ≤ b
theorem CmdIn.next {w W W' : World} {b : Nat} {s : StA} (h : CmdIn w W b s) (k : Below W.heap.size W W') : CmdIn w W' b s := ⟨(Keep.of_below k : Keep (fun _ => False) W W').at h.row fun e => e, h.lo⟩
theorem CmdIn.cell {w W : World} {b : Nat} {s : StA} (h : CmdIn w W b s) (j : Nat) (v : Value) (hj : (cmdC s)[j]? = some v) : W.cell? ⟨b, j, none⟩ = some v := by rw [cell_of_row _ _ _ _ _ _ h.row, List.getElem?_toArray]; exact hj
set_option maxRecDepth 100000 in
set_option maxHeartbeats 8000000 in
theorem counts_calls {w : World} {role : Nat → Role} {G : LedM} (h : IsLed w role G) (s : StA) (hvn : s.vn.oneCell' = true) :
    Calls Tryd.prog 27 #[.pointer (some ⟨G.b, 0, none⟩), .agg (stepC s).toArray] w fun e w' => e = .returned (.bool (countsP G.cor s)) ∧ Below w.heap.size w w' := by
  have HX := Lib.hid (step_in w s)
  obtain ⟨SA, hSA⟩ : ∃ A, (stepC s).toArray = A := ⟨_, rfl⟩
  obtain ⟨CA, hCA⟩ : ∃ A, (cmdC s).toArray = A := ⟨_, rfl⟩
  have HCA := Lib.hid hCA
  have HC1 : Hid ((Tryd.prog.info? 31).map (·.size) = some CA.size ∧ CA.size = 18 ∧ CA.all (·.oneCell') = true) := Lib.hid (by rw [← hCA]; exact ⟨info_cmd, rfl, by simp [cmdC, Value.oneCell']⟩)
  rw [hSA] at HX ⊢
  have HH := Lib.hid h
  obtain ⟨W1, hW1⟩ : ∃ W, w.alloc (.cells SA 37) = W := ⟨_, rfl⟩
  rw [hW1] at HX
  obtain ⟨A, ca, hvc, _, _⟩ := own_slice h.cor
  obtain ⟨n, hn⟩ : ∃ n, G.cor.length = n := ⟨_, rfl⟩
  rw [hn] at hvc
  have HVC := Lib.hid hvc
  obtain ⟨kd, hkd⟩ : ∃ k, s.kind = k := ⟨_, rfl⟩
  obtain ⟨er, her⟩ : ∃ k, s.err = k := ⟨_, rfl⟩
  have HKE : Hid (s.kind = kd ∧ s.err = er) := Lib.hid ⟨hkd, her⟩
  have HCP : Hid (countsP G.cor s = ((kd == 114 || kd == 119) && er == 0 && !memB s.owner G.cor)) := Lib.hid (by unfold countsP; rw [hkd, her])
  have hs1 : W1.heap.size = w.heap.size + 1 := by rw [← hW1, size_alloc]
  have HS1 := Lib.hid hs1
  clear h hvn hSA hCA hvc hn hkd her hs1
  go_enter Tryd.func27, Tryd.ntmps27
  go_wp2_with (with_reducible refine wp_stop_load (o := ⟨some 7, .load _ (.tmp 6), _, _, _, _⟩) _ _ rfl ?_)
  unfold Stop
  refine wpList_load_mid rfl _ _ rfl _ _ rfl (cmdC s) _ HX.out.range Tryd.underlying31 rfl info_cmd ?_
  rw [HCA.out]
  go_wp2_with (with_reducible refine wp_stop_store (o := ⟨none, .store _ (.tmp 5) _, _, _, _, _⟩) _ _ _ rfl ?_)
  unfold Stop
  refine wp_store_all rfl _ _ _ rfl rfl rfl _ _ ((get_alloc _ _ _).trans (if_pos rfl)) HC1.out.1 HC1.out.2.1 HC1.out.2.2 ?_
  intro W2 h2 k2 s2
  have hb2 : Below W1.heap.size W1 W2 := below_keep ((Below.refl W1.heap.size W1).alloc (Nat.le_refl _) _) k2
  have HX2 := Lib.hid (HX.out.next hb2)
  have HY2 : Hid (CmdIn w W2 W1.heap.size s) := Lib.hid ⟨by rw [HCA.out]; exact h2, by rw [HS1.out]; exact Nat.le_succ _⟩
  rw [HS1.out] at HY2 ⊢
  clear h2 k2 s2 hb2 hW1
  obtain ⟨wd, hwd⟩ : ∃ y, W2.drew = y := ⟨_, rfl⟩
  have HXD : Hid (StepIn w wd w.heap.size s) := Lib.hid (by rw [← hwd]; exact HX2.out.next (Below.refl _ W2).drew)
  have HYD : Hid (CmdIn w wd (w.heap.size + 1) s) := Lib.hid (by rw [← hwd]; exact HY2.out.next (Below.refl _ W2).drew)
  have HID := Lib.hid (HH.out.below HXD.out.below)
  have hS : (fun U : World => U.cell? ⟨w.heap.size + 1, 0, none⟩ = some (.int .u8 kd) ∧ U.cell? ⟨w.heap.size + 1, 2, none⟩ = some (.string s.owner) ∧ U.cell? ⟨w.heap.size, 18, none⟩ = some (.int .i64 er) ∧ U.cell? ⟨G.b, 2, none⟩ = some (.slice A n ca)) wd := ⟨HYD.out.cell 0 _ (by show some _ = _; rw [HKE.out.1]), HYD.out.cell 2 _ rfl, HXD.out.cell 18 _ (by show some _ = _; rw [HKE.out.2]), by rw [← HVC.out]; exact HID.out.cells.2.2.1⟩
  have HCT := Lib.hid (contains_calls wd (.slice A n ca) G.cor s.owner (by rw [← HVC.out]; exact strs_own HID.out.cor))
  cases f1 : (kd == 114) with
  | true =>
    have f2 : (kd == 119) = false := by
      have : kd = 114 := by simpa using f1
      rw [this]; rfl
    cases f3 : (er == 0) with
    | true =>
      go_wp2_with fail
      refine wp_region_G (fun U : World => U.cell? ⟨w.heap.size + 1, 0, none⟩ = some (.int .u8 kd) ∧ U.cell? ⟨w.heap.size + 1, 2, none⟩ = some (.string s.owner) ∧ U.cell? ⟨w.heap.size, 18, none⟩ = some (.int .i64 er) ∧ U.cell? ⟨G.b, 2, none⟩ = some (.slice A n ca)) [21] (by kernel_rfl) ?_
      rw [hwd]
      clear hwd
      refine wpAnyG_pure (i := 0) (v := ?vka0) at0 (by kernel_rfl) (fun _ _ _ h => h) (Or.inl ⟨by rfl, ?hka0⟩) (Or.inr (by assumption)) ?rka0
      case hka0 => (intro w hSw; (try dsimp only at hSw); go_simp; try with_reducible rfl)
      case' rka0 => skip
      try simp only [Act.put, List.setIfInBounds_toArray, List.set_cons_zero, List.set_cons_succ]
      refine wpAnyG_take (ws := [0,1,2,3,4,5,6,7,8,9,10,11,12,13,14,15,16,17,18,19,20]) (i := 1) (v := ?vka1) at1 (by kernel_rfl) (fun _ _ _ h => h) (Or.inl ⟨by rfl, ?hka1⟩) (by assumption) ?rka1
      case hka1 => (intro w hSw; (try dsimp only at hSw); go_simp; try with_reducible rfl)
      case' rka1 => skip
      try simp only [Act.put, List.setIfInBounds_toArray, List.set_cons_zero, List.set_cons_succ]
      refine wpAnyG_pure (i := 2) (v := ?vka2) at2 (by kernel_rfl) (fun _ _ _ h => h) (Or.inl ⟨by rfl, ?hka2⟩) (Or.inr (by assumption)) ?rka2
      case hka2 => (intro w hSw; (try dsimp only at hSw); go_simp; try with_reducible rfl)
      case' rka2 => skip
      try simp only [Act.put, List.setIfInBounds_toArray, List.set_cons_zero, List.set_cons_succ]
      refine wpAnyG_pure (i := 3) (v := ?vka3) at3 (by kernel_rfl) (fun _ _ _ h => h) (Or.inl ⟨by rfl, ?hka3⟩) (Or.inr (by assumption)) ?rka3
      case hka3 => (intro w hSw; (try dsimp only at hSw); go_simp; try with_reducible rfl)
      case' rka3 => skip
      try simp only [Act.put, List.setIfInBounds_toArray, List.set_cons_zero, List.set_cons_succ]
      refine wpAnyG_pure (i := 4) (v := undef) at4 (by kernel_rfl) (fun _ _ _ h => h) (Or.inr ⟨by rfl, rfl⟩) (by first | assumption | exact Or.inr (by assumption)) ?rka4
      case' rka4 => skip
      try simp only [Act.put, List.setIfInBounds_toArray, List.set_cons_zero, List.set_cons_succ]
      refine wpAnyG_pure (i := 5) (v := undef) at5 (by kernel_rfl) (fun _ _ _ h => h) (Or.inr ⟨by rfl, rfl⟩) (by first | assumption | exact Or.inr (by assumption)) ?rka5
      case' rka5 => skip
      try simp only [Act.put, List.setIfInBounds_toArray, List.set_cons_zero, List.set_cons_succ]
      refine wpAnyG_pure (i := 6) (v := undef) at6 (by kernel_rfl) (fun _ _ _ h => h) (Or.inr ⟨by rfl, rfl⟩) (by first | assumption | exact Or.inr (by assumption)) ?rka6
      case' rka6 => skip
      try simp only [Act.put, List.setIfInBounds_toArray, List.set_cons_zero, List.set_cons_succ]
      refine wpAnyG_pure (i := 7) (v := ?vka7) at7 (by kernel_rfl) (fun _ _ _ h => h) (Or.inl ⟨by rfl, ?hka7⟩) (Or.inr (by assumption)) ?rka7
      case hka7 => (intro w hSw; (try dsimp only at hSw); go_simp; try with_reducible rfl)
      case' rka7 => skip
      try simp only [Act.put, List.setIfInBounds_toArray, List.set_cons_zero, List.set_cons_succ]
      refine wpAnyG_pure (i := 8) (v := ?vka8) at8 (by kernel_rfl) (fun _ _ _ h => h) (Or.inl ⟨by rfl, ?hka8⟩) (Or.inr (by assumption)) ?rka8
      case hka8 => (intro w hSw; (try dsimp only at hSw); go_simp; try with_reducible rfl)
      case' rka8 => skip
      try simp only [Act.put, List.setIfInBounds_toArray, List.set_cons_zero, List.set_cons_succ]
      refine wpAnyG_pure (i := 9) (v := ?vka9) at9 (by kernel_rfl) (fun _ _ _ h => h) (Or.inl ⟨by rfl, ?hka9⟩) (Or.inr (by assumption)) ?rka9
      case hka9 => (intro w hSw; (try dsimp only at hSw); go_simp; try with_reducible rfl)
      case' rka9 => skip
      try simp only [Act.put, List.setIfInBounds_toArray, List.set_cons_zero, List.set_cons_succ]
      refine wpAnyG_pure (i := 10) (v := ?vka10) at10 (by kernel_rfl) (fun _ _ _ h => h) (Or.inl ⟨by rfl, ?hka10⟩) (Or.inr (by assumption)) ?rka10
      case hka10 => (intro w hSw; (try dsimp only at hSw); go_simp; try with_reducible rfl)
      case' rka10 => skip
      try simp only [Act.put, List.setIfInBounds_toArray, List.set_cons_zero, List.set_cons_succ]
      refine wpAnyG_take (ws := [0,1,2,3,4,5,6,7,8,9,10,11,12,13,14,15,16,17,18,19,20]) (i := 11) (v := ?vka11) at11 (by kernel_rfl) (fun _ _ _ h => h) (Or.inl ⟨by rfl, ?hka11⟩) (by assumption) ?rka11
      case hka11 => (intro w hSw; (try dsimp only at hSw); go_simp; try with_reducible rfl)
      case' rka11 => skip
      try simp only [Act.put, List.setIfInBounds_toArray, List.set_cons_zero, List.set_cons_succ]
      refine wpAnyG_pure (i := 12) (v := ?vka12) at12 (by kernel_rfl) (fun _ _ _ h => h) (Or.inl ⟨by rfl, ?hka12⟩) (Or.inr (by assumption)) ?rka12
      case hka12 => (intro w hSw; (try dsimp only at hSw); go_simp; try with_reducible rfl)
      case' rka12 => skip
      try simp only [Act.put, List.setIfInBounds_toArray, List.set_cons_zero, List.set_cons_succ]
      refine wpAnyG_pure (i := 13) (v := ?vka13) at13 (by kernel_rfl) (fun _ _ _ h => h) (Or.inl ⟨by rfl, ?hka13⟩) (Or.inr (by assumption)) ?rka13
      case hka13 => (intro w hSw; (try dsimp only at hSw); go_simp; try with_reducible rfl)
      case' rka13 => skip
      try simp only [Act.put, List.setIfInBounds_toArray, List.set_cons_zero, List.set_cons_succ]
      refine wpAnyG_pure (i := 14) (v := ?vka14) at14 (by kernel_rfl) (fun _ _ _ h => h) (Or.inl ⟨by rfl, ?hka14⟩) (Or.inr (by assumption)) ?rka14
      case hka14 => (intro w hSw; (try dsimp only at hSw); go_simp; try with_reducible rfl)
      case' rka14 => skip
      try simp only [Act.put, List.setIfInBounds_toArray, List.set_cons_zero, List.set_cons_succ]
      refine wpAnyG_pure (i := 15) (v := ?vka15) at15 (by kernel_rfl) (fun _ _ _ h => h) (Or.inl ⟨by rfl, ?hka15⟩) (Or.inr (by assumption)) ?rka15
      case hka15 => (intro w hSw; (try dsimp only at hSw); go_simp; try with_reducible rfl)
      case' rka15 => skip
      try simp only [Act.put, List.setIfInBounds_toArray, List.set_cons_zero, List.set_cons_succ]
      refine wpAnyG_pure (i := 16) (v := ?vka16) at16 (by kernel_rfl) (fun _ _ _ h => h) (Or.inl ⟨by rfl, ?hka16⟩) (Or.inr (by assumption)) ?rka16
      case hka16 => (intro w hSw; (try dsimp only at hSw); go_simp; try with_reducible rfl)
      case' rka16 => skip
      try simp only [Act.put, List.setIfInBounds_toArray, List.set_cons_zero, List.set_cons_succ]
      refine wpAnyG_pure (i := 17) (v := ?vka17) at17 (by kernel_rfl) (fun _ _ _ h => h) (Or.inl ⟨by rfl, ?hka17⟩) (Or.inr (by assumption)) ?rka17
      case hka17 => (intro w hSw; (try dsimp only at hSw); go_simp; try with_reducible rfl)
      case' rka17 => skip
      try simp only [Act.put, List.setIfInBounds_toArray, List.set_cons_zero, List.set_cons_succ]
      refine wpAnyG_take (ws := [0,1,2,3,4,5,6,7,8,9,10,11,12,13,14,15,16,17,18,19,20]) (i := 18) (v := ?vka18) at18 (by kernel_rfl) (fun _ _ _ h => h) (Or.inl ⟨by rfl, ?hka18⟩) (by assumption) ?rka18
      case hka18 => (intro w hSw; (try dsimp only at hSw); go_simp; try with_reducible rfl)
      case' rka18 => skip
      try simp only [Act.put, List.setIfInBounds_toArray, List.set_cons_zero, List.set_cons_succ]
      refine wpAnyG_pure (i := 19) (v := ?vka19) at19 (by kernel_rfl) (fun _ _ _ h => h) (Or.inl ⟨by rfl, ?hka19⟩) (Or.inr (by assumption)) ?rka19
      case hka19 => (intro w hSw; (try dsimp only at hSw); go_simp; try with_reducible rfl)
      case' rka19 => skip
      try simp only [Act.put, List.setIfInBounds_toArray, List.set_cons_zero, List.set_cons_succ]
      refine wpAnyG_take (ws := [0,1,2,3,4,5,6,7,8,9,10,11,12,13,14,15,16,17,18,19,20]) (i := 20) (v := ?vka20) at20 (by kernel_rfl) (fun _ _ _ h => h) (Or.inl ⟨by rfl, ?hka20⟩) (by assumption) ?rka20
      case hka20 => (intro w hSw; (try dsimp only at hSw); go_simp; try with_reducible rfl)
      case' rka20 => skip
      try simp only [Act.put, List.setIfInBounds_toArray, List.set_cons_zero, List.set_cons_succ]
      refine wpAnyG_one 21 at21 (by kernel_rfl) (fun Kn hK => ?_)
      go_simp
      refine HCT.out.mono ?_
      rintro e w4 ⟨rfl, hw4⟩
      obtain rfl : w4 = wd := hw4.symm
      clear hw4
      refine hK.out _ _ (Or.inl (by kernel_rfl)) ?_
      clear hK Kn
      try simp only [Act.put, List.setIfInBounds_toArray, List.set_cons_zero, List.set_cons_succ]
      refine wpAnyG_one 22 at22 (by kernel_rfl) (fun Kn hK => ?_)
      go_simp
      refine hK.out _ _ (Or.inl (by kernel_rfl)) ?_
      clear hK Kn
      try simp only [Act.put, List.setIfInBounds_toArray, List.set_cons_zero, List.set_cons_succ]
      refine wpAnyG_one 23 at23 (by kernel_rfl) (fun Kn hK => ?_)
      go_simp
      refine hK.out _ _ (Or.inl (by kernel_rfl)) ?_
      clear hK Kn
      try simp only [Act.put, List.setIfInBounds_toArray, List.set_cons_zero, List.set_cons_succ]
      refine wpAnyG_one 24 at24 (by kernel_rfl) (fun Kn hK => ?_)
      go_simp
      refine hK.out _ _ (Or.inl (by kernel_rfl)) ?_
      clear hK Kn hS
      refine wpAnyG_done (by kernel_rfl) ?_
      try simp only [Act.put, List.setIfInBounds_toArray, List.set_cons_zero, List.set_cons_succ]
      go_wp2_with fail
      go_ret
      exact ⟨by rw [HCP.out]; simp [f1, f2, f3], HXD.out.below⟩
    | false =>
      go_wp2_with fail
      refine wp_region_G (fun U : World => U.cell? ⟨w.heap.size + 1, 0, none⟩ = some (.int .u8 kd) ∧ U.cell? ⟨w.heap.size + 1, 2, none⟩ = some (.string s.owner) ∧ U.cell? ⟨w.heap.size, 18, none⟩ = some (.int .i64 er) ∧ U.cell? ⟨G.b, 2, none⟩ = some (.slice A n ca)) [24] (by kernel_rfl) ?_
      rw [hwd]
      clear hwd
      refine wpAnyG_pure (i := 0) (v := ?vkb0) at0 (by kernel_rfl) (fun _ _ _ h => h) (Or.inl ⟨by rfl, ?hkb0⟩) (Or.inr (by assumption)) ?rkb0
      case hkb0 => (intro w hSw; (try dsimp only at hSw); go_simp; try with_reducible rfl)
      case' rkb0 => skip
      try simp only [Act.put, List.setIfInBounds_toArray, List.set_cons_zero, List.set_cons_succ]
      refine wpAnyG_take (ws := [0,1,2,3,4,5,6,7,8,9,10,11,12,13,14,15,16,17,18,19,20,21,22,23]) (i := 1) (v := ?vkb1) at1 (by kernel_rfl) (fun _ _ _ h => h) (Or.inl ⟨by rfl, ?hkb1⟩) (by assumption) ?rkb1
      case hkb1 => (intro w hSw; (try dsimp only at hSw); go_simp; try with_reducible rfl)
      case' rkb1 => skip
      try simp only [Act.put, List.setIfInBounds_toArray, List.set_cons_zero, List.set_cons_succ]
      refine wpAnyG_pure (i := 2) (v := ?vkb2) at2 (by kernel_rfl) (fun _ _ _ h => h) (Or.inl ⟨by rfl, ?hkb2⟩) (Or.inr (by assumption)) ?rkb2
      case hkb2 => (intro w hSw; (try dsimp only at hSw); go_simp; try with_reducible rfl)
      case' rkb2 => skip
      try simp only [Act.put, List.setIfInBounds_toArray, List.set_cons_zero, List.set_cons_succ]
      refine wpAnyG_pure (i := 3) (v := ?vkb3) at3 (by kernel_rfl) (fun _ _ _ h => h) (Or.inl ⟨by rfl, ?hkb3⟩) (Or.inr (by assumption)) ?rkb3
      case hkb3 => (intro w hSw; (try dsimp only at hSw); go_simp; try with_reducible rfl)
      case' rkb3 => skip
      try simp only [Act.put, List.setIfInBounds_toArray, List.set_cons_zero, List.set_cons_succ]
      refine wpAnyG_pure (i := 4) (v := undef) at4 (by kernel_rfl) (fun _ _ _ h => h) (Or.inr ⟨by rfl, rfl⟩) (by first | assumption | exact Or.inr (by assumption)) ?rkb4
      case' rkb4 => skip
      try simp only [Act.put, List.setIfInBounds_toArray, List.set_cons_zero, List.set_cons_succ]
      refine wpAnyG_pure (i := 5) (v := undef) at5 (by kernel_rfl) (fun _ _ _ h => h) (Or.inr ⟨by rfl, rfl⟩) (by first | assumption | exact Or.inr (by assumption)) ?rkb5
      case' rkb5 => skip
      try simp only [Act.put, List.setIfInBounds_toArray, List.set_cons_zero, List.set_cons_succ]
      refine wpAnyG_pure (i := 6) (v := undef) at6 (by kernel_rfl) (fun _ _ _ h => h) (Or.inr ⟨by rfl, rfl⟩) (by first | assumption | exact Or.inr (by assumption)) ?rkb6
      case' rkb6 => skip
      try simp only [Act.put, List.setIfInBounds_toArray, List.set_cons_zero, List.set_cons_succ]
      refine wpAnyG_pure (i := 7) (v := ?vkb7) at7 (by kernel_rfl) (fun _ _ _ h => h) (Or.inl ⟨by rfl, ?hkb7⟩) (Or.inr (by assumption)) ?rkb7
      case hkb7 => (intro w hSw; (try dsimp only at hSw); go_simp; try with_reducible rfl)
      case' rkb7 => skip
      try simp only [Act.put, List.setIfInBounds_toArray, List.set_cons_zero, List.set_cons_succ]
      refine wpAnyG_pure (i := 8) (v := ?vkb8) at8 (by kernel_rfl) (fun _ _ _ h => h) (Or.inl ⟨by rfl, ?hkb8⟩) (Or.inr (by assumption)) ?rkb8
      case hkb8 => (intro w hSw; (try dsimp only at hSw); go_simp; try with_reducible rfl)
      case' rkb8 => skip
      try simp only [Act.put, List.setIfInBounds_toArray, List.set_cons_zero, List.set_cons_succ]
      refine wpAnyG_pure (i := 9) (v := ?vkb9) at9 (by kernel_rfl) (fun _ _ _ h => h) (Or.inl ⟨by rfl, ?hkb9⟩) (Or.inr (by assumption)) ?rkb9
      case hkb9 => (intro w hSw; (try dsimp only at hSw); go_simp; try with_reducible rfl)
      case' rkb9 => skip
      try simp only [Act.put, List.setIfInBounds_toArray, List.set_cons_zero, List.set_cons_succ]
      refine wpAnyG_pure (i := 10) (v := ?vkb10) at10 (by kernel_rfl) (fun _ _ _ h => h) (Or.inl ⟨by rfl, ?hkb10⟩) (Or.inr (by assumption)) ?rkb10
      case hkb10 => (intro w hSw; (try dsimp only at hSw); go_simp; try with_reducible rfl)
      case' rkb10 => skip
      try simp only [Act.put, List.setIfInBounds_toArray, List.set_cons_zero, List.set_cons_succ]
      refine wpAnyG_take (ws := [0,1,2,3,4,5,6,7,8,9,10,11,12,13,14,15,16,17,18,19,20,21,22,23]) (i := 11) (v := ?vkb11) at11 (by kernel_rfl) (fun _ _ _ h => h) (Or.inl ⟨by rfl, ?hkb11⟩) (by assumption) ?rkb11
      case hkb11 => (intro w hSw; (try dsimp only at hSw); go_simp; try with_reducible rfl)
      case' rkb11 => skip
      try simp only [Act.put, List.setIfInBounds_toArray, List.set_cons_zero, List.set_cons_succ]
      refine wpAnyG_pure (i := 12) (v := ?vkb12) at12 (by kernel_rfl) (fun _ _ _ h => h) (Or.inl ⟨by rfl, ?hkb12⟩) (Or.inr (by assumption)) ?rkb12
      case hkb12 => (intro w hSw; (try dsimp only at hSw); go_simp; try with_reducible rfl)
      case' rkb12 => skip
      try simp only [Act.put, List.setIfInBounds_toArray, List.set_cons_zero, List.set_cons_succ]
      refine wpAnyG_pure (i := 13) (v := ?vkb13) at13 (by kernel_rfl) (fun _ _ _ h => h) (Or.inl ⟨by rfl, ?hkb13⟩) (Or.inr (by assumption)) ?rkb13
      case hkb13 => (intro w hSw; (try dsimp only at hSw); go_simp; try with_reducible rfl)
      case' rkb13 => skip
      try simp only [Act.put, List.setIfInBounds_toArray, List.set_cons_zero, List.set_cons_succ]
      refine wpAnyG_pure (i := 14) (v := ?vkb14) at14 (by kernel_rfl) (fun _ _ _ h => h) (Or.inl ⟨by rfl, ?hkb14⟩) (Or.inr (by assumption)) ?rkb14
      case hkb14 => (intro w hSw; (try dsimp only at hSw); go_simp; try with_reducible rfl)
      case' rkb14 => skip
      try simp only [Act.put, List.setIfInBounds_toArray, List.set_cons_zero, List.set_cons_succ]
      refine wpAnyG_pure (i := 15) (v := undef) at15 (by kernel_rfl) (fun _ _ _ h => h) (Or.inr ⟨by rfl, rfl⟩) (by first | assumption | exact Or.inr (by assumption)) ?rkb15
      case' rkb15 => skip
      try simp only [Act.put, List.setIfInBounds_toArray, List.set_cons_zero, List.set_cons_succ]
      refine wpAnyG_pure (i := 16) (v := undef) at16 (by kernel_rfl) (fun _ _ _ h => h) (Or.inr ⟨by rfl, rfl⟩) (by first | assumption | exact Or.inr (by assumption)) ?rkb16
      case' rkb16 => skip
      try simp only [Act.put, List.setIfInBounds_toArray, List.set_cons_zero, List.set_cons_succ]
      refine wpAnyG_pure (i := 17) (v := undef) at17 (by kernel_rfl) (fun _ _ _ h => h) (Or.inr ⟨by rfl, rfl⟩) (by first | assumption | exact Or.inr (by assumption)) ?rkb17
      case' rkb17 => skip
      try simp only [Act.put, List.setIfInBounds_toArray, List.set_cons_zero, List.set_cons_succ]
      refine wpAnyG_pure (i := 18) (v := undef) at18 (by kernel_rfl) (fun _ _ _ h => h) (Or.inr ⟨by rfl, rfl⟩) (by first | assumption | exact Or.inr (by assumption)) ?rkb18
      case' rkb18 => skip
      try simp only [Act.put, List.setIfInBounds_toArray, List.set_cons_zero, List.set_cons_succ]
      refine wpAnyG_pure (i := 19) (v := undef) at19 (by kernel_rfl) (fun _ _ _ h => h) (Or.inr ⟨by rfl, rfl⟩) (by first | assumption | exact Or.inr (by assumption)) ?rkb19
      case' rkb19 => skip
      try simp only [Act.put, List.setIfInBounds_toArray, List.set_cons_zero, List.set_cons_succ]
      refine wpAnyG_pure (i := 20) (v := undef) at20 (by kernel_rfl) (fun _ _ _ h => h) (Or.inr ⟨by rfl, rfl⟩) (by first | assumption | exact Or.inr (by assumption)) ?rkb20
      case' rkb20 => skip
      try simp only [Act.put, List.setIfInBounds_toArray, List.set_cons_zero, List.set_cons_succ]
      refine wpAnyG_pure (i := 21) (v := undef) at21 (by kernel_rfl) (fun _ _ _ h => h) (Or.inr ⟨by rfl, rfl⟩) (by first | assumption | exact Or.inr (by assumption)) ?rkb21
      case' rkb21 => skip
      try simp only [Act.put, List.setIfInBounds_toArray, List.set_cons_zero, List.set_cons_succ]
      refine wpAnyG_pure (i := 22) (v := undef) at22 (by kernel_rfl) (fun _ _ _ h => h) (Or.inr ⟨by rfl, rfl⟩) (by first | assumption | exact Or.inr (by assumption)) ?rkb22
      case' rkb22 => skip
      try simp only [Act.put, List.setIfInBounds_toArray, List.set_cons_zero, List.set_cons_succ]
      refine wpAnyG_pure (i := 23) (v := ?vkb23) at23 (by kernel_rfl) (fun _ _ _ h => h) (Or.inl ⟨by rfl, ?hkb23⟩) (Or.inr (by assumption)) ?rkb23
      case hkb23 => (intro w hSw; (try dsimp only at hSw); go_simp; try with_reducible rfl)
      case' rkb23 => skip
      try simp only [Act.put, List.setIfInBounds_toArray, List.set_cons_zero, List.set_cons_succ]
      refine wpAnyG_one 24 at24 (by kernel_rfl) (fun Kn hK => ?_)
      go_simp
      refine hK.out _ _ (Or.inl (by kernel_rfl)) ?_
      clear hK Kn hS
      refine wpAnyG_done (by kernel_rfl) ?_
      try simp only [Act.put, List.setIfInBounds_toArray, List.set_cons_zero, List.set_cons_succ]
      go_wp2_with fail
      go_ret
      exact ⟨by rw [HCP.out]; simp [f1, f2, f3], HXD.out.below⟩
  | false =>
    cases f2 : (kd == 119) with
    | true =>
      cases f3 : (er == 0) with
      | true =>
        go_wp2_with fail
        refine wp_region_G (fun U : World => U.cell? ⟨w.heap.size + 1, 0, none⟩ = some (.int .u8 kd) ∧ U.cell? ⟨w.heap.size + 1, 2, none⟩ = some (.string s.owner) ∧ U.cell? ⟨w.heap.size, 18, none⟩ = some (.int .i64 er) ∧ U.cell? ⟨G.b, 2, none⟩ = some (.slice A n ca)) [21] (by kernel_rfl) ?_
        rw [hwd]
        clear hwd
        refine wpAnyG_pure (i := 0) (v := ?vkc0) at0 (by kernel_rfl) (fun _ _ _ h => h) (Or.inl ⟨by rfl, ?hkc0⟩) (Or.inr (by assumption)) ?rkc0
        case hkc0 => (intro w hSw; (try dsimp only at hSw); go_simp; try with_reducible rfl)
        case' rkc0 => skip
        try simp only [Act.put, List.setIfInBounds_toArray, List.set_cons_zero, List.set_cons_succ]
        refine wpAnyG_take (ws := [0,1,2,3,4,5,6,7,8,9,10,11,12,13,14,15,16,17,18,19,20]) (i := 1) (v := ?vkc1) at1 (by kernel_rfl) (fun _ _ _ h => h) (Or.inl ⟨by rfl, ?hkc1⟩) (by assumption) ?rkc1
        case hkc1 => (intro w hSw; (try dsimp only at hSw); go_simp; try with_reducible rfl)
        case' rkc1 => skip
        try simp only [Act.put, List.setIfInBounds_toArray, List.set_cons_zero, List.set_cons_succ]
        refine wpAnyG_pure (i := 2) (v := ?vkc2) at2 (by kernel_rfl) (fun _ _ _ h => h) (Or.inl ⟨by rfl, ?hkc2⟩) (Or.inr (by assumption)) ?rkc2
        case hkc2 => (intro w hSw; (try dsimp only at hSw); go_simp; try with_reducible rfl)
        case' rkc2 => skip
        try simp only [Act.put, List.setIfInBounds_toArray, List.set_cons_zero, List.set_cons_succ]
        refine wpAnyG_pure (i := 3) (v := ?vkc3) at3 (by kernel_rfl) (fun _ _ _ h => h) (Or.inl ⟨by rfl, ?hkc3⟩) (Or.inr (by assumption)) ?rkc3
        case hkc3 => (intro w hSw; (try dsimp only at hSw); go_simp; try with_reducible rfl)
        case' rkc3 => skip
        try simp only [Act.put, List.setIfInBounds_toArray, List.set_cons_zero, List.set_cons_succ]
        refine wpAnyG_pure (i := 4) (v := ?vkc4) at4 (by kernel_rfl) (fun _ _ _ h => h) (Or.inl ⟨by rfl, ?hkc4⟩) (Or.inr (by assumption)) ?rkc4
        case hkc4 => (intro w hSw; (try dsimp only at hSw); go_simp; try with_reducible rfl)
        case' rkc4 => skip
        try simp only [Act.put, List.setIfInBounds_toArray, List.set_cons_zero, List.set_cons_succ]
        refine wpAnyG_take (ws := [0,1,2,3,4,5,6,7,8,9,10,11,12,13,14,15,16,17,18,19,20]) (i := 5) (v := ?vkc5) at5 (by kernel_rfl) (fun _ _ _ h => h) (Or.inl ⟨by rfl, ?hkc5⟩) (by assumption) ?rkc5
        case hkc5 => (intro w hSw; (try dsimp only at hSw); go_simp; try with_reducible rfl)
        case' rkc5 => skip
        try simp only [Act.put, List.setIfInBounds_toArray, List.set_cons_zero, List.set_cons_succ]
        refine wpAnyG_pure (i := 6) (v := ?vkc6) at6 (by kernel_rfl) (fun _ _ _ h => h) (Or.inl ⟨by rfl, ?hkc6⟩) (Or.inr (by assumption)) ?rkc6
        case hkc6 => (intro w hSw; (try dsimp only at hSw); go_simp; try with_reducible rfl)
        case' rkc6 => skip
        try simp only [Act.put, List.setIfInBounds_toArray, List.set_cons_zero, List.set_cons_succ]
        refine wpAnyG_pure (i := 7) (v := ?vkc7) at7 (by kernel_rfl) (fun _ _ _ h => h) (Or.inl ⟨by rfl, ?hkc7⟩) (Or.inr (by assumption)) ?rkc7
        case hkc7 => (intro w hSw; (try dsimp only at hSw); go_simp; try with_reducible rfl)
        case' rkc7 => skip
        try simp only [Act.put, List.setIfInBounds_toArray, List.set_cons_zero, List.set_cons_succ]
        refine wpAnyG_pure (i := 8) (v := ?vkc8) at8 (by kernel_rfl) (fun _ _ _ h => h) (Or.inl ⟨by rfl, ?hkc8⟩) (Or.inr (by assumption)) ?rkc8
        case hkc8 => (intro w hSw; (try dsimp only at hSw); go_simp; try with_reducible rfl)
        case' rkc8 => skip
        try simp only [Act.put, List.setIfInBounds_toArray, List.set_cons_zero, List.set_cons_succ]
        refine wpAnyG_pure (i := 9) (v := ?vkc9) at9 (by kernel_rfl) (fun _ _ _ h => h) (Or.inl ⟨by rfl, ?hkc9⟩) (Or.inr (by assumption)) ?rkc9
        case hkc9 => (intro w hSw; (try dsimp only at hSw); go_simp; try with_reducible rfl)
        case' rkc9 => skip
        try simp only [Act.put, List.setIfInBounds_toArray, List.set_cons_zero, List.set_cons_succ]
        refine wpAnyG_pure (i := 10) (v := ?vkc10) at10 (by kernel_rfl) (fun _ _ _ h => h) (Or.inl ⟨by rfl, ?hkc10⟩) (Or.inr (by assumption)) ?rkc10
        case hkc10 => (intro w hSw; (try dsimp only at hSw); go_simp; try with_reducible rfl)
        case' rkc10 => skip
        try simp only [Act.put, List.setIfInBounds_toArray, List.set_cons_zero, List.set_cons_succ]
        refine wpAnyG_take (ws := [0,1,2,3,4,5,6,7,8,9,10,11,12,13,14,15,16,17,18,19,20]) (i := 11) (v := ?vkc11) at11 (by kernel_rfl) (fun _ _ _ h => h) (Or.inl ⟨by rfl, ?hkc11⟩) (by assumption) ?rkc11
        case hkc11 => (intro w hSw; (try dsimp only at hSw); go_simp; try with_reducible rfl)
        case' rkc11 => skip
        try simp only [Act.put, List.setIfInBounds_toArray, List.set_cons_zero, List.set_cons_succ]
        refine wpAnyG_pure (i := 12) (v := ?vkc12) at12 (by kernel_rfl) (fun _ _ _ h => h) (Or.inl ⟨by rfl, ?hkc12⟩) (Or.inr (by assumption)) ?rkc12
        case hkc12 => (intro w hSw; (try dsimp only at hSw); go_simp; try with_reducible rfl)
        case' rkc12 => skip
        try simp only [Act.put, List.setIfInBounds_toArray, List.set_cons_zero, List.set_cons_succ]
        refine wpAnyG_pure (i := 13) (v := ?vkc13) at13 (by kernel_rfl) (fun _ _ _ h => h) (Or.inl ⟨by rfl, ?hkc13⟩) (Or.inr (by assumption)) ?rkc13
        case hkc13 => (intro w hSw; (try dsimp only at hSw); go_simp; try with_reducible rfl)
        case' rkc13 => skip
        try simp only [Act.put, List.setIfInBounds_toArray, List.set_cons_zero, List.set_cons_succ]
        refine wpAnyG_pure (i := 14) (v := ?vkc14) at14 (by kernel_rfl) (fun _ _ _ h => h) (Or.inl ⟨by rfl, ?hkc14⟩) (Or.inr (by assumption)) ?rkc14
        case hkc14 => (intro w hSw; (try dsimp only at hSw); go_simp; try with_reducible rfl)
        case' rkc14 => skip
        try simp only [Act.put, List.setIfInBounds_toArray, List.set_cons_zero, List.set_cons_succ]
        refine wpAnyG_pure (i := 15) (v := ?vkc15) at15 (by kernel_rfl) (fun _ _ _ h => h) (Or.inl ⟨by rfl, ?hkc15⟩) (Or.inr (by assumption)) ?rkc15
        case hkc15 => (intro w hSw; (try dsimp only at hSw); go_simp; try with_reducible rfl)
        case' rkc15 => skip
        try simp only [Act.put, List.setIfInBounds_toArray, List.set_cons_zero, List.set_cons_succ]
        refine wpAnyG_pure (i := 16) (v := ?vkc16) at16 (by kernel_rfl) (fun _ _ _ h => h) (Or.inl ⟨by rfl, ?hkc16⟩) (Or.inr (by assumption)) ?rkc16
        case hkc16 => (intro w hSw; (try dsimp only at hSw); go_simp; try with_reducible rfl)
        case' rkc16 => skip
        try simp only [Act.put, List.setIfInBounds_toArray, List.set_cons_zero, List.set_cons_succ]
        refine wpAnyG_pure (i := 17) (v := ?vkc17) at17 (by kernel_rfl) (fun _ _ _ h => h) (Or.inl ⟨by rfl, ?hkc17⟩) (Or.inr (by assumption)) ?rkc17
        case hkc17 => (intro w hSw; (try dsimp only at hSw); go_simp; try with_reducible rfl)
        case' rkc17 => skip
        try simp only [Act.put, List.setIfInBounds_toArray, List.set_cons_zero, List.set_cons_succ]
        refine wpAnyG_take (ws := [0,1,2,3,4,5,6,7,8,9,10,11,12,13,14,15,16,17,18,19,20]) (i := 18) (v := ?vkc18) at18 (by kernel_rfl) (fun _ _ _ h => h) (Or.inl ⟨by rfl, ?hkc18⟩) (by assumption) ?rkc18
        case hkc18 => (intro w hSw; (try dsimp only at hSw); go_simp; try with_reducible rfl)
        case' rkc18 => skip
        try simp only [Act.put, List.setIfInBounds_toArray, List.set_cons_zero, List.set_cons_succ]
        refine wpAnyG_pure (i := 19) (v := ?vkc19) at19 (by kernel_rfl) (fun _ _ _ h => h) (Or.inl ⟨by rfl, ?hkc19⟩) (Or.inr (by assumption)) ?rkc19
        case hkc19 => (intro w hSw; (try dsimp only at hSw); go_simp; try with_reducible rfl)
        case' rkc19 => skip
        try simp only [Act.put, List.setIfInBounds_toArray, List.set_cons_zero, List.set_cons_succ]
        refine wpAnyG_take (ws := [0,1,2,3,4,5,6,7,8,9,10,11,12,13,14,15,16,17,18,19,20]) (i := 20) (v := ?vkc20) at20 (by kernel_rfl) (fun _ _ _ h => h) (Or.inl ⟨by rfl, ?hkc20⟩) (by assumption) ?rkc20
        case hkc20 => (intro w hSw; (try dsimp only at hSw); go_simp; try with_reducible rfl)
        case' rkc20 => skip
        try simp only [Act.put, List.setIfInBounds_toArray, List.set_cons_zero, List.set_cons_succ]
        refine wpAnyG_one 21 at21 (by kernel_rfl) (fun Kn hK => ?_)
        go_simp
        refine HCT.out.mono ?_
        rintro e w4 ⟨rfl, hw4⟩
        obtain rfl : w4 = wd := hw4.symm
        clear hw4
        refine hK.out _ _ (Or.inl (by kernel_rfl)) ?_
        clear hK Kn
        try simp only [Act.put, List.setIfInBounds_toArray, List.set_cons_zero, List.set_cons_succ]
        refine wpAnyG_one 22 at22 (by kernel_rfl) (fun Kn hK => ?_)
        go_simp
        refine hK.out _ _ (Or.inl (by kernel_rfl)) ?_
        clear hK Kn
        try simp only [Act.put, List.setIfInBounds_toArray, List.set_cons_zero, List.set_cons_succ]
        refine wpAnyG_one 23 at23 (by kernel_rfl) (fun Kn hK => ?_)
        go_simp
        refine hK.out _ _ (Or.inl (by kernel_rfl)) ?_
        clear hK Kn
        try simp only [Act.put, List.setIfInBounds_toArray, List.set_cons_zero, List.set_cons_succ]
        refine wpAnyG_one 24 at24 (by kernel_rfl) (fun Kn hK => ?_)
        go_simp
        refine hK.out _ _ (Or.inl (by kernel_rfl)) ?_
        clear hK Kn hS
        refine wpAnyG_done (by kernel_rfl) ?_
        try simp only [Act.put, List.setIfInBounds_toArray, List.set_cons_zero, List.set_cons_succ]
        go_wp2_with fail
        go_ret
        exact ⟨by rw [HCP.out]; simp [f1, f2, f3], HXD.out.below⟩
      | false =>
        go_wp2_with fail
        refine wp_region_G (fun U : World => U.cell? ⟨w.heap.size + 1, 0, none⟩ = some (.int .u8 kd) ∧ U.cell? ⟨w.heap.size + 1, 2, none⟩ = some (.string s.owner) ∧ U.cell? ⟨w.heap.size, 18, none⟩ = some (.int .i64 er) ∧ U.cell? ⟨G.b, 2, none⟩ = some (.slice A n ca)) [24] (by kernel_rfl) ?_
        rw [hwd]
        clear hwd
        refine wpAnyG_pure (i := 0) (v := ?vkd0) at0 (by kernel_rfl) (fun _ _ _ h => h) (Or.inl ⟨by rfl, ?hkd0⟩) (Or.inr (by assumption)) ?rkd0
        case hkd0 => (intro w hSw; (try dsimp only at hSw); go_simp; try with_reducible rfl)
        case' rkd0 => skip
        try simp only [Act.put, List.setIfInBounds_toArray, List.set_cons_zero, List.set_cons_succ]
        refine wpAnyG_take (ws := [0,1,2,3,4,5,6,7,8,9,10,11,12,13,14,15,16,17,18,19,20,21,22,23]) (i := 1) (v := ?vkd1) at1 (by kernel_rfl) (fun _ _ _ h => h) (Or.inl ⟨by rfl, ?hkd1⟩) (by assumption) ?rkd1
        case hkd1 => (intro w hSw; (try dsimp only at hSw); go_simp; try with_reducible rfl)
        case' rkd1 => skip
        try simp only [Act.put, List.setIfInBounds_toArray, List.set_cons_zero, List.set_cons_succ]
        refine wpAnyG_pure (i := 2) (v := ?vkd2) at2 (by kernel_rfl) (fun _ _ _ h => h) (Or.inl ⟨by rfl, ?hkd2⟩) (Or.inr (by assumption)) ?rkd2
        case hkd2 => (intro w hSw; (try dsimp only at hSw); go_simp; try with_reducible rfl)
        case' rkd2 => skip
        try simp only [Act.put, List.setIfInBounds_toArray, List.set_cons_zero, List.set_cons_succ]
        refine wpAnyG_pure (i := 3) (v := ?vkd3) at3 (by kernel_rfl) (fun _ _ _ h => h) (Or.inl ⟨by rfl, ?hkd3⟩) (Or.inr (by assumption)) ?rkd3
        case hkd3 => (intro w hSw; (try dsimp only at hSw); go_simp; try with_reducible rfl)
        case' rkd3 => skip
        try simp only [Act.put, List.setIfInBounds_toArray, List.set_cons_zero, List.set_cons_succ]
        refine wpAnyG_pure (i := 4) (v := ?vkd4) at4 (by kernel_rfl) (fun _ _ _ h => h) (Or.inl ⟨by rfl, ?hkd4⟩) (Or.inr (by assumption)) ?rkd4
        case hkd4 => (intro w hSw; (try dsimp only at hSw); go_simp; try with_reducible rfl)
        case' rkd4 => skip
        try simp only [Act.put, List.setIfInBounds_toArray, List.set_cons_zero, List.set_cons_succ]
        refine wpAnyG_take (ws := [0,1,2,3,4,5,6,7,8,9,10,11,12,13,14,15,16,17,18,19,20,21,22,23]) (i := 5) (v := ?vkd5) at5 (by kernel_rfl) (fun _ _ _ h => h) (Or.inl ⟨by rfl, ?hkd5⟩) (by assumption) ?rkd5
        case hkd5 => (intro w hSw; (try dsimp only at hSw); go_simp; try with_reducible rfl)
        case' rkd5 => skip
        try simp only [Act.put, List.setIfInBounds_toArray, List.set_cons_zero, List.set_cons_succ]
        refine wpAnyG_pure (i := 6) (v := ?vkd6) at6 (by kernel_rfl) (fun _ _ _ h => h) (Or.inl ⟨by rfl, ?hkd6⟩) (Or.inr (by assumption)) ?rkd6
        case hkd6 => (intro w hSw; (try dsimp only at hSw); go_simp; try with_reducible rfl)
        case' rkd6 => skip
        try simp only [Act.put, List.setIfInBounds_toArray, List.set_cons_zero, List.set_cons_succ]
        refine wpAnyG_pure (i := 7) (v := ?vkd7) at7 (by kernel_rfl) (fun _ _ _ h => h) (Or.inl ⟨by rfl, ?hkd7⟩) (Or.inr (by assumption)) ?rkd7
        case hkd7 => (intro w hSw; (try dsimp only at hSw); go_simp; try with_reducible rfl)
        case' rkd7 => skip
        try simp only [Act.put, List.setIfInBounds_toArray, List.set_cons_zero, List.set_cons_succ]
        refine wpAnyG_pure (i := 8) (v := ?vkd8) at8 (by kernel_rfl) (fun _ _ _ h => h) (Or.inl ⟨by rfl, ?hkd8⟩) (Or.inr (by assumption)) ?rkd8
        case hkd8 => (intro w hSw; (try dsimp only at hSw); go_simp; try with_reducible rfl)
        case' rkd8 => skip
        try simp only [Act.put, List.setIfInBounds_toArray, List.set_cons_zero, List.set_cons_succ]
        refine wpAnyG_pure (i := 9) (v := ?vkd9) at9 (by kernel_rfl) (fun _ _ _ h => h) (Or.inl ⟨by rfl, ?hkd9⟩) (Or.inr (by assumption)) ?rkd9
        case hkd9 => (intro w hSw; (try dsimp only at hSw); go_simp; try with_reducible rfl)
        case' rkd9 => skip
        try simp only [Act.put, List.setIfInBounds_toArray, List.set_cons_zero, List.set_cons_succ]
        refine wpAnyG_pure (i := 10) (v := ?vkd10) at10 (by kernel_rfl) (fun _ _ _ h => h) (Or.inl ⟨by rfl, ?hkd10⟩) (Or.inr (by assumption)) ?rkd10
        case hkd10 => (intro w hSw; (try dsimp only at hSw); go_simp; try with_reducible rfl)
        case' rkd10 => skip
        try simp only [Act.put, List.setIfInBounds_toArray, List.set_cons_zero, List.set_cons_succ]
        refine wpAnyG_take (ws := [0,1,2,3,4,5,6,7,8,9,10,11,12,13,14,15,16,17,18,19,20,21,22,23]) (i := 11) (v := ?vkd11) at11 (by kernel_rfl) (fun _ _ _ h => h) (Or.inl ⟨by rfl, ?hkd11⟩) (by assumption) ?rkd11
        case hkd11 => (intro w hSw; (try dsimp only at hSw); go_simp; try with_reducible rfl)
        case' rkd11 => skip
        try simp only [Act.put, List.setIfInBounds_toArray, List.set_cons_zero, List.set_cons_succ]
        refine wpAnyG_pure (i := 12) (v := ?vkd12) at12 (by kernel_rfl) (fun _ _ _ h => h) (Or.inl ⟨by rfl, ?hkd12⟩) (Or.inr (by assumption)) ?rkd12
        case hkd12 => (intro w hSw; (try dsimp only at hSw); go_simp; try with_reducible rfl)
        case' rkd12 => skip
        try simp only [Act.put, List.setIfInBounds_toArray, List.set_cons_zero, List.set_cons_succ]
        refine wpAnyG_pure (i := 13) (v := ?vkd13) at13 (by kernel_rfl) (fun _ _ _ h => h) (Or.inl ⟨by rfl, ?hkd13⟩) (Or.inr (by assumption)) ?rkd13
        case hkd13 => (intro w hSw; (try dsimp only at hSw); go_simp; try with_reducible rfl)
        case' rkd13 => skip
        try simp only [Act.put, List.setIfInBounds_toArray, List.set_cons_zero, List.set_cons_succ]
        refine wpAnyG_pure (i := 14) (v := ?vkd14) at14 (by kernel_rfl) (fun _ _ _ h => h) (Or.inl ⟨by rfl, ?hkd14⟩) (Or.inr (by assumption)) ?rkd14
        case hkd14 => (intro w hSw; (try dsimp only at hSw); go_simp; try with_reducible rfl)
        case' rkd14 => skip
        try simp only [Act.put, List.setIfInBounds_toArray, List.set_cons_zero, List.set_cons_succ]
        refine wpAnyG_pure (i := 15) (v := undef) at15 (by kernel_rfl) (fun _ _ _ h => h) (Or.inr ⟨by rfl, rfl⟩) (by first | assumption | exact Or.inr (by assumption)) ?rkd15
        case' rkd15 => skip
        try simp only [Act.put, List.setIfInBounds_toArray, List.set_cons_zero, List.set_cons_succ]
        refine wpAnyG_pure (i := 16) (v := undef) at16 (by kernel_rfl) (fun _ _ _ h => h) (Or.inr ⟨by rfl, rfl⟩) (by first | assumption | exact Or.inr (by assumption)) ?rkd16
        case' rkd16 => skip
        try simp only [Act.put, List.setIfInBounds_toArray, List.set_cons_zero, List.set_cons_succ]
        refine wpAnyG_pure (i := 17) (v := undef) at17 (by kernel_rfl) (fun _ _ _ h => h) (Or.inr ⟨by rfl, rfl⟩) (by first | assumption | exact Or.inr (by assumption)) ?rkd17
        case' rkd17 => skip
        try simp only [Act.put, List.setIfInBounds_toArray, List.set_cons_zero, List.set_cons_succ]
        refine wpAnyG_pure (i := 18) (v := undef) at18 (by kernel_rfl) (fun _ _ _ h => h) (Or.inr ⟨by rfl, rfl⟩) (by first | assumption | exact Or.inr (by assumption)) ?rkd18
        case' rkd18 => skip
        try simp only [Act.put, List.setIfInBounds_toArray, List.set_cons_zero, List.set_cons_succ]
        refine wpAnyG_pure (i := 19) (v := undef) at19 (by kernel_rfl) (fun _ _ _ h => h) (Or.inr ⟨by rfl, rfl⟩) (by first | assumption | exact Or.inr (by assumption)) ?rkd19
        case' rkd19 => skip
        try simp only [Act.put, List.setIfInBounds_toArray, List.set_cons_zero, List.set_cons_succ]
        refine wpAnyG_pure (i := 20) (v := undef) at20 (by kernel_rfl) (fun _ _ _ h => h) (Or.inr ⟨by rfl, rfl⟩) (by first | assumption | exact Or.inr (by assumption)) ?rkd20
        case' rkd20 => skip
        try simp only [Act.put, List.setIfInBounds_toArray, List.set_cons_zero, List.set_cons_succ]
        refine wpAnyG_pure (i := 21) (v := undef) at21 (by kernel_rfl) (fun _ _ _ h => h) (Or.inr ⟨by rfl, rfl⟩) (by first | assumption | exact Or.inr (by assumption)) ?rkd21
        case' rkd21 => skip
        try simp only [Act.put, List.setIfInBounds_toArray, List.set_cons_zero, List.set_cons_succ]
        refine wpAnyG_pure (i := 22) (v := undef) at22 (by kernel_rfl) (fun _ _ _ h => h) (Or.inr ⟨by rfl, rfl⟩) (by first | assumption | exact Or.inr (by assumption)) ?rkd22
        case' rkd22 => skip
        try simp only [Act.put, List.setIfInBounds_toArray, List.set_cons_zero, List.set_cons_succ]
        refine wpAnyG_pure (i := 23) (v := ?vkd23) at23 (by kernel_rfl) (fun _ _ _ h => h) (Or.inl ⟨by rfl, ?hkd23⟩) (Or.inr (by assumption)) ?rkd23
        case hkd23 => (intro w hSw; (try dsimp only at hSw); go_simp; try with_reducible rfl)
        case' rkd23 => skip
        try simp only [Act.put, List.setIfInBounds_toArray, List.set_cons_zero, List.set_cons_succ]
        refine wpAnyG_one 24 at24 (by kernel_rfl) (fun Kn hK => ?_)
        go_simp
        refine hK.out _ _ (Or.inl (by kernel_rfl)) ?_
        clear hK Kn hS
        refine wpAnyG_done (by kernel_rfl) ?_
        try simp only [Act.put, List.setIfInBounds_toArray, List.set_cons_zero, List.set_cons_succ]
        go_wp2_with fail
        go_ret
        exact ⟨by rw [HCP.out]; simp [f1, f2, f3], HXD.out.below⟩
    | false =>
      go_wp2_with fail
      refine wp_region_G (fun U : World => U.cell? ⟨w.heap.size + 1, 0, none⟩ = some (.int .u8 kd) ∧ U.cell? ⟨w.heap.size + 1, 2, none⟩ = some (.string s.owner) ∧ U.cell? ⟨w.heap.size, 18, none⟩ = some (.int .i64 er) ∧ U.cell? ⟨G.b, 2, none⟩ = some (.slice A n ca)) [24] (by kernel_rfl) ?_
      rw [hwd]
      clear hwd
      refine wpAnyG_pure (i := 0) (v := ?vke0) at0 (by kernel_rfl) (fun _ _ _ h => h) (Or.inl ⟨by rfl, ?hke0⟩) (Or.inr (by assumption)) ?rke0
      case hke0 => (intro w hSw; (try dsimp only at hSw); go_simp; try with_reducible rfl)
      case' rke0 => skip
      try simp only [Act.put, List.setIfInBounds_toArray, List.set_cons_zero, List.set_cons_succ]
      refine wpAnyG_take (ws := [0,1,2,3,4,5,6,7,8,9,10,11,12,13,14,15,16,17,18,19,20,21,22,23]) (i := 1) (v := ?vke1) at1 (by kernel_rfl) (fun _ _ _ h => h) (Or.inl ⟨by rfl, ?hke1⟩) (by assumption) ?rke1
      case hke1 => (intro w hSw; (try dsimp only at hSw); go_simp; try with_reducible rfl)
      case' rke1 => skip
      try simp only [Act.put, List.setIfInBounds_toArray, List.set_cons_zero, List.set_cons_succ]
      refine wpAnyG_pure (i := 2) (v := ?vke2) at2 (by kernel_rfl) (fun _ _ _ h => h) (Or.inl ⟨by rfl, ?hke2⟩) (Or.inr (by assumption)) ?rke2
      case hke2 => (intro w hSw; (try dsimp only at hSw); go_simp; try with_reducible rfl)
      case' rke2 => skip
      try simp only [Act.put, List.setIfInBounds_toArray, List.set_cons_zero, List.set_cons_succ]
      refine wpAnyG_pure (i := 3) (v := ?vke3) at3 (by kernel_rfl) (fun _ _ _ h => h) (Or.inl ⟨by rfl, ?hke3⟩) (Or.inr (by assumption)) ?rke3
      case hke3 => (intro w hSw; (try dsimp only at hSw); go_simp; try with_reducible rfl)
      case' rke3 => skip
      try simp only [Act.put, List.setIfInBounds_toArray, List.set_cons_zero, List.set_cons_succ]
      refine wpAnyG_pure (i := 4) (v := ?vke4) at4 (by kernel_rfl) (fun _ _ _ h => h) (Or.inl ⟨by rfl, ?hke4⟩) (Or.inr (by assumption)) ?rke4
      case hke4 => (intro w hSw; (try dsimp only at hSw); go_simp; try with_reducible rfl)
      case' rke4 => skip
      try simp only [Act.put, List.setIfInBounds_toArray, List.set_cons_zero, List.set_cons_succ]
      refine wpAnyG_take (ws := [0,1,2,3,4,5,6,7,8,9,10,11,12,13,14,15,16,17,18,19,20,21,22,23]) (i := 5) (v := ?vke5) at5 (by kernel_rfl) (fun _ _ _ h => h) (Or.inl ⟨by rfl, ?hke5⟩) (by assumption) ?rke5
      case hke5 => (intro w hSw; (try dsimp only at hSw); go_simp; try with_reducible rfl)
      case' rke5 => skip
      try simp only [Act.put, List.setIfInBounds_toArray, List.set_cons_zero, List.set_cons_succ]
      refine wpAnyG_pure (i := 6) (v := ?vke6) at6 (by kernel_rfl) (fun _ _ _ h => h) (Or.inl ⟨by rfl, ?hke6⟩) (Or.inr (by assumption)) ?rke6
      case hke6 => (intro w hSw; (try dsimp only at hSw); go_simp; try with_reducible rfl)
      case' rke6 => skip
      try simp only [Act.put, List.setIfInBounds_toArray, List.set_cons_zero, List.set_cons_succ]
      refine wpAnyG_pure (i := 7) (v := ?vke7) at7 (by kernel_rfl) (fun _ _ _ h => h) (Or.inl ⟨by rfl, ?hke7⟩) (Or.inr (by assumption)) ?rke7
      case hke7 => (intro w hSw; (try dsimp only at hSw); go_simp; try with_reducible rfl)
      case' rke7 => skip
      try simp only [Act.put, List.setIfInBounds_toArray, List.set_cons_zero, List.set_cons_succ]
      refine wpAnyG_pure (i := 8) (v := ?vke8) at8 (by kernel_rfl) (fun _ _ _ h => h) (Or.inl ⟨by rfl, ?hke8⟩) (Or.inr (by assumption)) ?rke8
      case hke8 => (intro w hSw; (try dsimp only at hSw); go_simp; try with_reducible rfl)
      case' rke8 => skip
      try simp only [Act.put, List.setIfInBounds_toArray, List.set_cons_zero, List.set_cons_succ]
      refine wpAnyG_pure (i := 9) (v := undef) at9 (by kernel_rfl) (fun _ _ _ h => h) (Or.inr ⟨by rfl, rfl⟩) (by first | assumption | exact Or.inr (by assumption)) ?rke9
      case' rke9 => skip
      try simp only [Act.put, List.setIfInBounds_toArray, List.set_cons_zero, List.set_cons_succ]
      refine wpAnyG_pure (i := 10) (v := undef) at10 (by kernel_rfl) (fun _ _ _ h => h) (Or.inr ⟨by rfl, rfl⟩) (by first | assumption | exact Or.inr (by assumption)) ?rke10
      case' rke10 => skip
      try simp only [Act.put, List.setIfInBounds_toArray, List.set_cons_zero, List.set_cons_succ]
      refine wpAnyG_pure (i := 11) (v := undef) at11 (by kernel_rfl) (fun _ _ _ h => h) (Or.inr ⟨by rfl, rfl⟩) (by first | assumption | exact Or.inr (by assumption)) ?rke11
      case' rke11 => skip
      try simp only [Act.put, List.setIfInBounds_toArray, List.set_cons_zero, List.set_cons_succ]
      refine wpAnyG_pure (i := 12) (v := undef) at12 (by kernel_rfl) (fun _ _ _ h => h) (Or.inr ⟨by rfl, rfl⟩) (by first | assumption | exact Or.inr (by assumption)) ?rke12
      case' rke12 => skip
      try simp only [Act.put, List.setIfInBounds_toArray, List.set_cons_zero, List.set_cons_succ]
      refine wpAnyG_pure (i := 13) (v := ?vke13) at13 (by kernel_rfl) (fun _ _ _ h => h) (Or.inl ⟨by rfl, ?hke13⟩) (Or.inr (by assumption)) ?rke13
      case hke13 => (intro w hSw; (try dsimp only at hSw); go_simp; try with_reducible rfl)
      case' rke13 => skip
      try simp only [Act.put, List.setIfInBounds_toArray, List.set_cons_zero, List.set_cons_succ]
      refine wpAnyG_pure (i := 14) (v := ?vke14) at14 (by kernel_rfl) (fun _ _ _ h => h) (Or.inl ⟨by rfl, ?hke14⟩) (Or.inr (by assumption)) ?rke14
      case hke14 => (intro w hSw; (try dsimp only at hSw); go_simp; try with_reducible rfl)
      case' rke14 => skip
      try simp only [Act.put, List.setIfInBounds_toArray, List.set_cons_zero, List.set_cons_succ]
      refine wpAnyG_pure (i := 15) (v := undef) at15 (by kernel_rfl) (fun _ _ _ h => h) (Or.inr ⟨by rfl, rfl⟩) (by first | assumption | exact Or.inr (by assumption)) ?rke15
      case' rke15 => skip
      try simp only [Act.put, List.setIfInBounds_toArray, List.set_cons_zero, List.set_cons_succ]
      refine wpAnyG_pure (i := 16) (v := undef) at16 (by kernel_rfl) (fun _ _ _ h => h) (Or.inr ⟨by rfl, rfl⟩) (by first | assumption | exact Or.inr (by assumption)) ?rke16
      case' rke16 => skip
      try simp only [Act.put, List.setIfInBounds_toArray, List.set_cons_zero, List.set_cons_succ]
      refine wpAnyG_pure (i := 17) (v := undef) at17 (by kernel_rfl) (fun _ _ _ h => h) (Or.inr ⟨by rfl, rfl⟩) (by first | assumption | exact Or.inr (by assumption)) ?rke17
      case' rke17 => skip
      try simp only [Act.put, List.setIfInBounds_toArray, List.set_cons_zero, List.set_cons_succ]
      refine wpAnyG_pure (i := 18) (v := undef) at18 (by kernel_rfl) (fun _ _ _ h => h) (Or.inr ⟨by rfl, rfl⟩) (by first | assumption | exact Or.inr (by assumption)) ?rke18
      case' rke18 => skip
      try simp only [Act.put, List.setIfInBounds_toArray, List.set_cons_zero, List.set_cons_succ]
      refine wpAnyG_pure (i := 19) (v := undef) at19 (by kernel_rfl) (fun _ _ _ h => h) (Or.inr ⟨by rfl, rfl⟩) (by first | assumption | exact Or.inr (by assumption)) ?rke19
      case' rke19 => skip
      try simp only [Act.put, List.setIfInBounds_toArray, List.set_cons_zero, List.set_cons_succ]
      refine wpAnyG_pure (i := 20) (v := undef) at20 (by kernel_rfl) (fun _ _ _ h => h) (Or.inr ⟨by rfl, rfl⟩) (by first | assumption | exact Or.inr (by assumption)) ?rke20
      case' rke20 => skip
      try simp only [Act.put, List.setIfInBounds_toArray, List.set_cons_zero, List.set_cons_succ]
      refine wpAnyG_pure (i := 21) (v := undef) at21 (by kernel_rfl) (fun _ _ _ h => h) (Or.inr ⟨by rfl, rfl⟩) (by first | assumption | exact Or.inr (by assumption)) ?rke21
      case' rke21 => skip
      try simp only [Act.put, List.setIfInBounds_toArray, List.set_cons_zero, List.set_cons_succ]
      refine wpAnyG_pure (i := 22) (v := undef) at22 (by kernel_rfl) (fun _ _ _ h => h) (Or.inr ⟨by rfl, rfl⟩) (by first | assumption | exact Or.inr (by assumption)) ?rke22
      case' rke22 => skip
      try simp only [Act.put, List.setIfInBounds_toArray, List.set_cons_zero, List.set_cons_succ]
      refine wpAnyG_pure (i := 23) (v := ?vke23) at23 (by kernel_rfl) (fun _ _ _ h => h) (Or.inl ⟨by rfl, ?hke23⟩) (Or.inr (by assumption)) ?rke23
      case hke23 => (intro w hSw; (try dsimp only at hSw); go_simp; try with_reducible rfl)
      case' rke23 => skip
      try simp only [Act.put, List.setIfInBounds_toArray, List.set_cons_zero, List.set_cons_succ]
      refine wpAnyG_one 24 at24 (by kernel_rfl) (fun Kn hK => ?_)
      go_simp
      refine hK.out _ _ (Or.inl (by kernel_rfl)) ?_
      clear hK Kn hS
      refine wpAnyG_done (by kernel_rfl) ?_
      try simp only [Act.put, List.setIfInBounds_toArray, List.set_cons_zero, List.set_cons_succ]
      go_wp2_with fail
      go_ret
      exact ⟨by rw [HCP.out]; simp [f1, f2], HXD.out.below⟩
end Go.Proofs.YtgacfkenndhcnaaDoor
namespace Go.Proofs.YtgacfkenndhcnaaDoor
open Go.RowKit
set_option linter.unusedVariables false
set_option linter.unusedSimpArgs false

def LivesRet (w : World) (xs : List LifeM) (e : Ending) (w' : World) : Prop := ∃ (A : Option Addr) (c : Nat) (ys : List LifeM), e = .returned (.slice A ys.length c) ∧ w'.ownsRow 0 44 3 (.slice A ys.length c) ys.length (ys.flatMap outC) ∧ (∀ y ∈ ys, LfAt w' y) ∧ ys.map LifeM.told = xs.map LifeM.told ∧ Below w.heap.size w w'
theorem life_one {w : World} {role : Nat → Role} {k : ByteArray} {i : Nat} {x : LifeM} (h : LifeAt w role k i x) : (lifeV x).toArray.all (·.oneCell') = true := by
  obtain ⟨_, _, e1, _⟩ := own_slice h.mrk
  obtain ⟨_, _, e2, _⟩ := own_slice h.wrd
  obtain ⟨_, _, e3, _⟩ := h.rt.lists.rd
  obtain ⟨_, _, e4, _⟩ := h.rt.lists.wr
  unfold lifeV
  rw [e1, e2, e3, e4]
  simp [Value.oneCell']
theorem mark_one {w : World} {m : MarkM} (h : Lists w m.m.r m.vr m.vw) : (markV m).toArray.all (·.oneCell') = true := by
  obtain ⟨_, _, e3, _⟩ := h.rd
  obtain ⟨_, _, e4, _⟩ := h.wr
  unfold markV
  rw [e3, e4]
  simp [Value.oneCell']
/-- a life in hand, its words copied -/
structure LfCut (w9 : World) (x : LifeM) (wx : World) (Z : Nat) (vd : Value) : Prop where
  blk : wx.heap[Z]? = some (.cells #[.slice none 0 0, vd, .bool x.gone] 44 (0, 0))
  wrd : wx.ownsRow 0 61 3 vd x.ws.length (x.ws.flatMap wordV)
  new : ∀ g, vd.ownBlock = some g → w9.heap.size ≤ g ∧ g ≠ Z
  zl : w9.heap.size ≤ Z
  below : Below w9.heap.size w9 wx
theorem row3c {w : World} {b : Nat} {v0 v1 v2 : Value} {t : TypeId} (h : w.heap[b]? = some (.cells #[v0, v1, v2] t (0, 0))) : w.cell? ⟨b, 0, none⟩ = some v0 ∧ w.cell? ⟨b, 1, none⟩ = some v1 ∧ w.cell? ⟨b, 2, none⟩ = some v2 := by
  refine ⟨?_, ?_, ?_⟩ <;> (rw [cell_of_row _ _ _ _ _ _ h]; rfl)
set_option maxRecDepth 100000 in
set_option maxHeartbeats 8000000 in
theorem lives_calls {w : World} {role : Nat → Role} {G : LedM} {N : Nat} (h : IsLed w role G) (o f : ByteArray) (ho : o.size ≤ 140737488355328) (hf : f.size ≤ 140737488355328) (hP : POk N G.pure) (hN : N ≤ 900) :
    Calls Tryd.prog 8 #[.pointer (some ⟨G.b, 0, none⟩), .string o, .string f] w fun e w' => LivesRet w (G.lives (pathB o f)) e w' := by
  have HH := Lib.hid h
  have HPS := Lib.hid (lives_small hP (pathB o f))
  have HN := Lib.hid hN
  have c3 := h.cells.2.2.2
  obtain ⟨A, c, hrv, hrow⟩ := h.slice (pathB o f)
  have hlk := h.looks (pathB o f)
  obtain ⟨_, _, _, hlife⟩ := h.rowv (pathB o f)
  have e1 : o ++ ⟨#[47]⟩ ++ f = pathB o f := rfl
  obtain ⟨K, hK⟩ : ∃ K, pathB o f = K := ⟨_, rfl⟩
  rw [hK] at hrv hrow hlk hlife e1 HPS ⊢
  obtain ⟨xs, hxs⟩ : ∃ xs, G.lives K = xs := ⟨_, rfl⟩
  rw [hxs] at hrv hrow hlife HPS ⊢
  rw [hrv] at hlk
  obtain ⟨n, hn⟩ : ∃ n, xs.length = n := ⟨_, rfl⟩
  rw [hn] at hrv hrow hlk
  have hnb : n ≤ 900 := by have := HPS.out.1; omega
  have HNX := Lib.hid hn
  have HROW := Lib.hid hrow
  have HLF : Hid (∀ i x, xs[i]? = some x → ∃ v, LifeAt w role K i x ∧ aget G.rows K = some (v, xs)) := Lib.hid fun i x hx => ⟨_, (hlife i x hx).2, (hlife i x hx).1⟩
  have hz1 : ¬ 9223372036854775807 < o.size + 1 := by omega
  have hz2 : ¬ 9223372036854775807 < o.size + 1 + f.size := by omega
  clear h ho hf hP hN hrv hrow hlife hK hxs hn
  go_enter Tryd.func8, Tryd.ntmps8
  go_wp2_with fail
  go_loopw [7, 23] (fun out i wr => ∃ (k : Nat) (done : List LifeM) (Ao : Option Addr) (co : Nat), k ≤ n ∧ i = .int .i64 k ∧ out = .slice Ao k co ∧ Hid (LvRel w xs k (.slice Ao k co) done wr)) (fun _ i _ => n - (intOf i).toNat)
  case atStart => exact ⟨0, [], none, 0, Nat.zero_le _, rfl, rfl, LvRel.start xs⟩
  case round =>
    obtain ⟨k, done, Ao, co, hk, rfl, rfl, HO⟩ := hrel
    by_cases hlt : k < n
    · obtain ⟨x, hx⟩ : ∃ x, xs[k]? = some x := ⟨_, List.getElem?_eq_getElem (by rw [HNX.out]; exact hlt)⟩
      have HX := Lib.hid hx
      obtain ⟨v0, hL0, _⟩ := HLF.out k x hx
      have HL := Lib.hid hL0
      obtain ⟨g, c', hv', _, hcell⟩ := own_block ((Keep.of_below HO.out.below : Keep (fun _ => False) w wr).own HROW.out fun _ _ e => e) (by omega)
      obtain ⟨rfl, rfl⟩ : A = some ⟨g, 0, none⟩ ∧ c = c' := by cases hv'; exact ⟨rfl, rfl⟩
      have HRG : Hid (wr.rangeAt g (k * 9) (lifeV x)) := Lib.hid fun j u hj => (hcell (k * 9 + j) u (by rw [flat_get lifeV_len hx (List.getElem?_eq_some_iff.1 hj).1]; exact hj)).1
      clear hcell hv' hL0 hx
      have HMS : Hid (x.ms.length ≤ 900 ∧ x.ws.length ≤ 900 ∧ ∀ m ∈ x.ms, m.m.r.right = true) := Lib.hid (by
        obtain ⟨a, b, _, d⟩ := HPS.out.2 x (List.mem_of_getElem? HX.out)
        have := HN.out
        exact ⟨by omega, by omega, d⟩)
      go_wp2_with (with_reducible refine wp_stop_load (o := ⟨some 26, .load _ (.tmp 25), _, _, _, _⟩) _ _ rfl ?_)
      unfold Stop
      refine wpList_load_mid rfl _ _ rfl g (k * 9) rfl (lifeV x) _ HRG.out Tryd.underlying59 rfl info_has9 ?_
      obtain ⟨LV, hLV⟩ : ∃ A, (lifeV x).toArray = A := ⟨_, rfl⟩
      have HLV := Lib.hid hLV
      have HL9 : Hid ((Tryd.prog.info? 59).map (·.size) = some LV.size ∧ LV.size = 9 ∧ LV.all (·.oneCell') = true) := Lib.hid (by rw [← hLV]; exact ⟨info_has9, rfl, life_one HL.out⟩)
      rw [hLV]
      clear hLV
      go_wp2_with (with_reducible refine wp_stop_store (o := ⟨none, .store _ (.tmp 9) _, _, _, _, _⟩) _ _ _ rfl ?_)
      unfold Stop
      refine wp_store_all rfl _ _ _ rfl rfl rfl _ _ ((get_alloc _ _ _).trans (if_pos rfl)) HL9.out.1 HL9.out.2.1 HL9.out.2.2 ?_
      intro w9 h9 k9 s9
      have hb9 : Below wr.heap.size wr w9 := below_keep ((Below.refl wr.heap.size wr).alloc (Nat.le_refl _) _) k9
      obtain ⟨wq, rfl⟩ : ∃ y, y = wr := ⟨_, rfl⟩
      obtain ⟨Z9, hZ9⟩ : ∃ Z, wq.heap.size = Z := ⟨_, rfl⟩
      have HB9 := Lib.hid hb9
      rw [hZ9] at h9 ⊢
      have HZ9 := Lib.hid hZ9
      rw [← HLV.out] at h9
      have HR9 : Hid (w9.heap[Z9]? = some (.cells #[x.vm, x.vd, .bool x.gone, .string x.r.owner, .string x.r.file, .int .i64 x.r.epoch, x.vr, x.vw, .int .u64 x.ver] 59 (0, 0))) := Lib.hid h9
      clear h9 k9 s9 hb9 hZ9
      have HCW : Hid (∀ U, Below w9.heap.size w9 U → Calls Tryd.prog 20 #[x.vd] U fun e w' => ∃ v', e = .returned v' ∧ w'.ownsRow U.heap.size 61 3 v' x.ws.length (x.ws.flatMap wordV) ∧ Below U.heap.size U w') := Lib.hid fun U hU => by
        refine clone_words (rows_flat wordV_len ((Keep.of_below (F := fun _ => False) (HO.out.below.trans ((HB9.out.trans (hU.mono HB9.out.size)).mono HO.out.below.size))).own HL.out.wrd fun _ _ e => e)) ?_
        have := HMS.out.2.1; omega
      go_upto_region 5 with fail
      go_simp
      go_cut [10] from 27 to 34 (fun q wx => ∃ Z Ad cd, q = .pointer (some ⟨Z, 0, none⟩) ∧ Hid (LfCut w9 x wx Z (.slice Ad x.ws.length cd)))
      case first =>
        refine wp_region_G (fun W2 => W2.cell? ⟨Z9, 1, none⟩ = some x.vd ∧ W2.cell? ⟨Z9, 2, none⟩ = some (.bool x.gone)) [9] (by kernel_rfl) ?_
        have HSS : Hid (∀ W2, Below w9.heap.size w9 W2 → (W2.cell? ⟨Z9, 1, none⟩ = some x.vd ∧ W2.cell? ⟨Z9, 2, none⟩ = some (.bool x.gone))) := Lib.hid (fun W2 hb => by
          have k := (Keep.of_below hb : Keep (fun _ => False) w9 W2)
          obtain ⟨_, b1, b2, _⟩ := row9h HR9.out
          exact ⟨k.cell b1 fun e => e, k.cell b2 fun e => e⟩)
        have hb0 : Below w9.heap.size w9 w9.drew := (Below.refl w9.heap.size w9).drew
        obtain ⟨wd, hwd⟩ : ∃ x, w9.drew = x := ⟨_, rfl⟩
        rw [hwd] at hb0 ⊢
        clear hwd
        have hS := HSS.out _ hb0
        refine wpAnyG_pure (i := 0) (v := ?vca0) at0 (by kernel_rfl) (fun _ _ _ h => h) (Or.inl ⟨by rfl, ?hca0⟩) (Or.inr (by assumption)) ?rca0
        case hca0 => (intro w hSw; (try dsimp only at hSw); go_simp; try with_reducible rfl)
        case' rca0 => skip
        try simp only [Act.put, List.setIfInBounds_toArray, List.set_cons_zero, List.set_cons_succ]
        refine wpAnyG_pure (i := 1) (v := ?vca1) at1 (by kernel_rfl) (fun _ _ _ h => h) (Or.inl ⟨by rfl, ?hca1⟩) (Or.inr (by assumption)) ?rca1
        case hca1 => (intro w hSw; (try dsimp only at hSw); go_simp; try with_reducible rfl)
        case' rca1 => skip
        try simp only [Act.put, List.setIfInBounds_toArray, List.set_cons_zero, List.set_cons_succ]
        refine wpAnyG_take (ws := [2,6]) (i := 2) (v := ?vca2) at2 (by kernel_rfl) (fun _ _ _ h => h) (Or.inl ⟨by rfl, ?hca2⟩) (by assumption) ?rca2
        case hca2 => (intro w hSw; (try dsimp only at hSw); go_simp; try with_reducible rfl)
        case' rca2 => skip
        try simp only [Act.put, List.setIfInBounds_toArray, List.set_cons_zero, List.set_cons_succ]
        refine wpAnyG_pure (i := 4) (v := ?vca4) at4 (by kernel_rfl) (fun _ _ _ h => h) (Or.inl ⟨by rfl, ?hca4⟩) (Or.inr (by assumption)) ?rca4
        case hca4 => (intro w hSw; (try dsimp only at hSw); go_simp; try with_reducible rfl)
        case' rca4 => skip
        try simp only [Act.put, List.setIfInBounds_toArray, List.set_cons_zero, List.set_cons_succ]
        refine wpAnyG_pure (i := 5) (v := ?vca5) at5 (by kernel_rfl) (fun _ _ _ h => h) (Or.inl ⟨by rfl, ?hca5⟩) (Or.inr (by assumption)) ?rca5
        case hca5 => (intro w hSw; (try dsimp only at hSw); go_simp; try with_reducible rfl)
        case' rca5 => skip
        try simp only [Act.put, List.setIfInBounds_toArray, List.set_cons_zero, List.set_cons_succ]
        refine wpAnyG_take (ws := [2,6]) (i := 6) (v := ?vca6) at6 (by kernel_rfl) (fun _ _ _ h => h) (Or.inl ⟨by rfl, ?hca6⟩) (by assumption) ?rca6
        case hca6 => (intro w hSw; (try dsimp only at hSw); go_simp; try with_reducible rfl)
        case' rca6 => skip
        try simp only [Act.put, List.setIfInBounds_toArray, List.set_cons_zero, List.set_cons_succ]
        refine wpAnyG_two 3 8 at3 at8 (by kernel_rfl) (fun Kn hK => ?_) (fun Kn hK => ?_)
        · skip
          go_simp
          refine (HCW.out wd hb0).mono ?_
          rintro e x1 ⟨vd, rfl, od, hq1⟩
          obtain ⟨Ad, cd, rfl, _, _⟩ := own_slice od
          have hb1 := hb0.trans (hq1.mono hb0.size)
          clear hS
          have hS := HSS.out _ hb1
          refine hK.out _ _ (Or.inr hS) ?_
          clear hK Kn
          try simp only [Act.put, List.setIfInBounds_toArray, List.set_cons_zero, List.set_cons_succ]
          refine wpAnyG_pure (i := 7) (v := ?vcb7) at7 (by kernel_rfl) (fun _ _ _ h => h) (Or.inl ⟨by rfl, ?hcb7⟩) (Or.inr (by assumption)) ?rcb7
          case hcb7 => (intro w hSw; (try dsimp only at hSw); go_simp; try with_reducible rfl)
          case' rcb7 => skip
          try simp only [Act.put, List.setIfInBounds_toArray, List.set_cons_zero, List.set_cons_succ]
          refine wpAnyG_one 8 at8 (by kernel_rfl) (fun Kn hK => ?_)
          go_simp
          obtain ⟨z, hz⟩ : ∃ z, x1.heap.size = z := ⟨_, rfl⟩
          obtain ⟨x2, hx2⟩ : ∃ x, x1.alloc (.cells #[.slice none 0 0, .slice none 0 0, .bool false] 44) = x := ⟨_, rfl⟩
          have hz2 : x2.heap[z]? = some (.cells #[.slice none 0 0, .slice none 0 0, .bool false] 44 (0, 0)) := by rw [← hx2, ← hz, get_alloc, if_pos rfl]
          have hq2 : Below x1.heap.size x1 x2 := by rw [← hx2]; exact (Below.refl _ x1).alloc (Nat.le_refl _) _
          rw [hx2, hz]
          have hb2 := hb1.trans (hq2.mono hb1.size)
          have HOD : Hid (x2.ownsRow 0 61 3 (.slice Ad x.ws.length cd) x.ws.length (x.ws.flatMap wordV) ∧ (∀ g, (Value.slice Ad x.ws.length cd).ownBlock = some g → w9.heap.size ≤ g ∧ g ≠ z) ∧ w9.heap.size ≤ z) := Lib.hid (by
            refine ⟨(Keep.of_below hq2 : Keep (fun _ => False) x1 x2).own (own_base od (Nat.zero_le _)) fun _ _ e => e, fun g hg => ?_, by rw [← hz]; exact hb1.size⟩
            have h1 := World.ownsRow.lt od g hg
            have h2 := hb0.size
            omega)
          have HB2 := Lib.hid hb2
          clear hS hx2 hz hq2 od hb1 hq1
          have hS := HSS.out _ hb2
          refine hK.out _ _ (Or.inr hS) ?_
          clear hK Kn hb2
          try simp only [Act.put, List.setIfInBounds_toArray, List.set_cons_zero, List.set_cons_succ]
          refine wpAnyG_one 9 at9 (by kernel_rfl) (fun Kn hK => ?_)
          refine step_store_all rfl _ _ _ rfl rfl rfl _ _ hz2 info_life3 rfl (by simp [Value.oneCell']) ?_
          intro x3 h3 k3 s3
          refine hK.out _ _ (Or.inl (by kernel_rfl)) ?_
          have HLEAF : Hid (LfCut w9 x x3 z (.slice Ad x.ws.length cd)) := Lib.hid ⟨h3, k3.own HOD.out.1 fun q hq e => (HOD.out.2.1 q hq).2 e, HOD.out.2.1, HOD.out.2.2, below_at HB2.out k3 HOD.out.2.2⟩
          clear hK Kn h3 k3 s3 hS hz2
          refine wpAnyG_done (by kernel_rfl) ?_
          try simp only [Act.put, List.setIfInBounds_toArray, List.set_cons_zero, List.set_cons_succ]
          go_wp2_with fail
          go_meet
          exact ⟨_, _, _, rfl, HLEAF⟩
        · skip
          go_simp
          obtain ⟨z, hz⟩ : ∃ z, wd.heap.size = z := ⟨_, rfl⟩
          obtain ⟨x1, hx1⟩ : ∃ x, wd.alloc (.cells #[.slice none 0 0, .slice none 0 0, .bool false] 44) = x := ⟨_, rfl⟩
          have hz1 : x1.heap[z]? = some (.cells #[.slice none 0 0, .slice none 0 0, .bool false] 44 (0, 0)) := by rw [← hx1, ← hz, get_alloc, if_pos rfl]
          have hq1 : Below wd.heap.size wd x1 := by rw [← hx1]; exact (Below.refl _ wd).alloc (Nat.le_refl _) _
          have hzx : z < x1.heap.size := by rw [← hx1, size_alloc, hz]; exact Nat.lt_succ_self z
          have hzl : w9.heap.size ≤ z := by rw [← hz]; exact hb0.size
          rw [hx1, hz]
          have hb1 := hb0.trans (hq1.mono hb0.size)
          clear hS hx1 hz hq1
          have hS := HSS.out _ hb1
          refine hK.out _ _ (Or.inr hS) ?_
          clear hK Kn
          try simp only [Act.put, List.setIfInBounds_toArray, List.set_cons_zero, List.set_cons_succ]
          refine wpAnyG_one 3 at3 (by kernel_rfl) (fun Kn hK => ?_)
          go_simp
          refine (HCW.out x1 hb1).mono ?_
          rintro e x2 ⟨vd, rfl, od, hq2⟩
          obtain ⟨Ad, cd, rfl, _, _⟩ := own_slice od
          have hb2 := hb1.trans (hq2.mono hb1.size)
          have hz2 := (Keep.of_below hq2 : Keep (fun _ => False) x1 x2).at hz1 fun e => e
          have HOD : Hid (x2.ownsRow 0 61 3 (.slice Ad x.ws.length cd) x.ws.length (x.ws.flatMap wordV) ∧ (∀ g, (Value.slice Ad x.ws.length cd).ownBlock = some g → w9.heap.size ≤ g ∧ g ≠ z) ∧ w9.heap.size ≤ z) := Lib.hid (by
            refine ⟨own_base od (Nat.zero_le _), fun g hg => ?_, hzl⟩
            have h1 := World.ownsRow.lt od g hg
            have h2 := hb1.size
            omega)
          have HB2 := Lib.hid hb2
          clear hS od hb1 hq2 hz1 hzx hzl
          have hS := HSS.out _ hb2
          refine hK.out _ _ (Or.inr hS) ?_
          clear hK Kn hb2
          try simp only [Act.put, List.setIfInBounds_toArray, List.set_cons_zero, List.set_cons_succ]
          refine wpAnyG_pure (i := 7) (v := ?vcc7) at7 (by kernel_rfl) (fun _ _ _ h => h) (Or.inl ⟨by rfl, ?hcc7⟩) (Or.inr (by assumption)) ?rcc7
          case hcc7 => (intro w hSw; (try dsimp only at hSw); go_simp; try with_reducible rfl)
          case' rcc7 => skip
          try simp only [Act.put, List.setIfInBounds_toArray, List.set_cons_zero, List.set_cons_succ]
          refine wpAnyG_one 9 at9 (by kernel_rfl) (fun Kn hK => ?_)
          refine step_store_all rfl _ _ _ rfl rfl rfl _ _ hz2 info_life3 rfl (by simp [Value.oneCell']) ?_
          intro x3 h3 k3 s3
          refine hK.out _ _ (Or.inl (by kernel_rfl)) ?_
          have HLEAF : Hid (LfCut w9 x x3 z (.slice Ad x.ws.length cd)) := Lib.hid ⟨h3, k3.own HOD.out.1 fun q hq e => (HOD.out.2.1 q hq).2 e, HOD.out.2.1, HOD.out.2.2, below_at HB2.out k3 HOD.out.2.2⟩
          clear hK Kn h3 k3 s3 hS hz2
          refine wpAnyG_done (by kernel_rfl) ?_
          try simp only [Act.put, List.setIfInBounds_toArray, List.set_cons_zero, List.set_cons_succ]
          go_wp2_with fail
          go_meet
          exact ⟨_, _, _, rfl, HLEAF⟩
      case rest =>
        obtain ⟨Z, Ad, cd, rfl, HCU0⟩ := hcut
        obtain ⟨w0, hw0, HCU⟩ : ∃ y, y = _ ∧ Hid (LfCut w9 x y Z (.slice Ad x.ws.length cd)) := ⟨_, rfl, HCU0⟩
        subst hw0
        clear HCU0
        obtain ⟨Am, cm, hvm, _, _⟩ := own_slice HL.out.mrk
        obtain ⟨nm, hnm⟩ : ∃ l, x.ms.length = l := ⟨_, rfl⟩
        rw [hnm] at hvm
        have HNM := Lib.hid hnm
        have hnmb : nm ≤ 900 := by rw [← hnm]; exact HMS.out.1
        have z0 : w0.cell? ⟨Z9, 0, none⟩ = some (.slice Am nm cm) := by
          rw [← hvm]
          exact (Keep.of_below HCU.out.below : Keep (fun _ => False) w9 w0).cell (row9h HR9.out).1 fun e => e
        have HVM := Lib.hid hvm
        have HB0 : Hid (Below wq.heap.size wq w0) := Lib.hid (HB9.out.trans (HCU.out.below.mono HB9.out.size))
        have HZ0 : Hid (wq.heap.size ≤ Z ∧ Z < w0.heap.size) := Lib.hid ⟨Nat.le_trans HB9.out.size HCU.out.zl, (Array.getElem?_eq_some_iff.1 HCU.out.blk).1⟩
        have HMK0 := Lib.hid (MkRel.start x.ms HCU.out.blk)
        clear hvm hnm
        go_wp2_with fail
        go_loopw [39] (fun j wr => ∃ (k2 : Nat) (dm : List MarkM) (A2 : Option Addr) (c2 : Nat), k2 ≤ nm ∧ j = .int .i64 k2 ∧ Hid (MkRel w0 Z x.ms (.slice Ad x.ws.length cd) x.gone k2 (.slice A2 k2 c2) dm wr)) (fun j _ => nm - (intOf j).toNat)
        case atStart => exact ⟨0, [], none, 0, Nat.zero_le _, rfl, HMK0⟩
        case round =>
          obtain ⟨k2, dm, A2, c2, hk2, rfl, HI⟩ := hrel
          by_cases hlt2 : k2 < nm
          · obtain ⟨m, hm⟩ : ∃ m, x.ms[k2]? = some m := ⟨_, List.getElem?_eq_getElem (by rw [HNM.out]; exact hlt2)⟩
            have HM := Lib.hid hm
            have HKW : Hid (Keep (fun q => w.heap.size ≤ q) w wr) := Lib.hid (((Keep.of_below HO.out.below).trans (Keep.of_below HB0.out : Keep (fun _ => False) wq w0) fun q e => e.elim).trans HI.out.keep fun q e => Or.inl (by have := HZ0.out.1; have := HO.out.below.size; omega))
            have hown := HKW.out.own HL.out.mrk fun q hq e => by have := (World.ownsRow.lt HL.out.mrk q hq).2; omega
            rw [HVM.out] at hown
            obtain ⟨gm, cm', hv', _, hcell⟩ := own_block hown (by rw [HNM.out]; omega)
            rw [HNM.out] at hv'
            obtain ⟨rfl, rfl⟩ : Am = some ⟨gm, 0, none⟩ ∧ cm = cm' := by cases hv'; exact ⟨rfl, rfl⟩
            have HRM : Hid (wr.rangeAt gm (k2 * 7) (markV m)) := Lib.hid fun j u hj => (hcell (k2 * 7 + j) u (by rw [flat_get markV_len hm (List.getElem?_eq_some_iff.1 hj).1]; exact hj)).1
            have HLM := Lib.hid (HL.out.mls m (List.mem_of_getElem? hm))
            have HRR := Lib.hid (HMS.out.2.2 m (List.mem_of_getElem? hm))
            clear hcell hv' hown hm
            go_wp2_with (with_reducible refine wp_stop_load (o := ⟨some 42, .load _ (.tmp 41), _, _, _, _⟩) _ _ rfl ?_)
            unfold Stop
            refine wpList_load_mid rfl _ _ rfl gm (k2 * 7) rfl (markV m) _ HRM.out Tryd.underlying48 rfl info_mark7 ?_
            obtain ⟨MV, hMV⟩ : ∃ A, (markV m).toArray = A := ⟨_, rfl⟩
            have HMV := Lib.hid hMV
            have HM7 : Hid ((Tryd.prog.info? 48).map (·.size) = some MV.size ∧ MV.size = 7 ∧ MV.all (·.oneCell') = true) := Lib.hid (by rw [← hMV]; exact ⟨info_mark7, rfl, mark_one HLM.out.lists⟩)
            rw [hMV]
            clear hMV
            go_wp2_with (with_reducible refine wp_stop_store (o := ⟨none, .store _ (.tmp 12) _, _, _, _, _⟩) _ _ _ rfl ?_)
            unfold Stop
            refine wp_store_all rfl _ _ _ rfl rfl rfl _ _ ((get_alloc _ _ _).trans (if_pos rfl)) HM7.out.1 HM7.out.2.1 HM7.out.2.2 ?_
            intro wm h12 k12 s12
            have hb12 : Below wr.heap.size wr wm := below_keep ((Below.refl wr.heap.size wr).alloc (Nat.le_refl _) _) k12
            obtain ⟨Y, hY⟩ : ∃ Z, wr.heap.size = Z := ⟨_, rfl⟩
            have HB12 := Lib.hid hb12
            rw [hY] at h12 ⊢
            have HY := Lib.hid hY
            rw [← HMV.out] at h12
            have HR12 : Hid (wm.heap[Y]? = some (.cells #[.int .u64 m.m.t, .int .u64 m.m.v, .string m.m.r.owner, .string m.m.r.file, .int .i64 m.m.r.epoch, m.vr, m.vw] 48 (0, 0))) := Lib.hid h12
            clear h12 k12 s12 hb12 hY
            have HCS : Hid (∀ U, Below wm.heap.size wm U → strs U m.vr m.m.r.rd ∧ strs U m.vw m.m.r.wr) := Lib.hid fun U hU => by
              have KK : Keep (fun q => w.heap.size ≤ q) w U := (HKW.out.trans (Keep.of_below HB12.out : Keep (fun _ => False) wr wm) fun q e => e.elim).trans (Keep.of_below hU : Keep (fun _ => False) wm U) fun q e => e.elim
              exact ⟨HLM.out.lists.rd.keep2 KK fun _ b hb _ e => by omega, HLM.out.lists.wr.keep2 KK fun _ b hb _ e => by omega⟩
            have HLN : Hid (m.m.r.rd.length + m.m.r.wr.length ≤ 5) := Lib.hid (Rt.right_good HRR.out).len
            have hb0 : Below wm.heap.size wm wm.drew := (Below.refl wm.heap.size wm).drew
            obtain ⟨wd, hwd⟩ : ∃ x, wm.drew = x := ⟨_, rfl⟩
            rw [hwd] at hb0
            have HSS : Hid (∀ W2, Below wm.heap.size wm W2 → (W2.cell? ⟨Y, 5, none⟩ = some m.vr ∧ W2.cell? ⟨Y, 6, none⟩ = some m.vw)) := Lib.hid (fun W2 hb => by
              have k := (Keep.of_below hb : Keep (fun _ => False) wm W2)
              exact ⟨k.cell (by rw [cell_of_row _ _ _ _ _ _ HR12.out]; rfl) fun e => e, k.cell (by rw [cell_of_row _ _ _ _ _ _ HR12.out]; rfl) fun e => e⟩)
            have hS := HSS.out _ hb0
            go_wp2_with fail
            refine wp_region_G (fun W2 => W2.cell? ⟨Y, 5, none⟩ = some m.vr ∧ W2.cell? ⟨Y, 6, none⟩ = some m.vw) [10, 13] (by kernel_rfl) ?_
            rw [hwd]
            clear hwd
            refine wpAnyG_pure (i := 0) (v := ?vcd0) at0 (by kernel_rfl) (fun _ _ _ h => h) (Or.inl ⟨by rfl, ?hcd0⟩) (Or.inr (by assumption)) ?rcd0
            case hcd0 => (intro w hSw; (try dsimp only at hSw); go_simp; try with_reducible rfl)
            case' rcd0 => skip
            try simp only [Act.put, List.setIfInBounds_toArray, List.set_cons_zero, List.set_cons_succ]
            refine wpAnyG_pure (i := 1) (v := ?vcd1) at1 (by kernel_rfl) (fun _ _ _ h => h) (Or.inl ⟨by rfl, ?hcd1⟩) (Or.inr (by assumption)) ?rcd1
            case hcd1 => (intro w hSw; (try dsimp only at hSw); go_simp; try with_reducible rfl)
            case' rcd1 => skip
            try simp only [Act.put, List.setIfInBounds_toArray, List.set_cons_zero, List.set_cons_succ]
            refine wpAnyG_take (ws := [2,6]) (i := 2) (v := ?vcd2) at2 (by kernel_rfl) (fun _ _ _ h => h) (Or.inl ⟨by rfl, ?hcd2⟩) (by assumption) ?rcd2
            case hcd2 => (intro w hSw; (try dsimp only at hSw); go_simp; try with_reducible rfl)
            case' rcd2 => skip
            try simp only [Act.put, List.setIfInBounds_toArray, List.set_cons_zero, List.set_cons_succ]
            refine wpAnyG_pure (i := 4) (v := ?vcd4) at4 (by kernel_rfl) (fun _ _ _ h => h) (Or.inl ⟨by rfl, ?hcd4⟩) (Or.inr (by assumption)) ?rcd4
            case hcd4 => (intro w hSw; (try dsimp only at hSw); go_simp; try with_reducible rfl)
            case' rcd4 => skip
            try simp only [Act.put, List.setIfInBounds_toArray, List.set_cons_zero, List.set_cons_succ]
            refine wpAnyG_pure (i := 5) (v := ?vcd5) at5 (by kernel_rfl) (fun _ _ _ h => h) (Or.inl ⟨by rfl, ?hcd5⟩) (Or.inr (by assumption)) ?rcd5
            case hcd5 => (intro w hSw; (try dsimp only at hSw); go_simp; try with_reducible rfl)
            case' rcd5 => skip
            try simp only [Act.put, List.setIfInBounds_toArray, List.set_cons_zero, List.set_cons_succ]
            refine wpAnyG_take (ws := [2,6]) (i := 6) (v := ?vcd6) at6 (by kernel_rfl) (fun _ _ _ h => h) (Or.inl ⟨by rfl, ?hcd6⟩) (by assumption) ?rcd6
            case hcd6 => (intro w hSw; (try dsimp only at hSw); go_simp; try with_reducible rfl)
            case' rcd6 => skip
            try simp only [Act.put, List.setIfInBounds_toArray, List.set_cons_zero, List.set_cons_succ]
            refine wpAnyG_one 3 at3 (by kernel_rfl) (fun Kn hK => ?_)
            go_simp
            refine (clone_strs (HCS.out wd hb0).1 (by have := HLN.out; omega)).mono ?_
            rintro e x1 ⟨v1, rfl, o1, hq1⟩
            obtain ⟨Ar, cr, rfl, _, _⟩ := own_slice o1
            have hb1 := hb0.trans (hq1.mono hb0.size)
            clear hS
            have hS := HSS.out _ hb1
            refine hK.out _ _ (Or.inr hS) ?_
            clear hK Kn
            try simp only [Act.put, List.setIfInBounds_toArray, List.set_cons_zero, List.set_cons_succ]
            refine wpAnyG_pure (i := 8) (v := ?vce8) at8 (by kernel_rfl) (fun _ _ _ h => h) (Or.inl ⟨by rfl, ?hce8⟩) (Or.inr (by assumption)) ?rce8
            case hce8 => (intro w hSw; (try dsimp only at hSw); go_simp; try with_reducible rfl)
            case' rce8 => skip
            try simp only [Act.put, List.setIfInBounds_toArray, List.set_cons_zero, List.set_cons_succ]
            refine wpAnyG_pure (i := 9) (v := ?vce9) at9 (by kernel_rfl) (fun _ _ _ h => h) (Or.inl ⟨by rfl, ?hce9⟩) (Or.inr (by assumption)) ?rce9
            case hce9 => (intro w hSw; (try dsimp only at hSw); go_simp; try with_reducible rfl)
            case' rce9 => skip
            try simp only [Act.put, List.setIfInBounds_toArray, List.set_cons_zero, List.set_cons_succ]
            refine wpAnyG_one 7 at7 (by kernel_rfl) (fun Kn hK => ?_)
            go_simp
            refine (clone_strs (HCS.out x1 hb1).2 (by have := HLN.out; omega)).mono ?_
            rintro e x2 ⟨v2, rfl, o2, hq2⟩
            obtain ⟨Aw, cw, rfl, _, _⟩ := own_slice o2
            have hb2 := hb1.trans (hq2.mono hb1.size)
            have hr2 := (Keep.of_below hb2 : Keep (fun _ => False) wm x2).at HR12.out fun e => e
            have HO2 : Hid (x2.ownsRow wd.heap.size 9 1 (.slice Ar m.m.r.rd.length cr) m.m.r.rd.length (strV m.m.r.rd) ∧ x2.ownsRow x1.heap.size 9 1 (.slice Aw m.m.r.wr.length cw) m.m.r.wr.length (strV m.m.r.wr)) := Lib.hid ⟨(Keep.of_below hq2 : Keep (fun _ => False) x1 x2).own o1 fun _ _ e => e, o2⟩
            have HSZ : Hid (wm.heap.size ≤ wd.heap.size ∧ wd.heap.size ≤ x1.heap.size ∧ Y < wm.heap.size) := Lib.hid ⟨hb0.size, hq1.size, (Array.getElem?_eq_some_iff.1 HR12.out).1⟩
            have HB2 := Lib.hid hb2
            have f5 := frozen_of_row hr2 5
            obtain ⟨x3, hx3⟩ : ∃ y, x2.setCell ⟨Y, 5, none⟩ (.slice Ar m.m.r.rd.length cr) = y := ⟨_, rfl⟩
            have hr3 : x3.heap[Y]? = some (.cells #[.int .u64 m.m.t, .int .u64 m.m.v, .string m.m.r.owner, .string m.m.r.file, .int .i64 m.m.r.epoch, .slice Ar m.m.r.rd.length cr, m.vw] 48 (0, 0)) := by rw [← hx3, set_at hr2]; rfl
            have f6 := frozen_of_row hr3 6
            have k6 : x3.cell? ⟨Y, 6, none⟩ = some m.vw := by rw [cell_of_row _ _ _ _ _ _ hr3]; rfl
            obtain ⟨x4, hx4⟩ : ∃ y, x3.setCell ⟨Y, 6, none⟩ (.slice Aw m.m.r.wr.length cw) = y := ⟨_, rfl⟩
            have HR4 : Hid (x4.heap[Y]? = some (.cells #[.int .u64 m.m.t, .int .u64 m.m.v, .string m.m.r.owner, .string m.m.r.file, .int .i64 m.m.r.epoch, .slice Ar m.m.r.rd.length cr, .slice Aw m.m.r.wr.length cw] 48 (0, 0))) := Lib.hid (by rw [← hx4, set_at hr3]; rfl)
            have HK4 : Hid (Keep (fun q => q = Y) x2 x4) := Lib.hid (by
              rw [← hx4, ← hx3]
              exact (Keep.setCell (fun q => q = Y) x2 (p := ⟨Y, 5, none⟩) rfl _).same (Keep.setCell (fun q => q = Y) _ (p := ⟨Y, 6, none⟩) rfl _))
            have hS2 := HSS.out _ hb2
            clear hS hr2 hr3 o1 o2 hb0 hb1 hb2 hq1 hq2
            have hS := hS2
            clear hS2
            refine hK.out _ _ (Or.inr hS) ?_
            clear hK Kn
            try simp only [Act.put, List.setIfInBounds_toArray, List.set_cons_zero, List.set_cons_succ]
            refine wpAnyG_one 10 at10 (by kernel_rfl) (fun Kn hK => ?_)
            have k5 := hS.1
            go_simp
            refine hK.out _ _ (Or.inl (by kernel_rfl)) ?_
            clear hK Kn hS k5 f5
            try simp only [Act.put, List.setIfInBounds_toArray, List.set_cons_zero, List.set_cons_succ]
            refine wpAnyG_one 11 at11 (by kernel_rfl) (fun Kn hK => ?_)
            go_simp
            refine hK.out _ _ (Or.inl (by kernel_rfl)) ?_
            clear hK Kn
            try simp only [Act.put, List.setIfInBounds_toArray, List.set_cons_zero, List.set_cons_succ]
            refine wpAnyG_one 12 at12 (by kernel_rfl) (fun Kn hK => ?_)
            go_simp
            refine hK.out _ _ (Or.inl (by kernel_rfl)) ?_
            clear hK Kn
            try simp only [Act.put, List.setIfInBounds_toArray, List.set_cons_zero, List.set_cons_succ]
            refine wpAnyG_one 13 at13 (by kernel_rfl) (fun Kn hK => ?_)
            go_simp
            refine hK.out _ _ (Or.inl (by kernel_rfl)) ?_
            clear hK Kn k6 f6 hx3 hx4
            refine wpAnyG_done (by kernel_rfl) ?_
            try simp only [Act.put, List.setIfInBounds_toArray, List.set_cons_zero, List.set_cons_succ]
            have HB4 : Hid (Below wr.heap.size wr x4) := Lib.hid (by
              have k1 : Keep (fun q => q = wr.heap.size) wr x4 := ((Keep.of_below HB12.out).trans (Keep.of_below HB2.out : Keep (fun _ => False) wm x2) fun q e => e.elim).trans HK4.out fun q e => Or.inl (by rw [HY.out]; exact e)
              exact below_keep (Below.refl _ _) k1)
            have hst : x4.cell? ⟨Z, 0, none⟩ = some (.slice A2 k2 c2) := (Keep.of_below HB4.out : Keep (fun _ => False) wr x4).cell (row3c HI.out.blk).1 fun e => e
            have HMA : Hid (MkAt x4 ⟨m.m, .slice Ar m.m.r.rd.length cr, .slice Aw m.m.r.wr.length cw⟩ ∧ ∀ g, (⟨m.m, .slice Ar m.m.r.rd.length cr, .slice Aw m.m.r.wr.length cw⟩ : MarkM).uses g → wr.heap.size ≤ g) := Lib.hid (by
              have hlo : ∀ g, (⟨m.m, .slice Ar m.m.r.rd.length cr, .slice Aw m.m.r.wr.length cw⟩ : MarkM).uses g → wm.heap.size ≤ g := fun g hg => by
                have := HSZ.out
                rcases hg with hg | hg
                · have := (World.ownsRow.lt HO2.out.1 g hg).1; omega
                · have := (World.ownsRow.lt HO2.out.2 g hg).1; omega
              refine ⟨(⟨own_base HO2.out.1 (Nat.zero_le _), own_base HO2.out.2 (Nat.zero_le _)⟩ : MkAt x2 ⟨m.m, .slice Ar m.m.r.rd.length cr, .slice Aw m.m.r.wr.length cw⟩).keep HK4.out fun g hg e => ?_, fun g hg => Nat.le_trans HB12.out.size (hlo g hg)⟩
              have := hlo g hg; have := HSZ.out.2.2; omega)
            obtain ⟨A5, c5, w5, hrun, ho5, hk5, hl5, hz5⟩ := append_mark (w := x4) (v := .slice A2 k2 c2) (ms := dm) ((Keep.of_below HB4.out : Keep (fun _ => False) wr x4).own HI.out.row fun _ _ e => e) ⟨m.m, .slice Ar m.m.r.rd.length cr, .slice Aw m.m.r.wr.length cw⟩ rfl rfl (by rw [HI.out.len]; omega)
            dsimp only at hrun
            rw [HI.out.len] at hrun ho5 hl5
            have hvZ : ¬ (Value.slice A2 k2 c2).ownBlock = some Z := fun e => by have := HI.out.new Z e; have := HZ0.out.2; omega
            have hr5 := hk5.at ((Keep.of_below HB4.out : Keep (fun _ => False) wr x4).at HI.out.blk fun e => e) hvZ
            have q5 : w5.cell? ⟨Z, 0, none⟩ = some (.slice A2 k2 c2) := by rw [cell_of_row _ _ _ _ _ _ hr5]; rfl
            have g5 := frozen_of_row hr5 0
            obtain ⟨w6, hw6⟩ : ∃ y, w5.setCell ⟨Z, 0, none⟩ (.slice A5 (k2 + 1) c5) = y := ⟨_, rfl⟩
            have HST : Hid (MkRel w0 Z x.ms (.slice Ad x.ws.length cd) x.gone (k2 + 1) (.slice A5 (k2 + 1) c5) (dm ++ [⟨m.m, .slice Ar m.m.r.rd.length cr, .slice Aw m.m.r.wr.length cw⟩]) w6) := Lib.hid (by
              rw [← hw6]
              exact HI.out.step HZ0.out.2 HM.out HB4.out HMA.out.1 HMA.out.2 ho5 hk5 hl5)
            clear ho5 hk5 hl5 hz5 hr5 hvZ
            go_wp2_with (first | (at_builtin; refine wp_append_run rfl _ _ _ rfl rfl rfl hrun ?_) | ((with_reducible refine wp_stop_load (o := ⟨some 57, .load _ (.tmp 12), _, _, _, _⟩) _ _ rfl ?_); unfold Stop; refine wpList_load_row rfl _ _ rfl Y rfl _ #[.int .u64 m.m.t, .int .u64 m.m.v, .string m.m.r.owner, .string m.m.r.file, .int .i64 m.m.r.epoch, .slice Ar m.m.r.rd.length cr, .slice Aw m.m.r.wr.length cw] _ _ HR4.out Tryd.underlying48 rfl info_mark7 ?_))
            go_roundw
            case rel => exact ⟨k2 + 1, _, A5, c5, by omega, by go_num, HST⟩
            case measure => simp [intOf]; omega
          · obtain rfl : k2 = nm := by omega
            have HI2 : Hid (MkRel w0 Z x.ms (.slice Ad x.ws.length cd) x.gone x.ms.length (.slice A2 k2 c2) dm wr) := Lib.hid (by rw [HNM.out]; exact HI.out)
            obtain ⟨q0, q1, q2⟩ := row3c HI.out.blk
            have HKQ : Hid (Keep (fun q => wq.heap.size ≤ q) wq wr) := Lib.hid ((Keep.of_below HB0.out).trans HI.out.keep fun q e => Or.inl (by have := HZ0.out.1; omega))
            have hrw := HKQ.out.own HO.out.row fun q hq e => by have := (World.ownsRow.lt HO.out.row q hq).2; omega
            obtain ⟨A5, c5, w5, hrun, ho5, hk5, hl5⟩ := append_out hrw { x with ms := dm, vm := .slice A2 k2 c2, vd := .slice Ad x.ws.length cd } rfl rfl (by rw [HO.out.len]; omega)
            dsimp only at hrun
            rw [HO.out.len] at hrun ho5 hl5
            have HST : Hid (LvRel w xs (k + 1) (.slice A5 (k + 1) c5) (done ++ [{ x with ms := dm, vm := .slice A2 k2 c2, vd := .slice Ad x.ws.length cd }]) w5) := Lib.hid (HO.out.step HX.out HB0.out HZ0.out.1 HZ0.out.2 HCU.out.wrd (fun q hq => ⟨Nat.le_trans HB9.out.size (HCU.out.new q hq).1, (HCU.out.new q hq).2⟩) HI2.out ho5 hk5 hl5)
            clear ho5 hk5 hl5 hrw z0
            go_wp2_with (at_builtin; refine wp_append_run rfl _ _ _ rfl rfl rfl hrun ?_)
            go_roundw
            case rel => exact ⟨k + 1, _, A5, c5, by omega, by go_num, rfl, HST⟩
            case measure => simp [intOf]; omega
    · obtain rfl : k = n := by omega
      have HE : Hid (LivesRet w xs (.returned (.slice Ao k co)) wr) := Lib.hid ⟨Ao, co, done, by rw [HO.out.len], by rw [HO.out.len]; have := HO.out.row; rwa [HO.out.len] at this, HO.out.at', by rw [HO.out.eq, ← HNX.out, List.take_length], HO.out.below⟩
      go_wp2_with fail
      go_ret
      exact HE.out
end Go.Proofs.YtgacfkenndhcnaaDoor
