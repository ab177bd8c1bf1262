/- (*Ledger).Note. (Printed by tools/glz.py.) -/
import Derived.Test.YtgacfkenndhcnaaDoorZL5
namespace Go.Proofs.YtgacfkenndhcnaaDoor
open Go.RowKit
set_option linter.unusedVariables false
set_option linter.unusedSimpArgs false

theorem step_cells {w : World} {b : Nat} {s : StA} {t : TypeId} (h : w.heap[b]? = some (.cells (stepC s).toArray t (0, 0))) : w.cell? ⟨b, 22, none⟩ = some (.int .i64 s.epoch) := by
  rw [cell_of_row _ _ _ _ _ _ h]; rfl
theorem cmd_cells {w : World} {b : Nat} {s : StA} {t : TypeId} (h : w.heap[b]? = some (.cells (cmdC s).toArray t (0, 0))) : w.cell? ⟨b, 0, none⟩ = some (.int .u8 s.kind) ∧ w.cell? ⟨b, 1, none⟩ = some (.string s.who) ∧ w.cell? ⟨b, 3, none⟩ = some (.string s.file) ∧ w.cell? ⟨b, 6, none⟩ = some (.string s.text) ∧ w.cell? ⟨b, 7, none⟩ = some (.int .u64 s.n) := by
  refine ⟨?_, ?_, ?_, ?_, ?_⟩ <;> (rw [cell_of_row _ _ _ _ _ _ h]; rfl)
theorem info_step : (Tryd.prog.info? 37).map (·.size) = some 23 := by kernel_rfl
theorem info_cmd : (Tryd.prog.info? 31).map (·.size) = some 18 := by kernel_rfl
theorem LedRet.after {w w1 w2 : World} {role r1 : Nat → Role} {G G1 : LedM} {n2 : Int} {c2 : List ByteArray} {P2 : PLed} (hb : G1.b = G.b) (hbo : G1.bound = G.bound) (hk : Keep (fun q => role q ≠ .none) w w1) (ho : ∀ q, q < w.heap.size → r1 q = role q) (k : LedRet w1 r1 G1 n2 c2 P2 w2) : LedRet w role G n2 c2 P2 w2 := by
  obtain ⟨r2, G2, hI2, hb2, hbo2, hn2, hc2, hp2, hk2, ho2⟩ := k
  refine ⟨r2, G2, hI2, hb2.trans hb, hbo2.trans hbo, hn2, hc2, hp2, hk.trans hk2 fun q hq => ?_, fun q hq => (ho2 q (Nat.lt_of_lt_of_le hq hk.size)).trans (ho q hq)⟩
  by_cases hql : q < w.heap.size
  · left; rw [ho q hql] at hq; exact hq
  · right; omega
theorem mark_ret {wm wz : World} {r1 : Nat → Role} {G1 : LedM} {who : ByteArray} (h : ∃ role' rows, IsLed wz role' { G1 with rows := rows } ∧ valsOf rows = valsOf G1.rows ∧ amap (fun p : Value × List LifeM => p.2.map LifeM.life) rows = G1.pure.map (fun p => (p.1, markIn G1.now who p.1 p.2)) ∧ Keep (fun q => r1 q ≠ .none) wm wz ∧ ∀ q, q < wm.heap.size → role' q = r1 q) : LedRet wm r1 G1 G1.now G1.cor (markP G1.now who G1.pure) wz := by
  obtain ⟨r2, rows, hI, _, hp, hk, ho⟩ := h
  exact ⟨r2, _, hI, rfl, rfl, rfl, rfl, hp, hk, ho⟩
theorem pure_small {N : Nat} {G : LedM} (h : POk N G.pure) {k : ByteArray} {v : Value} {xs : List LifeM} (hk : aget G.rows k = some (v, xs)) : xs.length ≤ N ∧ ∀ x ∈ xs, x.ms.length ≤ N ∧ x.ws.length ≤ N ∧ x.r.right = true ∧ ∀ m ∈ x.ms, m.m.r.right = true := by
  have h1 : aget G.pure k = some (xs.map LifeM.life) := by unfold LedM.pure; rw [aget_amap, hk]; rfl
  obtain ⟨a, b⟩ := h k _ h1
  refine ⟨by simpa using a, fun x hx => ?_⟩
  obtain ⟨c, d, e, f⟩ := b x.life (List.mem_map_of_mem hx)
  exact ⟨by simpa [LifeM.life] using c, d, e, fun m hm => f m.m (List.mem_map_of_mem hm)⟩
theorem lives_small {N : Nat} {G : LedM} (h : POk N G.pure) (k : ByteArray) : (G.lives k).length ≤ N ∧ ∀ x ∈ G.lives k, x.ms.length ≤ N ∧ x.ws.length ≤ N ∧ x.r.right = true ∧ ∀ m ∈ x.ms, m.m.r.right = true := by
  unfold LedM.lives
  cases hk : aget G.rows k with
  | none => exact ⟨Nat.zero_le _, fun x hx => by cases hx⟩
  | some r => exact pure_small h (v := r.1) (xs := r.2) hk
theorem has_life (x : LifeM) (V : Int) : lifeHas x.life V = x.has V := by
  unfold lifeHas LifeM.has LifeM.life
  rw [List.any_map]; rfl
theorem words_none {G : LedM} (s : StA) (h : (G.lives (pathB s.owner s.file)).findIdx? (fun x => x.has s.ver) = none) : wordsP G.pure s = G.pure := by
  unfold wordsP
  rw [pure_at_k, List.findIdx?_map]
  have : (fun x => lifeHas x s.ver) ∘ LifeM.life = fun x => x.has s.ver := funext fun x => has_life x s.ver
  rw [this, h]
theorem words_some {G : LedM} (s : StA) {v : Value} {xs : List LifeM} {i : Nat} {x : LifeM} (hk : aget G.rows (pathB s.owner s.file) = some (v, xs)) (h : xs.findIdx? (fun x => x.has s.ver) = some i) (hx : xs[i]? = some x) (u : Value) : ({ G with rows := aput G.rows (pathB s.owner s.file) (v, xs.set i (x.worded ⟨s.who, s.text, s.epoch⟩ u)) } : LedM).pure = wordsP G.pure s := by
  rw [set_pure]
  unfold wordsP
  rw [pure_at_k, lives_of hk, List.findIdx?_map]
  have : (fun x => lifeHas x s.ver) ∘ LifeM.life = fun x => x.has s.ver := funext fun x => has_life x s.ver
  rw [this, h]
  dsimp only
  congr 1
  apply List.ext_getElem?
  intro j
  rw [List.getElem?_set, List.getElem?_modify, List.getElem?_map]
  by_cases e : i = j
  · subst e
    rw [if_pos rfl, hx]
    simp [(List.getElem?_eq_some_iff.1 hx).1, LifeM.life, LifeM.worded]
  · rw [if_neg e]; simp [e]
theorem gone_some {G : LedM} {k : ByteArray} {v : Value} {xs : List LifeM} {n : Nat} {x : LifeM} (hk : aget G.rows k = some (v, xs)) (hn : xs.length = n + 1) (hx : xs[n]? = some x) (hg : x.gone = false) : ({ G with rows := aput G.rows k (v, xs.set n { x with gone := true }) } : LedM).pure = goneP G.pure k := by
  obtain ⟨h1, h2⟩ := on_last hk hn hx hg
  rw [set_pure]
  unfold goneP
  rw [h2, h1]
  dsimp only
  rw [List.length_map, hn, Nat.add_sub_cancel]; rfl
theorem gone_none {G : LedM} {k : ByteArray} (h : ∀ x, (G.lives k).getLast? = some x → x.gone = true) : goneP G.pure k = G.pure := by
  unfold goneP
  rw [on_gone h]
set_option maxRecDepth 100000 in
set_option maxHeartbeats 8000000 in
theorem note_calls {w : World} {role : Nat → Role} {G : LedM} {N : Nat} (h : IsLed w role G) (s : StA) (hvn : s.vn.oneCell' = true) (hsz : s.who.size ≤ 1000 ∧ s.owner.size ≤ 1000 ∧ s.file.size ≤ 1000 ∧ s.user.size ≤ 1000) (hP : POk N G.pure) (hN : N ≤ 900) (hcn : G.cor.length ≤ 1000) (hT : Tabs w) :
    Calls Tryd.prog 7 #[.pointer (some ⟨G.b, 0, none⟩), .agg (stepC s).toArray] w fun e w' => e = .returned (.tuple #[]) ∧ LedRet w role G (noteP ⟨G.now, G.cor, G.pure⟩ s).now (noteP ⟨G.now, G.cor, G.pure⟩ s).cor (noteP ⟨G.now, G.cor, G.pure⟩ s).P w' := by
  obtain ⟨SA, hSA⟩ : ∃ A, (stepC s).toArray = A := ⟨_, rfl⟩
  obtain ⟨CA, hCA⟩ : ∃ A, (cmdC s).toArray = A := ⟨_, rfl⟩
  have HCA := Lib.hid hCA
  have HSQ := Lib.hid hSA
  have HIC : Hid ((Tryd.prog.info? 31).map (·.size) = some CA.size) := Lib.hid (by rw [← hCA]; exact info_cmd)
  have HIS : Hid ((Tryd.prog.info? 37).map (·.size) = some SA.size) := Lib.hid (by rw [← hSA]; exact info_step)
  have HC1 : Hid (CA.all (·.oneCell') = true ∧ CA.size = 18) := Lib.hid (by rw [← hCA]; exact ⟨by simp [cmdC, Value.oneCell'], rfl⟩)
  obtain ⟨W1, hW1⟩ : ∃ W, w.alloc (.cells SA 37) = W := ⟨_, rfl⟩
  have hb1 : Below w.heap.size w W1 := by rw [← hW1]; exact (Below.refl _ w).alloc (Nat.le_refl _) _
  have hr1 : W1.heap[w.heap.size]? = some (.cells SA 37 (0, 0)) := by rw [← hW1, get_alloc, if_pos rfl]
  have hs1 : W1.heap.size = w.heap.size + 1 := by rw [← hW1, size_alloc]
  have HH := Lib.hid h
  have HVN := Lib.hid hvn
  have HSZ := Lib.hid hsz
  have HPK := Lib.hid hP
  have HN := Lib.hid hN
  have HCN := Lib.hid hcn
  have HT := Lib.hid hT
  have HB1 := Lib.hid hb1
  have HR1 := Lib.hid hr1
  have HS1 := Lib.hid hs1
  have HRN : Hid (role (w.heap.size + 1) = .none) := Lib.hid (by
    cases e : role (w.heap.size + 1) with
    | none => rfl
    | _ => exact absurd (h.low (w.heap.size + 1) (by rw [e]; simp)) (by omega))
  have HRN0 := HRN
  have HRN1 : Hid (role w.heap.size = .none) := Lib.hid (by
    cases e : role w.heap.size with
    | none => rfl
    | _ => exact absurd (h.low w.heap.size (by rw [e]; simp)) (by omega))
  have hrg : W1.rangeAt w.heap.size 0 (cmdC s) := fun j v hj => by
    have hj' : (cmdC s ++ [.int .i64 s.err, .string s.rtext, s.vn, .int .u64 s.ver, .int .i64 s.epoch])[j]? = some v := by rw [List.getElem?_append_left (List.getElem?_eq_some_iff.1 hj).1]; exact hj
    rw [cell_of_row _ _ _ _ _ _ hr1, ← hSA, Nat.zero_add, List.getElem?_toArray]; exact hj'
  have HRG := Lib.hid hrg
  have hD := fun W => done_calls W s
  rw [hSA] at hD
  have HDC := Lib.hid hD
  rw [hSA]
  clear h hvn hsz hP hN hcn hT hb1 hr1 hs1 hD hSA hCA hrg
  go_enter Tryd.func7, Tryd.ntmps7
  go_wp2_with (with_reducible refine wp_stop_load (o := ⟨some 8, .load _ (.tmp 7), _, _, _, _⟩) _ _ rfl ?_)
  unfold Stop
  refine wpList_load_mid rfl _ _ rfl _ _ rfl (cmdC s) _ HRG.out Tryd.underlying31 rfl info_cmd ?_
  rw [HCA.out]
  go_wp2_with (with_reducible refine wp_stop_store (o := ⟨none, .store _ (.tmp 4) _, _, _, _, _⟩) _ _ _ rfl ?_)
  unfold Stop
  refine wp_store_all rfl _ _ _ rfl rfl rfl _ _ ((get_alloc _ _ _).trans (if_pos rfl)) HIC.out HC1.out.2 HC1.out.1 ?_
  intro W2 h2 k2 s2
  rw [HS1.out] at h2 k2 ⊢
  have HB2 : Hid (Below w.heap.size w W2) := Lib.hid (by
    have ka : Keep (fun q => q = w.heap.size + 1) W1 W2 := (Keep.alloc _ _ _).same k2
    exact below_at HB1.out ka (Nat.le_succ _))
  have HR2 : Hid (W2.heap[w.heap.size + 1]? = some (.cells CA 31 (0, 0))) := Lib.hid h2
  have HRA2 : Hid (W2.heap[w.heap.size]? = some (.cells SA 37 (0, 0))) := Lib.hid (((Keep.alloc _ _ _).same k2 : Keep (fun q => q = w.heap.size + 1) W1 W2).at HR1.out (by omega))
  clear h2 k2 s2 hW1
  go_wp2_with (with_reducible refine wp_stop_load (o := ⟨some 9, .load _ (.tmp 3), _, _, _, _⟩) _ _ rfl ?_)
  unfold Stop
  refine wpList_load_row rfl _ _ rfl _ rfl _ SA _ _ HRA2.out Tryd.underlying37 rfl HIS.out ?_
  go_wp2_with fail
  refine (HDC.out W2).mono ?_
  rintro e W3 ⟨rfl, hb3⟩
  have HB3 := Lib.hid (HB2.out.trans (hb3.mono HB2.out.size))
  have HRB := Lib.hid ((Keep.of_below hb3 : Keep (fun _ => False) W2 W3).at HR2.out fun e => e)
  have HRA := Lib.hid ((Keep.of_below hb3 : Keep (fun _ => False) W2 W3).at HRA2.out fun e => e)
  have HI3 := Lib.hid (HH.out.below HB3.out)
  have HT3 := Lib.hid (HT.out.below HB3.out)
  clear hb3
  obtain ⟨c0, c1, c3, c6, c7⟩ := cmd_cells (s := s) (by rw [HCA.out]; exact HRB.out)
  cases hd : doneB s with
  | false =>
    have HEND : Hid (LedRet w role G (noteP ⟨G.now, G.cor, G.pure⟩ s).now (noteP ⟨G.now, G.cor, G.pure⟩ s).cor (noteP ⟨G.now, G.cor, G.pure⟩ s).P W3) := Lib.hid (by
      unfold noteP
      rw [hd, if_pos rfl]
      exact LedRet.still HH.out HB3.out)
    clear hd
    go_wp2_with fail
    go_returns
    exact ⟨rfl, HEND.out⟩
  | true =>
    have HD := Lib.hid hd
    clear hd
    by_cases hk116 : s.kind = 116
    · have hkd : s.kind = 116 := hk116
      rw [hkd] at c0
      have HNT : Hid (noteP ⟨G.now, G.cor, G.pure⟩ s = ⟨IntKind.u64.wrap (G.now + s.n), G.cor, G.pure⟩) := Lib.hid (by unfold noteP; rw [HD.out]; simp [hkd])
      obtain ⟨V, hV⟩ : ∃ V, IntKind.u64.wrap (G.now + s.n) = V := ⟨_, rfl⟩
      obtain ⟨wd, hwd⟩ : ∃ y, W3.drew = y := ⟨_, rfl⟩
      have HBD : Hid (Below w.heap.size w wd) := Lib.hid (by rw [← hwd]; exact HB3.out.drew)
      have HID := Lib.hid (HH.out.below HBD.out)
      have hS : (fun U : World => U.cell? ⟨G.b, 1, none⟩ = some (.int .u64 G.now) ∧ U.cell? ⟨w.heap.size + 1, 7, none⟩ = some (.int .u64 s.n)) wd := ⟨HID.out.cells.2.1, by rw [← hwd]; exact c7⟩
      have hfz := frozen_of_row HID.out.blk 1
      obtain ⟨wt, hwt⟩ : ∃ y, wd.setCell ⟨G.b, 1, none⟩ (.int .u64 V) = y := ⟨_, rfl⟩
      have HEND : Hid (LedRet w role G (noteP ⟨G.now, G.cor, G.pure⟩ s).now (noteP ⟨G.now, G.cor, G.pure⟩ s).cor (noteP ⟨G.now, G.cor, G.pure⟩ s).P wt) := Lib.hid (by
        rw [HNT.out, ← hwt]
        obtain ⟨hI, hk⟩ := HID.out.tick V
        exact ⟨role, _, hI, rfl, rfl, hV.symm, rfl, rfl, (Keep.of_below HBD.out).same hk, fun _ _ => rfl⟩)
      have m0 : wt.cell? ⟨w.heap.size + 1, 0, none⟩ = some (.int .u8 116) := by
        rw [← hwt]
        refine (Keep.setCell (fun q => q = G.b) wd (p := ⟨G.b, 1, none⟩) rfl _).cell (by rw [← hwd]; exact c0) fun e => ?_
        have := HRN.out; rw [show w.heap.size + 1 = G.b from e, HH.out.rb] at this; cases this
      have HWT := Lib.hid m0
      clear m0
      go_wp2_with fail
      refine wp_region_G (fun U : World => U.cell? ⟨G.b, 1, none⟩ = some (.int .u64 G.now) ∧ U.cell? ⟨w.heap.size + 1, 7, none⟩ = some (.int .u64 s.n)) [9] (by kernel_rfl) ?_
      rw [hwd]
      clear hwd c0 c1 c3 c6 c7
      refine wpAnyG_pure (i := 0) (v := ?vta0) at0 (by kernel_rfl) (fun _ _ _ h => h) (Or.inl ⟨by rfl, ?hta0⟩) (Or.inr (by assumption)) ?rta0
      case hta0 => (intro w hSw; (try dsimp only at hSw); go_simp; try with_reducible rfl)
      case' rta0 => skip
      try simp only [Act.put, List.setIfInBounds_toArray, List.set_cons_zero, List.set_cons_succ]
      refine wpAnyG_pure (i := 1) (v := ?vta1) at1 (by kernel_rfl) (fun _ _ _ h => h) (Or.inl ⟨by rfl, ?hta1⟩) (Or.inr (by assumption)) ?rta1
      case hta1 => (intro w hSw; (try dsimp only at hSw); go_simp; try with_reducible rfl)
      case' rta1 => skip
      try simp only [Act.put, List.setIfInBounds_toArray, List.set_cons_zero, List.set_cons_succ]
      refine wpAnyG_pure (i := 2) (v := ?vta2) at2 (by kernel_rfl) (fun _ _ _ h => h) (Or.inl ⟨by rfl, ?hta2⟩) (Or.inr (by assumption)) ?rta2
      case hta2 => (intro w hSw; (try dsimp only at hSw); go_simp; try with_reducible rfl)
      case' rta2 => skip
      try simp only [Act.put, List.setIfInBounds_toArray, List.set_cons_zero, List.set_cons_succ]
      refine wpAnyG_take (ws := [3,5]) (i := 3) (v := ?vta3) at3 (by kernel_rfl) (fun _ _ _ h => h) (Or.inl ⟨by rfl, ?hta3⟩) (by assumption) ?rta3
      case hta3 => (intro w hSw; (try dsimp only at hSw); go_simp; try with_reducible rfl)
      case' rta3 => skip
      try simp only [Act.put, List.setIfInBounds_toArray, List.set_cons_zero, List.set_cons_succ]
      refine wpAnyG_pure (i := 4) (v := ?vta4) at4 (by kernel_rfl) (fun _ _ _ h => h) (Or.inl ⟨by rfl, ?hta4⟩) (Or.inr (by assumption)) ?rta4
      case hta4 => (intro w hSw; (try dsimp only at hSw); go_simp; try with_reducible rfl)
      case' rta4 => skip
      try simp only [Act.put, List.setIfInBounds_toArray, List.set_cons_zero, List.set_cons_succ]
      refine wpAnyG_take (ws := [3,5]) (i := 5) (v := ?vta5) at5 (by kernel_rfl) (fun _ _ _ h => h) (Or.inl ⟨by rfl, ?hta5⟩) (by assumption) ?rta5
      case hta5 => (intro w hSw; (try dsimp only at hSw); go_simp; try with_reducible rfl)
      case' rta5 => skip
      try simp only [Act.put, List.setIfInBounds_toArray, List.set_cons_zero, List.set_cons_succ]
      refine wpAnyG_pure (i := 6) (v := ?vta6) at6 (by kernel_rfl) (fun _ _ _ h => h) (Or.inl ⟨by rfl, ?hta6⟩) (Or.inr (by assumption)) ?rta6
      case hta6 => (intro w hSw; (try dsimp only at hSw); go_simp; try with_reducible rfl)
      case' rta6 => skip
      try simp only [Act.put, List.setIfInBounds_toArray, List.set_cons_zero, List.set_cons_succ]
      refine wpAnyG_pure (i := 7) (v := ?vta7) at7 (by kernel_rfl) (fun _ _ _ h => h) (Or.inl ⟨by rfl, ?hta7⟩) (Or.inr (by assumption)) ?rta7
      case hta7 => (intro w hSw; (try dsimp only at hSw); go_simp; try with_reducible rfl)
      case' rta7 => skip
      try simp only [Act.put, List.setIfInBounds_toArray, List.set_cons_zero, List.set_cons_succ]
      refine wpAnyG_pure (i := 8) (v := ?vta8) at8 (by kernel_rfl) (fun _ _ _ h => h) (Or.inl ⟨by rfl, ?hta8⟩) (Or.inr (by assumption)) ?rta8
      case hta8 => (intro w hSw; (try dsimp only at hSw); go_simp; try with_reducible rfl)
      case' rta8 => skip
      try simp only [Act.put, List.setIfInBounds_toArray, List.set_cons_zero, List.set_cons_succ]
      refine wpAnyG_one 9 at9 (by kernel_rfl) (fun Kn hK => ?_)
      have k1 := hS.1
      go_simp
      refine hK.out _ _ (Or.inl (by kernel_rfl)) ?_
      clear hK Kn hS hfz k1
      refine wpAnyG_done (by kernel_rfl) ?_
      try simp only [Act.put, List.setIfInBounds_toArray, List.set_cons_zero, List.set_cons_succ]
      have m0 := HWT.out
      go_wp2_with fail
      go_returns
      exact ⟨rfl, HEND.out⟩
    by_cases hk120 : s.kind = 120
    · have hkd : s.kind = 120 := hk120
      rw [hkd] at c0
      have HNT : Hid (noteP ⟨G.now, G.cor, G.pure⟩ s = ⟨G.now, if memB s.who G.cor then G.cor else G.cor ++ [s.who], G.pure⟩) := Lib.hid (by unfold noteP; rw [HD.out]; simp [hkd])
      obtain ⟨A, ca, hvc, _, _⟩ := own_slice HH.out.cor
      obtain ⟨n, hn⟩ : ∃ n, G.cor.length = n := ⟨_, rfl⟩
      rw [hn] at hvc
      obtain ⟨wd, hwd⟩ : ∃ y, W3.drew = y := ⟨_, rfl⟩
      have HBD : Hid (Below w.heap.size w wd) := Lib.hid (by rw [← hwd]; exact HB3.out.drew)
      have HID := Lib.hid (HH.out.below HBD.out)
      have hS : (fun U : World => U.cell? ⟨G.b, 2, none⟩ = some (.slice A n ca) ∧ U.cell? ⟨w.heap.size + 1, 1, none⟩ = some (.string s.who)) wd := ⟨by rw [← hvc]; exact HID.out.cells.2.2.1, by rw [← hwd]; exact c1⟩
      have HCT := contains_calls wd (.slice A n ca) G.cor s.who (by rw [← hvc]; exact strs_own HID.out.cor)
      have HC := Lib.hid HCT
      have HRBD : Hid (wd.heap[w.heap.size + 1]? = some (.cells CA 31 (0, 0))) := Lib.hid (by rw [← hwd]; exact HRB.out)
      clear HCT
      go_wp2_with fail
      refine wp_region_G (fun U : World => U.cell? ⟨G.b, 2, none⟩ = some (.slice A n ca) ∧ U.cell? ⟨w.heap.size + 1, 1, none⟩ = some (.string s.who)) [6] (by kernel_rfl) ?_
      rw [hwd]
      clear hwd c0 c1 c3 c6 c7
      refine wpAnyG_pure (i := 0) (v := ?vtb0) at0 (by kernel_rfl) (fun _ _ _ h => h) (Or.inl ⟨by rfl, ?htb0⟩) (Or.inr (by assumption)) ?rtb0
      case htb0 => (intro w hSw; (try dsimp only at hSw); go_simp; try with_reducible rfl)
      case' rtb0 => skip
      try simp only [Act.put, List.setIfInBounds_toArray, List.set_cons_zero, List.set_cons_succ]
      refine wpAnyG_pure (i := 1) (v := ?vtb1) at1 (by kernel_rfl) (fun _ _ _ h => h) (Or.inl ⟨by rfl, ?htb1⟩) (Or.inr (by assumption)) ?rtb1
      case htb1 => (intro w hSw; (try dsimp only at hSw); go_simp; try with_reducible rfl)
      case' rtb1 => skip
      try simp only [Act.put, List.setIfInBounds_toArray, List.set_cons_zero, List.set_cons_succ]
      refine wpAnyG_pure (i := 2) (v := ?vtb2) at2 (by kernel_rfl) (fun _ _ _ h => h) (Or.inl ⟨by rfl, ?htb2⟩) (Or.inr (by assumption)) ?rtb2
      case htb2 => (intro w hSw; (try dsimp only at hSw); go_simp; try with_reducible rfl)
      case' rtb2 => skip
      try simp only [Act.put, List.setIfInBounds_toArray, List.set_cons_zero, List.set_cons_succ]
      refine wpAnyG_take (ws := [3,5]) (i := 3) (v := ?vtb3) at3 (by kernel_rfl) (fun _ _ _ h => h) (Or.inl ⟨by rfl, ?htb3⟩) (by assumption) ?rtb3
      case htb3 => (intro w hSw; (try dsimp only at hSw); go_simp; try with_reducible rfl)
      case' rtb3 => skip
      try simp only [Act.put, List.setIfInBounds_toArray, List.set_cons_zero, List.set_cons_succ]
      refine wpAnyG_pure (i := 4) (v := ?vtb4) at4 (by kernel_rfl) (fun _ _ _ h => h) (Or.inl ⟨by rfl, ?htb4⟩) (Or.inr (by assumption)) ?rtb4
      case htb4 => (intro w hSw; (try dsimp only at hSw); go_simp; try with_reducible rfl)
      case' rtb4 => skip
      try simp only [Act.put, List.setIfInBounds_toArray, List.set_cons_zero, List.set_cons_succ]
      refine wpAnyG_take (ws := [3,5]) (i := 5) (v := ?vtb5) at5 (by kernel_rfl) (fun _ _ _ h => h) (Or.inl ⟨by rfl, ?htb5⟩) (by assumption) ?rtb5
      case htb5 => (intro w hSw; (try dsimp only at hSw); go_simp; try with_reducible rfl)
      case' rtb5 => skip
      try simp only [Act.put, List.setIfInBounds_toArray, List.set_cons_zero, List.set_cons_succ]
      refine wpAnyG_one 6 at6 (by kernel_rfl) (fun Kn hK => ?_)
      go_simp
      refine HC.out.mono ?_
      rintro e w4 ⟨rfl, hw4⟩
      obtain rfl : w4 = wd := hw4.symm
      clear hw4
      refine hK.out _ _ (Or.inl (by kernel_rfl)) ?_
      clear hK Kn
      try simp only [Act.put, List.setIfInBounds_toArray, List.set_cons_zero, List.set_cons_succ]
      refine wpAnyG_one 7 at7 (by kernel_rfl) (fun Kn hK => ?_)
      go_simp
      refine hK.out _ _ (Or.inl (by kernel_rfl)) ?_
      clear hK Kn hS
      refine wpAnyG_done (by kernel_rfl) ?_
      try simp only [Act.put, List.setIfInBounds_toArray, List.set_cons_zero, List.set_cons_succ]
      obtain ⟨c0, c1, c3, c6, c7⟩ := cmd_cells (s := s) (by rw [HCA.out]; exact HRBD.out)
      rw [hkd] at c0
      cases hm : memB s.who G.cor with
      | true =>
        have HEND : Hid (LedRet w role G (noteP ⟨G.now, G.cor, G.pure⟩ s).now (noteP ⟨G.now, G.cor, G.pure⟩ s).cor (noteP ⟨G.now, G.cor, G.pure⟩ s).P w4) := Lib.hid (by
          rw [HNT.out, hm, if_pos rfl]
          exact LedRet.still HH.out HBD.out)
        go_wp2_with fail
        go_returns
        exact ⟨rfl, HEND.out⟩
      | false =>
        obtain ⟨we, hwe⟩ : ∃ y, w4.drew = y := ⟨_, rfl⟩
        have HBE : Hid (Below w.heap.size w we) := Lib.hid (by rw [← hwe]; exact HBD.out.drew)
        have HIE := Lib.hid (HH.out.below HBE.out)
        have HRBE : Hid (we.heap[w.heap.size + 1]? = some (.cells CA 31 (0, 0))) := Lib.hid (by rw [← hwe]; exact HRBD.out)
        have hS : (fun U : World => U.cell? ⟨G.b, 2, none⟩ = some (.slice A n ca) ∧ U.cell? ⟨w.heap.size + 1, 1, none⟩ = some (.string s.who)) we := ⟨by rw [← hvc]; exact HIE.out.cells.2.2.1, by rw [← hwe]; exact c1⟩
        obtain ⟨A9, c9, w5, hrun, ho5, hk5, hl5⟩ := append_cor HIE.out.cor s.who (by rw [hn]; have := HCN.out; rw [hn] at this; omega)
        rw [hvc, hn] at hrun
        rw [hn] at ho5 hl5
        obtain ⟨r5, hI5, hkk5, hr5⟩ := HIE.out.corrupted ho5 hk5 hl5
        have nb : ¬ G.vc.ownBlock = some G.b := fun e => by have := HH.out.rc _ e; rw [HH.out.rb] at this; cases this
        have nc : ¬ G.vc.ownBlock = some (w.heap.size + 1) := fun e => by have := HH.out.rc _ e; rw [HRN0.out] at this; cases this
        have hS5 : w5.cell? ⟨G.b, 2, none⟩ = some (.slice A n ca) ∧ w5.cell? ⟨w.heap.size + 1, 1, none⟩ = some (.string s.who) := ⟨hk5.cell hS.1 nb, hk5.cell hS.2 nc⟩
        have hSa : ∀ ob, ((we.alloc ob).cell? ⟨G.b, 2, none⟩ = some (.slice A n ca) ∧ (we.alloc ob).cell? ⟨w.heap.size + 1, 1, none⟩ = some (.string s.who)) := fun ob => by
          have KK := Keep.alloc (fun _ => False) we ob
          exact ⟨KK.cell hS.1 fun e => e, KK.cell hS.2 fun e => e⟩
        have hfz := frozen_of_row (hk5.at HIE.out.blk nb) 2
        obtain ⟨w6, hw6⟩ : ∃ y, w5.setCell ⟨G.b, 2, none⟩ (.slice A9 (n + 1) c9) = y := ⟨_, rfl⟩
        have HEND : Hid (LedRet w role G (noteP ⟨G.now, G.cor, G.pure⟩ s).now (noteP ⟨G.now, G.cor, G.pure⟩ s).cor (noteP ⟨G.now, G.cor, G.pure⟩ s).P w6) := Lib.hid (by
          rw [HNT.out, hm, if_neg (by decide), ← hw6]
          exact ⟨r5, _, hI5, rfl, rfl, rfl, rfl, rfl, (Keep.of_below HBE.out).same hkk5, fun q hq => hr5 q (Nat.lt_of_lt_of_le hq HBE.out.size)⟩)
        have HM0 : Hid (w6.cell? ⟨w.heap.size + 1, 0, none⟩ = some (.int .u8 120)) := Lib.hid (by
          rw [← hw6]
          refine (Keep.setCell (fun q => q = G.b) w5 (p := ⟨G.b, 2, none⟩) rfl _).cell (hk5.cell (by rw [← hwe]; exact c0) nc) fun e => ?_
          have := HRN.out; rw [show w.heap.size + 1 = G.b from e, HH.out.rb] at this; cases this)
        have HSA := Lib.hid hSa
        clear hSa ho5 hk5 hl5 hI5 hkk5 hr5 nb nc hm
        go_wp2_with fail
        refine wp_region_G (fun U : World => U.cell? ⟨G.b, 2, none⟩ = some (.slice A n ca) ∧ U.cell? ⟨w.heap.size + 1, 1, none⟩ = some (.string s.who)) [11] (by kernel_rfl) ?_
        rw [hwe]
        clear hwe c0 c1 c3 c6 c7
        refine wpAnyG_pure (i := 0) (v := ?vtc0) at0 (by kernel_rfl) (fun _ _ _ h => h) (Or.inl ⟨by rfl, ?htc0⟩) (Or.inr (by assumption)) ?rtc0
        case htc0 => (intro w hSw; (try dsimp only at hSw); go_simp; try with_reducible rfl)
        case' rtc0 => skip
        try simp only [Act.put, List.setIfInBounds_toArray, List.set_cons_zero, List.set_cons_succ]
        refine wpAnyG_pure (i := 1) (v := ?vtc1) at1 (by kernel_rfl) (fun _ _ _ h => h) (Or.inl ⟨by rfl, ?htc1⟩) (Or.inr (by assumption)) ?rtc1
        case htc1 => (intro w hSw; (try dsimp only at hSw); go_simp; try with_reducible rfl)
        case' rtc1 => skip
        try simp only [Act.put, List.setIfInBounds_toArray, List.set_cons_zero, List.set_cons_succ]
        refine wpAnyG_pure (i := 2) (v := ?vtc2) at2 (by kernel_rfl) (fun _ _ _ h => h) (Or.inl ⟨by rfl, ?htc2⟩) (Or.inr (by assumption)) ?rtc2
        case htc2 => (intro w hSw; (try dsimp only at hSw); go_simp; try with_reducible rfl)
        case' rtc2 => skip
        try simp only [Act.put, List.setIfInBounds_toArray, List.set_cons_zero, List.set_cons_succ]
        refine wpAnyG_pure (i := 3) (v := ?vtc3) at3 (by kernel_rfl) (fun _ _ _ h => h) (Or.inl ⟨by rfl, ?htc3⟩) (Or.inr (by assumption)) ?rtc3
        case htc3 => (intro w hSw; (try dsimp only at hSw); go_simp; try with_reducible rfl)
        case' rtc3 => skip
        try simp only [Act.put, List.setIfInBounds_toArray, List.set_cons_zero, List.set_cons_succ]
        refine wpAnyG_take (ws := [4,6]) (i := 4) (v := ?vtc4) at4 (by kernel_rfl) (fun _ _ _ h => h) (Or.inl ⟨by rfl, ?htc4⟩) (by assumption) ?rtc4
        case htc4 => (intro w hSw; (try dsimp only at hSw); go_simp; try with_reducible rfl)
        case' rtc4 => skip
        try simp only [Act.put, List.setIfInBounds_toArray, List.set_cons_zero, List.set_cons_succ]
        refine wpAnyG_pure (i := 5) (v := ?vtc5) at5 (by kernel_rfl) (fun _ _ _ h => h) (Or.inl ⟨by rfl, ?htc5⟩) (Or.inr (by assumption)) ?rtc5
        case htc5 => (intro w hSw; (try dsimp only at hSw); go_simp; try with_reducible rfl)
        case' rtc5 => skip
        try simp only [Act.put, List.setIfInBounds_toArray, List.set_cons_zero, List.set_cons_succ]
        refine wpAnyG_take (ws := [4,6]) (i := 6) (v := ?vtc6) at6 (by kernel_rfl) (fun _ _ _ h => h) (Or.inl ⟨by rfl, ?htc6⟩) (by assumption) ?rtc6
        case htc6 => (intro w hSw; (try dsimp only at hSw); go_simp; try with_reducible rfl)
        case' rtc6 => skip
        try simp only [Act.put, List.setIfInBounds_toArray, List.set_cons_zero, List.set_cons_succ]
        refine wpAnyG_one 7 at7 (by kernel_rfl) (fun Kn hK => ?_)
        go_simp
        refine hK.out _ _ (Or.inr (HSA.out _)) ?_
        clear hK Kn hS
        try simp only [Act.put, List.setIfInBounds_toArray, List.set_cons_zero, List.set_cons_succ]
        refine wpAnyG_one 8 at8 (by kernel_rfl) (fun Kn hK => ?_)
        refine step_append_run rfl _ _ _ rfl rfl rfl hrun ?_
        refine hK.out _ _ (Or.inr hS5) ?_
        clear hK Kn hrun
        try simp only [Act.put, List.setIfInBounds_toArray, List.set_cons_zero, List.set_cons_succ]
        have hS := hS5
        refine wpAnyG_pure (i := 9) (v := ?vtd9) at9 (by kernel_rfl) (fun _ _ _ h => h) (Or.inl ⟨by rfl, ?htd9⟩) (Or.inr (by assumption)) ?rtd9
        case htd9 => (intro w hSw; (try dsimp only at hSw); go_simp; try with_reducible rfl)
        case' rtd9 => skip
        try simp only [Act.put, List.setIfInBounds_toArray, List.set_cons_zero, List.set_cons_succ]
        refine wpAnyG_pure (i := 10) (v := ?vtd10) at10 (by kernel_rfl) (fun _ _ _ h => h) (Or.inl ⟨by rfl, ?htd10⟩) (Or.inr (by assumption)) ?rtd10
        case htd10 => (intro w hSw; (try dsimp only at hSw); go_simp; try with_reducible rfl)
        case' rtd10 => skip
        try simp only [Act.put, List.setIfInBounds_toArray, List.set_cons_zero, List.set_cons_succ]
        refine wpAnyG_one 11 at11 (by kernel_rfl) (fun Kn hK => ?_)
        have k1 := hS5.1
        go_simp
        refine hK.out _ _ (Or.inl (by kernel_rfl)) ?_
        clear hK Kn hS hS5 hfz k1
        refine wpAnyG_done (by kernel_rfl) ?_
        try simp only [Act.put, List.setIfInBounds_toArray, List.set_cons_zero, List.set_cons_succ]
        have m0 := HM0.out
        go_wp2_with fail
        go_returns
        exact ⟨rfl, HEND.out⟩
    by_cases hk119 : s.kind = 119
    · have hkd : s.kind = 119 := hk119
      rw [hkd] at c0
      have HNT : Hid (noteP ⟨G.now, G.cor, G.pure⟩ s = ⟨G.now, G.cor, wordsP G.pure s⟩) := Lib.hid (by unfold noteP; rw [HD.out]; simp [hkd])
      have hof := of_calls HI3.out s HVN.out HSZ.out.2.1 HSZ.out.2.2.1
      rw [HSQ.out] at hof
      have HOF := Lib.hid hof
      clear hof
      go_wp2_with (with_reducible refine wp_stop_load (o := ⟨some 49, .load _ (.tmp 3), _, _, _, _⟩) _ _ rfl ?_)
      unfold Stop
      refine wpList_load_row rfl _ _ rfl _ rfl _ SA _ _ HRA.out Tryd.underlying37 rfl HIS.out ?_
      go_wp2_with fail
      refine HOF.out.mono ?_
      rintro e w4 ⟨hof, hb4⟩
      have HB4 := Lib.hid (HB3.out.trans (hb4.mono HB3.out.size))
      have HRB4 := Lib.hid ((Keep.of_below hb4 : Keep (fun _ => False) W3 w4).at HRB.out fun e => e)
      have HRA4 := Lib.hid ((Keep.of_below hb4 : Keep (fun _ => False) W3 w4).at HRA.out fun e => e)
      clear hb4 c0 c1 c3 c6 c7
      obtain ⟨c0, c1, c3, c6, c7⟩ := cmd_cells (s := s) (by rw [HCA.out]; exact HRB4.out)
      rw [hkd] at c0
      rcases hof with ⟨rfl, hno⟩ | ⟨g, n, c, xs, i, x, hk, hfi, hx, rfl⟩
      · have HEND : Hid (LedRet w role G (noteP ⟨G.now, G.cor, G.pure⟩ s).now (noteP ⟨G.now, G.cor, G.pure⟩ s).cor (noteP ⟨G.now, G.cor, G.pure⟩ s).P w4) := Lib.hid (by
          rw [HNT.out, words_none s hno]
          exact LedRet.still HH.out HB4.out)
        clear hno
        go_wp2_with fail
        go_returns
        exact ⟨rfl, HEND.out⟩
      · obtain ⟨we, hwe⟩ : ∃ y, w4.drew = y := ⟨_, rfl⟩
        have HBE : Hid (Below w.heap.size w we) := Lib.hid (by rw [← hwe]; exact HB4.out.drew)
        have HIE := Lib.hid (HH.out.below HBE.out)
        have HLE := Lib.hid (HIE.out.life _ _ hk i x hx)
        obtain ⟨A, ca, hvd, _, _⟩ := own_slice HLE.out.wrd
        obtain ⟨l, hl⟩ : ∃ l, x.ws.length = l := ⟨_, rfl⟩
        rw [hl] at hvd
        have hcl : ∀ j u, (lifeV x)[j]? = some u → we.cell? ⟨g, i * 9 + j, none⟩ = some u ∧ we.frozen? ⟨g, i * 9 + j, none⟩ = false := fun j u hj => by
          obtain ⟨g', c', hv, _, _, hc⟩ := HIE.out.last hk (by have := (List.getElem?_eq_some_iff.1 hx).1; omega)
          obtain rfl : g = g' := by have := congrArg Value.ownBlock hv; simpa [Value.ownBlock] using this
          exact hc i x hx j u hj
        have hS : (fun U : World => U.cell? ⟨g, i * 9 + 1, none⟩ = some (.slice A l ca) ∧ U.cell? ⟨w.heap.size + 1, 1, none⟩ = some (.string s.who) ∧ U.cell? ⟨w.heap.size + 1, 6, none⟩ = some (.string s.text) ∧ U.cell? ⟨w.heap.size, 22, none⟩ = some (.int .i64 s.epoch)) we := ⟨by rw [← hvd]; exact (hcl 1 _ rfl).1, by rw [← hwe]; exact c1, by rw [← hwe]; exact c6, by rw [← hwe]; exact step_cells (s := s) (by rw [HSQ.out]; exact HRA4.out)⟩
        obtain ⟨A9, c9, w5, hrun, ho5, hk5, hl5, hz5⟩ := append_word HLE.out.wrd ⟨s.who, s.text, s.epoch⟩ (by have := ((pure_small HPK.out hk).2 x (List.mem_of_getElem? hx)).2.1; have := HN.out; omega)
        rw [hvd, hl] at hrun
        dsimp only at hrun
        rw [hl] at ho5 hl5
        obtain ⟨r5, hI5, hkk5, hr5⟩ := HIE.out.worded hk hx ⟨s.who, s.text, s.epoch⟩ ho5 hk5 hl5 hz5
        have hgr : role g = .row (pathB s.owner s.file) := HH.out.rr _ _ hk g rfl
        have ng : ¬ x.vd.ownBlock = some g := fun e => by have := HLE.out.rw _ e; rw [hgr] at this; cases this
        have nb : ¬ x.vd.ownBlock = some (w.heap.size + 1) := fun e => by have := HLE.out.rw _ e; rw [HRN0.out] at this; cases this
        have na : ¬ x.vd.ownBlock = some w.heap.size := fun e => by have := HLE.out.rw _ e; rw [HRN1.out] at this; cases this
        have hS5 : w5.cell? ⟨g, i * 9 + 1, none⟩ = some (.slice A l ca) ∧ w5.cell? ⟨w.heap.size + 1, 1, none⟩ = some (.string s.who) ∧ w5.cell? ⟨w.heap.size + 1, 6, none⟩ = some (.string s.text) ∧ w5.cell? ⟨w.heap.size, 22, none⟩ = some (.int .i64 s.epoch) := ⟨hk5.cell hS.1 ng, hk5.cell hS.2.1 nb, hk5.cell hS.2.2.1 nb, hk5.cell hS.2.2.2 na⟩
        have hSa : ∀ ob, ((we.alloc ob).cell? ⟨g, i * 9 + 1, none⟩ = some (.slice A l ca) ∧ (we.alloc ob).cell? ⟨w.heap.size + 1, 1, none⟩ = some (.string s.who) ∧ (we.alloc ob).cell? ⟨w.heap.size + 1, 6, none⟩ = some (.string s.text) ∧ (we.alloc ob).cell? ⟨w.heap.size, 22, none⟩ = some (.int .i64 s.epoch)) := fun ob => by
          have KK := Keep.alloc (fun _ => False) we ob
          exact ⟨KK.cell hS.1 fun e => e, KK.cell hS.2.1 fun e => e, KK.cell hS.2.2.1 fun e => e, KK.cell hS.2.2.2 fun e => e⟩
        have hfz : w5.frozen? ⟨g, i * 9 + 1, none⟩ = false := by
          obtain ⟨cur, hcur, _⟩ := own_cells (HIE.out.row _ _ hk)
          exact frozen_of_row (hk5.at hcur ng) _
        obtain ⟨w6, hw6⟩ : ∃ y, w5.setCell ⟨g, i * 9 + 1, none⟩ (.slice A9 (l + 1) c9) = y := ⟨_, rfl⟩
        have HEND : Hid (LedRet w role G (noteP ⟨G.now, G.cor, G.pure⟩ s).now (noteP ⟨G.now, G.cor, G.pure⟩ s).cor (noteP ⟨G.now, G.cor, G.pure⟩ s).P w6) := Lib.hid (by
          rw [HNT.out, ← hw6]
          exact ⟨r5, _, hI5, rfl, rfl, rfl, rfl, words_some s hk hfi hx _, (Keep.of_below HBE.out).same hkk5, fun q hq => hr5 q (Nat.lt_of_lt_of_le hq HBE.out.size)⟩)
        have HSA := Lib.hid hSa
        clear hSa ho5 hk5 hl5 hz5 hI5 hkk5 hr5 nb na ng hk hfi hx hcl hgr hvd
        go_wp2_with fail
        refine wp_region_G (fun U : World => U.cell? ⟨g, i * 9 + 1, none⟩ = some (.slice A l ca) ∧ U.cell? ⟨w.heap.size + 1, 1, none⟩ = some (.string s.who) ∧ U.cell? ⟨w.heap.size + 1, 6, none⟩ = some (.string s.text) ∧ U.cell? ⟨w.heap.size, 22, none⟩ = some (.int .i64 s.epoch)) [19] (by kernel_rfl) ?_
        rw [hwe]
        clear hwe c0 c1 c3 c6 c7
        refine wpAnyG_pure (i := 0) (v := ?vte0) at0 (by kernel_rfl) (fun _ _ _ h => h) (Or.inl ⟨by rfl, ?hte0⟩) (Or.inr (by assumption)) ?rte0
        case hte0 => (intro w hSw; (try dsimp only at hSw); go_simp; try with_reducible rfl)
        case' rte0 => skip
        try simp only [Act.put, List.setIfInBounds_toArray, List.set_cons_zero, List.set_cons_succ]
        refine wpAnyG_pure (i := 1) (v := ?vte1) at1 (by kernel_rfl) (fun _ _ _ h => h) (Or.inl ⟨by rfl, ?hte1⟩) (Or.inr (by assumption)) ?rte1
        case hte1 => (intro w hSw; (try dsimp only at hSw); go_simp; try with_reducible rfl)
        case' rte1 => skip
        try simp only [Act.put, List.setIfInBounds_toArray, List.set_cons_zero, List.set_cons_succ]
        refine wpAnyG_pure (i := 2) (v := ?vte2) at2 (by kernel_rfl) (fun _ _ _ h => h) (Or.inl ⟨by rfl, ?hte2⟩) (Or.inr (by assumption)) ?rte2
        case hte2 => (intro w hSw; (try dsimp only at hSw); go_simp; try with_reducible rfl)
        case' rte2 => skip
        try simp only [Act.put, List.setIfInBounds_toArray, List.set_cons_zero, List.set_cons_succ]
        refine wpAnyG_pure (i := 3) (v := ?vte3) at3 (by kernel_rfl) (fun _ _ _ h => h) (Or.inl ⟨by rfl, ?hte3⟩) (Or.inr (by assumption)) ?rte3
        case hte3 => (intro w hSw; (try dsimp only at hSw); go_simp; try with_reducible rfl)
        case' rte3 => skip
        try simp only [Act.put, List.setIfInBounds_toArray, List.set_cons_zero, List.set_cons_succ]
        refine wpAnyG_pure (i := 4) (v := ?vte4) at4 (by kernel_rfl) (fun _ _ _ h => h) (Or.inl ⟨by rfl, ?hte4⟩) (Or.inr (by assumption)) ?rte4
        case hte4 => (intro w hSw; (try dsimp only at hSw); go_simp; try with_reducible rfl)
        case' rte4 => skip
        try simp only [Act.put, List.setIfInBounds_toArray, List.set_cons_zero, List.set_cons_succ]
        refine wpAnyG_take (ws := [5,7,9,12,13]) (i := 5) (v := ?vte5) at5 (by kernel_rfl) (fun _ _ _ h => h) (Or.inl ⟨by rfl, ?hte5⟩) (by assumption) ?rte5
        case hte5 => (intro w hSw; (try dsimp only at hSw); go_simp; try with_reducible rfl)
        case' rte5 => skip
        try simp only [Act.put, List.setIfInBounds_toArray, List.set_cons_zero, List.set_cons_succ]
        refine wpAnyG_pure (i := 6) (v := ?vte6) at6 (by kernel_rfl) (fun _ _ _ h => h) (Or.inl ⟨by rfl, ?hte6⟩) (Or.inr (by assumption)) ?rte6
        case hte6 => (intro w hSw; (try dsimp only at hSw); go_simp; try with_reducible rfl)
        case' rte6 => skip
        try simp only [Act.put, List.setIfInBounds_toArray, List.set_cons_zero, List.set_cons_succ]
        refine wpAnyG_take (ws := [5,7,9,12,13]) (i := 7) (v := ?vte7) at7 (by kernel_rfl) (fun _ _ _ h => h) (Or.inl ⟨by rfl, ?hte7⟩) (by assumption) ?rte7
        case hte7 => (intro w hSw; (try dsimp only at hSw); go_simp; try with_reducible rfl)
        case' rte7 => skip
        try simp only [Act.put, List.setIfInBounds_toArray, List.set_cons_zero, List.set_cons_succ]
        refine wpAnyG_pure (i := 8) (v := ?vte8) at8 (by kernel_rfl) (fun _ _ _ h => h) (Or.inl ⟨by rfl, ?hte8⟩) (Or.inr (by assumption)) ?rte8
        case hte8 => (intro w hSw; (try dsimp only at hSw); go_simp; try with_reducible rfl)
        case' rte8 => skip
        try simp only [Act.put, List.setIfInBounds_toArray, List.set_cons_zero, List.set_cons_succ]
        refine wpAnyG_take (ws := [5,7,9,12,13]) (i := 9) (v := ?vte9) at9 (by kernel_rfl) (fun _ _ _ h => h) (Or.inl ⟨by rfl, ?hte9⟩) (by assumption) ?rte9
        case hte9 => (intro w hSw; (try dsimp only at hSw); go_simp; try with_reducible rfl)
        case' rte9 => skip
        try simp only [Act.put, List.setIfInBounds_toArray, List.set_cons_zero, List.set_cons_succ]
        refine wpAnyG_pure (i := 10) (v := ?vte10) at10 (by kernel_rfl) (fun _ _ _ h => h) (Or.inl ⟨by rfl, ?hte10⟩) (Or.inr (by assumption)) ?rte10
        case hte10 => (intro w hSw; (try dsimp only at hSw); go_simp; try with_reducible rfl)
        case' rte10 => skip
        try simp only [Act.put, List.setIfInBounds_toArray, List.set_cons_zero, List.set_cons_succ]
        refine wpAnyG_pure (i := 11) (v := ?vte11) at11 (by kernel_rfl) (fun _ _ _ h => h) (Or.inl ⟨by rfl, ?hte11⟩) (Or.inr (by assumption)) ?rte11
        case hte11 => (intro w hSw; (try dsimp only at hSw); go_simp; try with_reducible rfl)
        case' rte11 => skip
        try simp only [Act.put, List.setIfInBounds_toArray, List.set_cons_zero, List.set_cons_succ]
        refine wpAnyG_take (ws := [5,7,9,12,13]) (i := 12) (v := ?vte12) at12 (by kernel_rfl) (fun _ _ _ h => h) (Or.inl ⟨by rfl, ?hte12⟩) (by assumption) ?rte12
        case hte12 => (intro w hSw; (try dsimp only at hSw); go_simp; try with_reducible rfl)
        case' rte12 => skip
        try simp only [Act.put, List.setIfInBounds_toArray, List.set_cons_zero, List.set_cons_succ]
        refine wpAnyG_pure (i := 13) (v := ?vte13) at13 (by kernel_rfl) (fun _ _ _ h => h) (Or.inl ⟨by rfl, ?hte13⟩) (Or.inr (by assumption)) ?rte13
        case hte13 => (intro w hSw; (try dsimp only at hSw); go_simp; try with_reducible rfl)
        case' rte13 => skip
        try simp only [Act.put, List.setIfInBounds_toArray, List.set_cons_zero, List.set_cons_succ]
        refine wpAnyG_one 14 at14 (by kernel_rfl) (fun Kn hK => ?_)
        go_simp
        refine hK.out _ _ (Or.inr (HSA.out _)) ?_
        clear hK Kn hS
        try simp only [Act.put, List.setIfInBounds_toArray, List.set_cons_zero, List.set_cons_succ]
        refine wpAnyG_one 15 at15 (by kernel_rfl) (fun Kn hK => ?_)
        refine step_append_run rfl _ _ _ rfl rfl rfl hrun ?_
        refine hK.out _ _ (Or.inr hS5) ?_
        clear hK Kn hrun
        try simp only [Act.put, List.setIfInBounds_toArray, List.set_cons_zero, List.set_cons_succ]
        have hS := hS5
        refine wpAnyG_pure (i := 16) (v := ?vtf16) at16 (by kernel_rfl) (fun _ _ _ h => h) (Or.inl ⟨by rfl, ?htf16⟩) (Or.inr (by assumption)) ?rtf16
        case htf16 => (intro w hSw; (try dsimp only at hSw); go_simp; try with_reducible rfl)
        case' rtf16 => skip
        try simp only [Act.put, List.setIfInBounds_toArray, List.set_cons_zero, List.set_cons_succ]
        refine wpAnyG_pure (i := 17) (v := ?vtf17) at17 (by kernel_rfl) (fun _ _ _ h => h) (Or.inl ⟨by rfl, ?htf17⟩) (Or.inr (by assumption)) ?rtf17
        case htf17 => (intro w hSw; (try dsimp only at hSw); go_simp; try with_reducible rfl)
        case' rtf17 => skip
        try simp only [Act.put, List.setIfInBounds_toArray, List.set_cons_zero, List.set_cons_succ]
        refine wpAnyG_pure (i := 18) (v := ?vtf18) at18 (by kernel_rfl) (fun _ _ _ h => h) (Or.inl ⟨by rfl, ?htf18⟩) (Or.inr (by assumption)) ?rtf18
        case htf18 => (intro w hSw; (try dsimp only at hSw); go_simp; try with_reducible rfl)
        case' rtf18 => skip
        try simp only [Act.put, List.setIfInBounds_toArray, List.set_cons_zero, List.set_cons_succ]
        refine wpAnyG_one 19 at19 (by kernel_rfl) (fun Kn hK => ?_)
        have k1 := hS5.1
        go_simp
        refine hK.out _ _ (Or.inl (by kernel_rfl)) ?_
        clear hK Kn hS hS5 hfz k1
        refine wpAnyG_done (by kernel_rfl) ?_
        try simp only [Act.put, List.setIfInBounds_toArray, List.set_cons_zero, List.set_cons_succ]
        go_wp2_with fail
        go_returns
        exact ⟨rfl, HEND.out⟩
    by_cases hk99 : s.kind = 99
    · have hkd : s.kind = 99 := hk99
      rw [hkd] at c0
      have HNT : Hid (noteP ⟨G.now, G.cor, G.pure⟩ s = ⟨G.now, G.cor, markP G.now s.who (beginP G.pure s.who s.file)⟩) := Lib.hid (by unfold noteP; rw [HD.out]; simp [hkd])
      have HBG := Lib.hid (begin_calls HI3.out s.who s.file HSZ.out.1 HSZ.out.2.2.1 (by have := (lives_small HPK.out (pathB s.who s.file)).1; have := HN.out; omega) HT3.out)
      go_wp2_with fail
      refine HBG.out.mono ?_
      rintro e w4 ⟨rfl, hl1⟩
      have HL1 : Hid (LedRet W3 role G G.now G.cor (beginP G.pure s.who s.file) w4) := Lib.hid hl1
      clear hl1

      have HPO : Hid (POk (N + 1) (beginP G.pure s.who s.file)) := Lib.hid (HPK.out.begin _ _)
      obtain ⟨r1, G1, hI1, hb1, hbo1, hn1, hc1, hp1, hk1, ho1⟩ := HL1.out
      have hrow := hk1.at HRB.out (fun e => e HRN.out)
      obtain ⟨m0, m1, m3, m6, m7⟩ := cmd_cells (s := s) (by rw [HCA.out]; exact hrow)
      rw [hkd] at m0
      have hmk := mark_calls hI1 s.who HSZ.out.1 (fun k r hk x hx => by have := ((pure_small (by rw [hp1]; exact HPO.out) (v := r.1) (xs := r.2) hk).2 x hx).1; have := HN.out; omega)
      have HGB := Lib.hid hb1
      rw [hb1] at hmk
      have HMK := Lib.hid hmk
      have HAF : Hid (∀ wz, LedRet w4 r1 G1 G1.now G1.cor (markP G1.now s.who G1.pure) wz → LedRet w role G (noteP ⟨G.now, G.cor, G.pure⟩ s).now (noteP ⟨G.now, G.cor, G.pure⟩ s).cor (noteP ⟨G.now, G.cor, G.pure⟩ s).P wz) := Lib.hid (fun wz hz => by
        rw [HNT.out]
        rw [hn1, hc1, hp1] at hz
        exact (LedRet.after hb1 hbo1 hk1 ho1 hz).lift HB3.out)
      clear hI1 hb1 hbo1 hn1 hc1 hp1 hk1 ho1 hrow hmk
      clear c0 c1 c3 c6 c7
      go_wp2_with fail
      refine HMK.out.mono ?_
      rintro e wz ⟨rfl, hmr⟩
      rw [← HGB.out] at hmr
      have HEND := Lib.hid (HAF.out wz (mark_ret hmr))
      clear hmr
      go_wp2_with fail
      go_returns
      exact ⟨rfl, HEND.out⟩
    by_cases hk103 : s.kind = 103
    · have hkd : s.kind = 103 := hk103
      rw [hkd] at c0
      have HNT : Hid (noteP ⟨G.now, G.cor, G.pure⟩ s = ⟨G.now, G.cor, markP G.now s.who (changeP G.pure s)⟩) := Lib.hid (by unfold noteP; rw [HD.out]; simp [hkd])
      have hcg := change_calls HI3.out s HSZ.out.1 HSZ.out.2.2.1 HSZ.out.2.2.2 (fun x hx => (Rt.right_good ((lives_small HPK.out (pathB s.who s.file)).2 x hx).2.2.1).wf) HT3.out
      rw [HCA.out] at hcg
      have HCG := Lib.hid hcg
      clear hcg
      go_wp2_with (with_reducible refine wp_stop_load (o := ⟨some 84, .load _ (.tmp 4), _, _, _, _⟩) _ _ rfl ?_)
      unfold Stop
      refine wpList_load_row rfl _ _ rfl _ rfl _ CA _ _ HRB.out Tryd.underlying31 rfl HIC.out ?_
      go_wp2_with fail
      refine HCG.out.mono ?_
      rintro e w4 ⟨rfl, hl1⟩
      have HL1 : Hid (LedRet W3 role G G.now G.cor (changeP G.pure s) w4) := Lib.hid hl1
      clear hl1

      have HPO : Hid (POk (N + 1) (changeP G.pure s)) := Lib.hid ((HPK.out.change s).mono (Nat.le_succ _))
      obtain ⟨r1, G1, hI1, hb1, hbo1, hn1, hc1, hp1, hk1, ho1⟩ := HL1.out
      have hrow := hk1.at HRB.out (fun e => e HRN.out)
      obtain ⟨m0, m1, m3, m6, m7⟩ := cmd_cells (s := s) (by rw [HCA.out]; exact hrow)
      rw [hkd] at m0
      have hmk := mark_calls hI1 s.who HSZ.out.1 (fun k r hk x hx => by have := ((pure_small (by rw [hp1]; exact HPO.out) (v := r.1) (xs := r.2) hk).2 x hx).1; have := HN.out; omega)
      have HGB := Lib.hid hb1
      rw [hb1] at hmk
      have HMK := Lib.hid hmk
      have HAF : Hid (∀ wz, LedRet w4 r1 G1 G1.now G1.cor (markP G1.now s.who G1.pure) wz → LedRet w role G (noteP ⟨G.now, G.cor, G.pure⟩ s).now (noteP ⟨G.now, G.cor, G.pure⟩ s).cor (noteP ⟨G.now, G.cor, G.pure⟩ s).P wz) := Lib.hid (fun wz hz => by
        rw [HNT.out]
        rw [hn1, hc1, hp1] at hz
        exact (LedRet.after hb1 hbo1 hk1 ho1 hz).lift HB3.out)
      clear hI1 hb1 hbo1 hn1 hc1 hp1 hk1 ho1 hrow hmk
      clear c0 c1 c3 c6 c7
      go_wp2_with fail
      refine HMK.out.mono ?_
      rintro e wz ⟨rfl, hmr⟩
      rw [← HGB.out] at hmr
      have HEND := Lib.hid (HAF.out wz (mark_ret hmr))
      clear hmr
      go_wp2_with fail
      go_returns
      exact ⟨rfl, HEND.out⟩
    by_cases hk107 : s.kind = 107
    · have hkd : s.kind = 107 := hk107
      rw [hkd] at c0
      have HNT : Hid (noteP ⟨G.now, G.cor, G.pure⟩ s = ⟨G.now, G.cor, markP G.now s.who (changeP G.pure s)⟩) := Lib.hid (by unfold noteP; rw [HD.out]; simp [hkd])
      have hcg := change_calls HI3.out s HSZ.out.1 HSZ.out.2.2.1 HSZ.out.2.2.2 (fun x hx => (Rt.right_good ((lives_small HPK.out (pathB s.who s.file)).2 x hx).2.2.1).wf) HT3.out
      rw [HCA.out] at hcg
      have HCG := Lib.hid hcg
      clear hcg
      go_wp2_with (with_reducible refine wp_stop_load (o := ⟨some 84, .load _ (.tmp 4), _, _, _, _⟩) _ _ rfl ?_)
      unfold Stop
      refine wpList_load_row rfl _ _ rfl _ rfl _ CA _ _ HRB.out Tryd.underlying31 rfl HIC.out ?_
      go_wp2_with fail
      refine HCG.out.mono ?_
      rintro e w4 ⟨rfl, hl1⟩
      have HL1 : Hid (LedRet W3 role G G.now G.cor (changeP G.pure s) w4) := Lib.hid hl1
      clear hl1

      have HPO : Hid (POk (N + 1) (changeP G.pure s)) := Lib.hid ((HPK.out.change s).mono (Nat.le_succ _))
      obtain ⟨r1, G1, hI1, hb1, hbo1, hn1, hc1, hp1, hk1, ho1⟩ := HL1.out
      have hrow := hk1.at HRB.out (fun e => e HRN.out)
      obtain ⟨m0, m1, m3, m6, m7⟩ := cmd_cells (s := s) (by rw [HCA.out]; exact hrow)
      rw [hkd] at m0
      have hmk := mark_calls hI1 s.who HSZ.out.1 (fun k r hk x hx => by have := ((pure_small (by rw [hp1]; exact HPO.out) (v := r.1) (xs := r.2) hk).2 x hx).1; have := HN.out; omega)
      have HGB := Lib.hid hb1
      rw [hb1] at hmk
      have HMK := Lib.hid hmk
      have HAF : Hid (∀ wz, LedRet w4 r1 G1 G1.now G1.cor (markP G1.now s.who G1.pure) wz → LedRet w role G (noteP ⟨G.now, G.cor, G.pure⟩ s).now (noteP ⟨G.now, G.cor, G.pure⟩ s).cor (noteP ⟨G.now, G.cor, G.pure⟩ s).P wz) := Lib.hid (fun wz hz => by
        rw [HNT.out]
        rw [hn1, hc1, hp1] at hz
        exact (LedRet.after hb1 hbo1 hk1 ho1 hz).lift HB3.out)
      clear hI1 hb1 hbo1 hn1 hc1 hp1 hk1 ho1 hrow hmk
      clear c0 c1 c3 c6 c7
      go_wp2_with fail
      refine HMK.out.mono ?_
      rintro e wz ⟨rfl, hmr⟩
      rw [← HGB.out] at hmr
      have HEND := Lib.hid (HAF.out wz (mark_ret hmr))
      clear hmr
      go_wp2_with fail
      go_returns
      exact ⟨rfl, HEND.out⟩
    by_cases hk109 : s.kind = 109
    · have hkd : s.kind = 109 := hk109
      rw [hkd] at c0
      have HNT : Hid (noteP ⟨G.now, G.cor, G.pure⟩ s = ⟨G.now, G.cor, markP G.now s.who (goneP G.pure (pathB s.who s.file))⟩) := Lib.hid (by unfold noteP; rw [HD.out]; simp [hkd])
      have HON := Lib.hid (on_calls HI3.out s.who s.file HSZ.out.1 HSZ.out.2.2.1)
      go_wp2_with fail
      refine HON.out.mono ?_
      rintro e w4 ⟨hon, hw4⟩
      obtain rfl : w4 = W3 := hw4
      rcases hon with ⟨rfl, hgone⟩ | ⟨g, n, c, xs, x, hk, hn, hx, hxg, rfl⟩
      · have HL1 : Hid (LedRet w4 role G G.now G.cor (goneP G.pure (pathB s.who s.file)) w4) := Lib.hid (by
          rw [gone_none hgone]
          exact LedRet.still HI3.out (Below.refl _ _))
        clear hgone
        have HPO : Hid (POk (N + 1) (goneP G.pure (pathB s.who s.file))) := Lib.hid ((HPK.out.gone _).mono (Nat.le_succ _))
        obtain ⟨r1, G1, hI1, hb1, hbo1, hn1, hc1, hp1, hk1, ho1⟩ := HL1.out
        have hrow := hk1.at HRB.out (fun e => e HRN.out)
        obtain ⟨m0, m1, m3, m6, m7⟩ := cmd_cells (s := s) (by rw [HCA.out]; exact hrow)
        rw [hkd] at m0
        have hmk := mark_calls hI1 s.who HSZ.out.1 (fun k r hk x hx => by have := ((pure_small (by rw [hp1]; exact HPO.out) (v := r.1) (xs := r.2) hk).2 x hx).1; have := HN.out; omega)
        have HGB := Lib.hid hb1
        rw [hb1] at hmk
        have HMK := Lib.hid hmk
        have HAF : Hid (∀ wz, LedRet w4 r1 G1 G1.now G1.cor (markP G1.now s.who G1.pure) wz → LedRet w role G (noteP ⟨G.now, G.cor, G.pure⟩ s).now (noteP ⟨G.now, G.cor, G.pure⟩ s).cor (noteP ⟨G.now, G.cor, G.pure⟩ s).P wz) := Lib.hid (fun wz hz => by
          rw [HNT.out]
          rw [hn1, hc1, hp1] at hz
          exact (LedRet.after hb1 hbo1 hk1 ho1 hz).lift HB3.out)
        clear hI1 hb1 hbo1 hn1 hc1 hp1 hk1 ho1 hrow hmk
        clear c0 c1 c3 c6 c7
        go_wp2_with fail
        refine HMK.out.mono ?_
        rintro e wz ⟨rfl, hmr⟩
        rw [← HGB.out] at hmr
        have HEND := Lib.hid (HAF.out wz (mark_ret hmr))
        clear hmr
        go_wp2_with fail
        go_returns
        exact ⟨rfl, HEND.out⟩
      · have hcl : w4.cell? ⟨g, n * 9 + 2, none⟩ = some (.bool false) ∧ w4.frozen? ⟨g, n * 9 + 2, none⟩ = false := by
          obtain ⟨g', c', hv, _, _, hc⟩ := HI3.out.last hk (by omega)
          obtain rfl : g = g' := by have := congrArg Value.ownBlock hv; simpa [Value.ownBlock] using this
          have := hc n x hx 2 _ rfl
          rw [hxg] at this; exact this
        obtain ⟨k2, f2⟩ := hcl
        obtain ⟨w5, hw5⟩ : ∃ y, w4.setCell ⟨g, n * 9 + 2, none⟩ (.bool true) = y := ⟨_, rfl⟩
        have HL1 : Hid (LedRet w4 role G G.now G.cor (goneP G.pure (pathB s.who s.file)) w5) := Lib.hid (by
          obtain ⟨hI, hkk⟩ := HI3.out.goned hk hx
          rw [hw5] at hI hkk
          exact ⟨role, _, hI, rfl, rfl, rfl, rfl, gone_some hk hn hx hxg, hkk, fun _ _ => rfl⟩)
        clear hk hn hx hxg
        have HPO : Hid (POk (N + 1) (goneP G.pure (pathB s.who s.file))) := Lib.hid ((HPK.out.gone _).mono (Nat.le_succ _))
        obtain ⟨r1, G1, hI1, hb1, hbo1, hn1, hc1, hp1, hk1, ho1⟩ := HL1.out
        have hrow := hk1.at HRB.out (fun e => e HRN.out)
        obtain ⟨m0, m1, m3, m6, m7⟩ := cmd_cells (s := s) (by rw [HCA.out]; exact hrow)
        rw [hkd] at m0
        have hmk := mark_calls hI1 s.who HSZ.out.1 (fun k r hk x hx => by have := ((pure_small (by rw [hp1]; exact HPO.out) (v := r.1) (xs := r.2) hk).2 x hx).1; have := HN.out; omega)
        have HGB := Lib.hid hb1
        rw [hb1] at hmk
        have HMK := Lib.hid hmk
        have HAF : Hid (∀ wz, LedRet w5 r1 G1 G1.now G1.cor (markP G1.now s.who G1.pure) wz → LedRet w role G (noteP ⟨G.now, G.cor, G.pure⟩ s).now (noteP ⟨G.now, G.cor, G.pure⟩ s).cor (noteP ⟨G.now, G.cor, G.pure⟩ s).P wz) := Lib.hid (fun wz hz => by
          rw [HNT.out]
          rw [hn1, hc1, hp1] at hz
          exact (LedRet.after hb1 hbo1 hk1 ho1 hz).lift HB3.out)
        clear hI1 hb1 hbo1 hn1 hc1 hp1 hk1 ho1 hrow hmk

        go_wp2_with fail
        refine HMK.out.mono ?_
        rintro e wz ⟨rfl, hmr⟩
        rw [← HGB.out] at hmr
        have HEND := Lib.hid (HAF.out wz (mark_ret hmr))
        clear hmr
        go_wp2_with fail
        go_returns
        exact ⟨rfl, HEND.out⟩
    by_cases hk102 : s.kind = 102
    · have hkd : s.kind = 102 := hk102
      rw [hkd] at c0
      have HNT : Hid (noteP ⟨G.now, G.cor, G.pure⟩ s = ⟨G.now, G.cor, markP G.now s.who G.pure⟩) := Lib.hid (by unfold noteP; rw [HD.out]; simp [hkd])
      have HL1 : Hid (LedRet W3 role G G.now G.cor G.pure W3) := Lib.hid (LedRet.still HI3.out (Below.refl _ _))

      have HPO : Hid (POk (N + 1) (G.pure)) := Lib.hid (HPK.out.mono (Nat.le_succ _))
      obtain ⟨r1, G1, hI1, hb1, hbo1, hn1, hc1, hp1, hk1, ho1⟩ := HL1.out
      have hrow := hk1.at HRB.out (fun e => e HRN.out)
      obtain ⟨m0, m1, m3, m6, m7⟩ := cmd_cells (s := s) (by rw [HCA.out]; exact hrow)
      rw [hkd] at m0
      have hmk := mark_calls hI1 s.who HSZ.out.1 (fun k r hk x hx => by have := ((pure_small (by rw [hp1]; exact HPO.out) (v := r.1) (xs := r.2) hk).2 x hx).1; have := HN.out; omega)
      have HGB := Lib.hid hb1
      rw [hb1] at hmk
      have HMK := Lib.hid hmk
      have HAF : Hid (∀ wz, LedRet W3 r1 G1 G1.now G1.cor (markP G1.now s.who G1.pure) wz → LedRet w role G (noteP ⟨G.now, G.cor, G.pure⟩ s).now (noteP ⟨G.now, G.cor, G.pure⟩ s).cor (noteP ⟨G.now, G.cor, G.pure⟩ s).P wz) := Lib.hid (fun wz hz => by
        rw [HNT.out]
        rw [hn1, hc1, hp1] at hz
        exact (LedRet.after hb1 hbo1 hk1 ho1 hz).lift HB3.out)
      clear hI1 hb1 hbo1 hn1 hc1 hp1 hk1 ho1 hrow hmk
      clear c0 c1 c3 c6 c7
      go_wp2_with fail
      refine HMK.out.mono ?_
      rintro e wz ⟨rfl, hmr⟩
      rw [← HGB.out] at hmr
      have HEND := Lib.hid (HAF.out wz (mark_ret hmr))
      clear hmr
      go_wp2_with fail
      go_returns
      exact ⟨rfl, HEND.out⟩
    have HEND : Hid (LedRet w role G (noteP ⟨G.now, G.cor, G.pure⟩ s).now (noteP ⟨G.now, G.cor, G.pure⟩ s).cor (noteP ⟨G.now, G.cor, G.pure⟩ s).P W3) := Lib.hid (by
      unfold noteP
      rw [HD.out]
      simp only [hk116, hk120, hk119, hk99, hk103, hk107, hk109, hk102, or_self, if_false, Bool.true_eq_false]
      exact LedRet.still HH.out HB3.out)
    have f116 : (s.kind == 116) = false := beq_eq_false_iff_ne.2 hk116
    have f120 : (s.kind == 120) = false := beq_eq_false_iff_ne.2 hk120
    have f119 : (s.kind == 119) = false := beq_eq_false_iff_ne.2 hk119
    have f99 : (s.kind == 99) = false := beq_eq_false_iff_ne.2 hk99
    have f103 : (s.kind == 103) = false := beq_eq_false_iff_ne.2 hk103
    have f107 : (s.kind == 107) = false := beq_eq_false_iff_ne.2 hk107
    have f109 : (s.kind == 109) = false := beq_eq_false_iff_ne.2 hk109
    have f102 : (s.kind == 102) = false := beq_eq_false_iff_ne.2 hk102
    clear hk116 hk120 hk119 hk99 hk103 hk107 hk109 hk102
    go_wp2_with fail
    go_returns
    exact ⟨rfl, HEND.out⟩
end Go.Proofs.YtgacfkenndhcnaaDoor
