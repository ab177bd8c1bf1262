/- law 8: turned. (Printed by tools/gmt.py.) -/
import Derived.Test.YtckblcfkajpofaaGreatDoorZC4
import Derived.Test.YtckblcfkajpofaaGreatDoorZC5
import Derived.Test.YtckblcfkajpofaaGreatDoorZMq
import Derived.Test.YtckblcfkajpofaaGreatDoorZA8
namespace Go.Proofs.YtckblcfkajpofaaGreatDoor
open Go.RowKit Go.Sort
set_option linter.unusedVariables false
set_option linter.unusedSimpArgs false

theorem whoList_names : ∀ u ∈ whoList, nameR u = true := by
  intro u hu
  unfold whoList at hu
  simp only [List.mem_cons, List.not_mem_nil, or_false] at hu
  rcases hu with rfl | rfl | rfl | rfl | rfl | rfl | rfl | rfl <;> kernel_rfl
def turnRow (t : Int × Int) : List Value := [.int .i64 t.1, .int .i64 t.2]
structure turnWf (t : Int × Int) : Prop where
  a1 : -9223372036854775808 ≤ t.1
  a2 : t.1 ≤ 9223372036854775807
  b1 : -9223372036854775808 ≤ t.2
  b2 : t.2 ≤ 9223372036854775807
theorem turn_at {w wr : World} {A : Option Addr} {n c k : Nat} {l : List (Int × Int)} {x : Int × Int} (hv : rowsOf 2 turnRow w (.slice A n c) l) (hb : Below w.heap.size w wr) (hx : l[k]? = some x) (b off : Nat) (hA : A = some ⟨b, off, none⟩) :
    wr.cell? ⟨b, off + k * 2, none⟩ = some (.int .i64 x.1) ∧ wr.cell? ⟨b, off + k * 2 + 1, none⟩ = some (.int .i64 x.2) := by
  obtain ⟨A', c', e, _, _, h3⟩ := hv.below hb
  have hlt := (List.getElem?_eq_some_iff.1 hx).1
  obtain ⟨b', off', rfl, hc⟩ := h3 (by omega)
  cases e
  cases hA
  exact ⟨hc k x hx 0 _ rfl, hc k x hx 1 _ rfl⟩
structure TuSt (w wr : World) (R Z : Nat) (r : Rt) (vr vw : Value) : Prop where
  res : wr.heap[R]? = some (.cells #[.string ⟨#[]⟩, .string ⟨#[]⟩, .int .i64 0, .slice none 0 0, .slice none 0 0] 39 (0, 0))
  row : wr.heap[Z]? = some (.cells #[.string r.owner, .string r.file, .int .i64 r.epoch, vr, vw] 39 (0, 0))
  ls : Lists wr r vr vw
  below : Below w.heap.size w wr
  n1 : r.rd ≠ [] → ∀ g, vr.ownBlock = some g → g ≠ R ∧ g ≠ Z
  n2 : r.wr ≠ [] → ∀ g, vw.ownBlock = some g → g ≠ R ∧ g ≠ Z
  zb : w.heap.size = R ∧ R < Z
theorem TuSt.next {w wr w' : World} {R Z : Nat} {r : Rt} {vr vw : Value} (h : TuSt w wr R Z r vr vw) (k : Below wr.heap.size wr w') : TuSt w w' R Z r vr vw :=
  ⟨(Keep.of_below k : Keep (fun _ => False) wr w').at h.res fun e => e, (Keep.of_below k : Keep (fun _ => False) wr w').at h.row fun e => e, h.ls.below k, h.below.trans (k.mono h.below.size), h.n1, h.n2, h.zb⟩
/-- a store into a block that is newer -/
theorem TuSt.newer {w wr w8 w9 : World} {R Z Y : Nat} {r : Rt} {vr vw : Value} (h : TuSt w wr R Z r vr vw) (hb : Below wr.heap.size wr w8) (hY : wr.heap.size ≤ Y) (k : Keep (fun i => i = Y) w8 w9) : TuSt w w9 R Z r vr vw := by
  have h8 := h.next hb
  have hz : Z < wr.heap.size := (Array.getElem?_eq_some_iff.1 h.row).1
  have hzb := h.zb
  refine ⟨k.at h8.res (by omega), k.at h8.row (by omega), ⟨h8.ls.rd.keep3 k fun h0 g hg e => ?_, h8.ls.wr.keep3 k fun h0 g hg e => ?_⟩, ((Keep.of_below h8.below : Keep (fun i => w.heap.size ≤ i) w w8).same (k.mono fun i hi => by have e : i = Y := hi; have := h.below.size; omega)).new, h.n1, h.n2, h.zb⟩
  · have := h.ls.rd.lt h0 g hg; omega
  · have := h.ls.wr.lt h0 g hg; omega
theorem TuSt.post {w wr w6 w8 w9 : World} {R Z Y : Nat} {r x : Rt} {e : Int} {vr vw vr' vw' : Value} (h : TuSt w wr R Z r vr vw) (hb6 : Below wr.heap.size wr w6) (hY : wr.heap.size ≤ Y) (hY6 : Y < w6.heap.size) (hb : Below w6.heap.size w6 w8)
    (h9 : w9.heap[Y]? = some (.cells #[.string x.owner, .string x.file, .int .i64 x.epoch, vr', vw'] 39 (0, 0))) (k : Keep (fun i => i = Y) w8 w9) (hl : Lists w8 x vr' vw') (hn : ∀ g, (vr'.ownBlock = some g ∨ vw'.ownBlock = some g) → w6.heap.size ≤ g) :
    (e = 0 → w9.heap[Y]? = some (.cells #[.string x.owner, .string x.file, .int .i64 x.epoch, vr', vw'] 39 (0, 0)) ∧ w9.heap[Z]? = some (.cells #[.string r.owner, .string r.file, .int .i64 r.epoch, vr, vw] 39 (0, 0)) ∧
      ∀ w10 : World, w10.heap[Z]? = some (.cells #[.string x.owner, .string x.file, .int .i64 x.epoch, vr', vw'] 39 (0, 0)) → Keep (fun i => i = Z) w9 w10 → TuSt w w10 R Z x vr' vw') ∧ (e ≠ 0 → TuSt w w9 R Z r vr vw) := by
  have hz : Z < wr.heap.size := (Array.getElem?_eq_some_iff.1 h.row).1
  have h9' := h.newer (hb6.trans (hb.mono hb6.size)) hY k
  have hzb := h.zb
  refine ⟨fun _ => ⟨h9, h9'.row, fun w10 h10 k10 => ?_⟩, fun _ => h9'⟩
  refine ⟨k10.at h9'.res (by omega), h10, ⟨(hl.rd.keep k fun g hg e => by have := hn g (Or.inl hg); omega).keep k10 fun g hg e => ?_, (hl.wr.keep k fun g hg e => by have := hn g (Or.inr hg); omega).keep k10 fun g hg e => ?_⟩, ((Keep.of_below h9'.below : Keep (fun i => w.heap.size ≤ i) w w9).same (k10.mono fun i hi => by have e : i = Z := hi; omega)).new, fun _ g hg => ?_, fun _ g hg => ?_, h.zb⟩
  · have := hn g (Or.inl hg); omega
  · have := hn g (Or.inr hg); omega
  · have := hn g (Or.inl hg); omega
  · have := hn g (Or.inr hg); omega
set_option maxRecDepth 100000 in
set_option maxHeartbeats 8000000 in
theorem turned8_calls (w : World) (v : Value) (l : List (Int × Int)) (hv : rowsOf 2 turnRow w v l) (hw : ∀ t ∈ l, turnWf t) :
    Calls Tryz.prog 44 #[v] w fun e w' => (∃ vr vw, e = .returned (agR (turnedP l) vr vw) ∧ Lists w' (turnedP l) vr vw) ∧ Below w.heap.size w w' := by
  obtain ⟨A, c, rfl, hlc, hlm, hA⟩ := id hv
  have HA := Lib.hid hA
  have HV := Lib.hid hv
  have HW := Lib.hid hw
  have HN7 := Lib.hid new7_calls
  obtain ⟨R, hR⟩ : ∃ R, w.heap.size = R := ⟨_, rfl⟩
  obtain ⟨W0, hW0⟩ : ∃ W0, w.alloc (.cells #[.string ⟨#[]⟩, .string ⟨#[]⟩, .int .i64 0, .slice none 0 0, .slice none 0 0] 39) = W0 := ⟨_, rfl⟩
  have hb0 : Below w.heap.size w W0 := by rw [← hW0]; exact (Below.refl _ w).alloc (Nat.le_refl _) _
  have hr0 : W0.heap[R]? = some (.cells #[.string ⟨#[]⟩, .string ⟨#[]⟩, .int .i64 0, .slice none 0 0, .slice none 0 0] 39 (0, 0)) := by rw [← hW0, ← hR, get_alloc, if_pos rfl]
  have HB0 := Lib.hid hb0
  have HR0 := Lib.hid hr0
  obtain ⟨n, hn⟩ : ∃ n, l.length = n := ⟨_, rfl⟩
  have HLEN := Lib.hid hn
  rw [hn] at hlc hlm HV ⊢
  clear hA hv hw hb0 hr0 hn
  go_enter Tryz.func44, Tryz.ntmps44
  go_wp2_with fail
  refine (HN7.out _).mono ?_
  rintro e w1 ⟨⟨vr1, vw1, rfl, hl1, hn1⟩, hb1⟩
  obtain ⟨A1, ca1, rfl, _, _⟩ := hl1.rd.form
  obtain ⟨C1, cb1, rfl, _, _⟩ := hl1.wr.form
  have HB1 := Lib.hid (HB0.out.trans (hb1.mono HB0.out.size))
  have HR1 := Lib.hid ((Keep.of_below hb1 : Keep (fun _ => False) W0 w1).at HR0.out fun e => e)
  have HL1 := Lib.hid hl1
  have HN1 := Lib.hid (fun g hg => Nat.le_trans (show R + 1 ≤ W0.heap.size by have := (Array.getElem?_eq_some_iff.1 HR0.out).1; omega) (hn1 g hg))
  clear hl1 hb1 hn1
  go_wp2_with (with_reducible refine wp_stop_store (o := ⟨none, .store _ (.tmp 3) _, _, _, _, _⟩) _ _ _ rfl ?_)
  unfold Stop
  refine wp_store_all rfl _ _ _ rfl rfl rfl _ _ ((get_alloc _ _ _).trans (if_pos rfl)) info_rt rfl (by simp [Value.oneCell']) ?_
  intro w2 h2 k2 s2
  obtain ⟨Z, hZ⟩ : ∃ Z, w1.heap.size = Z := ⟨_, rfl⟩
  have hb12 : Below w1.heap.size w1 w2 := below_at ((Below.refl _ w1).alloc (Nat.le_refl _) _) k2 (Nat.le_refl _)
  have hst : TuSt w w2 R Z newR8 (.slice A1 newR8.rd.length ca1) (.slice C1 newR8.wr.length cb1) :=
    ⟨(Keep.of_below hb12 : Keep (fun _ => False) w1 w2).at HR1.out fun e => e, by rw [← hZ]; exact h2, HL1.out.below hb12, HB1.out.trans (hb12.mono HB1.out.size), fun h0 g hg => ⟨by have := HN1.out g (Or.inl hg); omega, by have := HL1.out.rd.lt h0 g hg; omega⟩, fun h0 g hg => ⟨by have := HN1.out g (Or.inr hg); omega, by have := HL1.out.wr.lt h0 g hg; omega⟩, ⟨hR, by rw [← hZ]; exact (Array.getElem?_eq_some_iff.1 HR1.out).1⟩⟩
  have HST := Lib.hid hst
  rw [hZ]
  clear hb12 h2 k2 s2 hst
  go_wp2_with fail
  go_loopw [5] (fun i wr => ∃ (k : Nat) (r : Rt) (vr vw : Value), k ≤ n ∧ k ≤ 40 ∧ i = .int .i64 k ∧ Hid (r = (l.take k).foldl turn1 newR8) ∧ Hid (TuSt w wr R Z r vr vw)) (fun i _ => n - (intOf i).toNat)
  case atStart => exact ⟨0, newR8, _, _, Nat.zero_le _, by omega, rfl, Lib.hid rfl, HST⟩
  case round =>
    obtain ⟨k, r, vr, vw, hk, hk40, rfl, HE, HS⟩ := hrel
    obtain ⟨A3, ca3, rfl, _, _⟩ := HS.out.ls.rd.form
    obtain ⟨C3, cb3, rfl, _, _⟩ := HS.out.ls.wr.form
    by_cases hlt : k < n ∧ k < 40
    · obtain ⟨hlt, hlt40⟩ := hlt
      have hi40 : (k : Int) < 40 := by omega
      obtain ⟨x, hx⟩ : ∃ x, l[k]? = some x := ⟨_, List.getElem?_eq_getElem (by rw [HLEN.out]; exact hlt)⟩
      obtain ⟨b, off, hAe, _⟩ := HA.out (by rw [HLEN.out]; omega)
      have hxw := HW.out x (List.mem_of_getElem? hx)
      have htk : (newR8_ok.all (l.take k)).1 = (newR8_ok.all (l.take k)).1 := rfl
      have hTO : TurnOk r := by rw [HE.out]; exact (newR8_ok.all (l.take k)).1
      have hnm := whoList_names _ (whoB_mem x.2)
      obtain ⟨X, hX⟩ : ∃ X, turnP r x = X := ⟨_, rfl⟩
      have hfold : (l.take (k + 1)).foldl turn1 newR8 = turn1 r x := by rw [List.take_add_one, hx]; simp [← HE.out]
      have HFO : Hid (X.2 = 0 → Hid (X.1 = (l.take (k + 1)).foldl turn1 newR8)) := Lib.hid (fun h0 => Lib.hid (by rw [hfold]; unfold turn1; rw [hX, if_pos h0]))
      have HFN : Hid (X.2 ≠ 0 → Hid (r = (l.take (k + 1)).foldl turn1 newR8)) := Lib.hid (fun h0 => Lib.hid (by rw [hfold]; unfold turn1; rw [hX, if_neg h0]))
      subst hAe
      have HV2 := HV
      have HP3 := Lib.hid (fun W => pick8_calls x.1 3 W hxw.a1 hxw.a2 (by omega) (by omega))
      have HWH := Lib.hid (fun W => who8_calls x.2 W hxw.b1 hxw.b2)
      have hp3 := pickZ_lt x.1 (n := 3) (by omega)
      have hXdef : X = if pickZ x.1 3 = 0 then r.grant (whoB x.2) false else if pickZ x.1 3 = 1 then r.grant (whoB x.2) true else r.revoke (whoB x.2) := by rw [← hX]; rfl
      obtain ⟨p3, hp3e⟩ : ∃ p, pickZ x.1 3 = p := ⟨_, rfl⟩
      obtain ⟨U, hU⟩ : ∃ U, whoB x.2 = U := ⟨_, rfl⟩
      rw [hp3e] at HP3 hp3 hXdef
      rw [hU] at HWH hnm hXdef
      have HX := Lib.hid hx
      obtain ⟨o1, o2⟩ := x
      dsimp only at HP3 HWH
      have HLR := Lib.hid (fun W (hb : Below wr.heap.size wr W) => (HS.out.next hb).ls)
      have HRR := Lib.hid hTO.right
      have HNM := Lib.hid hnm
      obtain ⟨c0, c1, c2, c3, c4⟩ := row5 HS.out.row
      clear hx hxw htk hTO hnm hX hfold hp3e hU
      go_wp2_with (with_reducible refine wp_stop_store (o := ⟨none, .store _ (.tmp 6) _, _, _, _, _⟩) _ _ _ rfl ?_)
      unfold Stop
      refine wp_store_all rfl _ _ _ rfl rfl rfl _ _ ((get_alloc _ _ _).trans (if_pos rfl)) info_rt rfl (by simp [Value.oneCell']) ?_
      intro w5 h5 k5 s5
      obtain ⟨Y, hY⟩ : ∃ Y, wr.heap.size = Y := ⟨_, rfl⟩
      have hb5 : Below wr.heap.size wr w5 := below_at ((Below.refl _ wr).alloc (Nat.le_refl _) _) k5 (Nat.le_refl _)
      have HB5 := Lib.hid hb5
      have hy5 : Y < w5.heap.size := by rw [← hY]; exact (Array.getElem?_eq_some_iff.1 h5).1
      have HYY : Hid (wr.heap.size ≤ Y ∧ Y < w5.heap.size) := Lib.hid ⟨by omega, hy5⟩
      rw [hY] at h5 ⊢
      have HY5 := Lib.hid h5
      obtain ⟨e0, e1⟩ := turn_at HV.out (HS.out.below.trans (hb5.mono HS.out.below.size)) HX.out b off rfl
      dsimp only at e0 e1
      clear h5 k5 s5 hb5 hY hy5 c0 c1 c2 c3 c4
      go_wp2_with fail
      refine (HP3.out _).mono ?_
      rintro e w6 ⟨rfl, rfl⟩
      clear e0 e1
      have HS5 := Lib.hid (HS.out.next HB5.out)
      have HS6 : Hid (∀ W2, Below w5.heap.size w5 W2 → ((W2.cell? ⟨Z, 0, none⟩ = some (.string r.owner) ∧ W2.cell? ⟨Z, 1, none⟩ = some (.string r.file) ∧ W2.cell? ⟨Z, 2, none⟩ = some (.int .i64 r.epoch) ∧ W2.cell? ⟨Z, 3, none⟩ = some (.slice A3 r.rd.length ca3) ∧ W2.cell? ⟨Z, 4, none⟩ = some (.slice C3 r.wr.length cb3)) ∧ W2.cell? ⟨b, off + k * 2 + 1, none⟩ = some (.int .i64 o2))) := Lib.hid (fun W2 hb => ⟨row5 (HS5.out.next hb).row, (turn_at HV.out (HS5.out.next hb).below HX.out b off rfl).2⟩)
      have HY6 := HY5
      have HPOST := Lib.hid (fun (w8 w9 : World) (vr' vw' : Value) (hb : Below w5.heap.size w5 w8) (h9 : w9.heap[Y]? = some (.cells #[.string X.1.owner, .string X.1.file, .int .i64 X.1.epoch, vr', vw'] 39 (0, 0))) (k9 : Keep (fun i => i = Y) w8 w9) (hl : Lists w8 X.1 vr' vw') (hn : ∀ g, (vr'.ownBlock = some g ∨ vw'.ownBlock = some g) → w5.heap.size ≤ g) => HS.out.post (e := X.2) HB5.out HYY.out.1 HYY.out.2 hb h9 k9 hl hn)
      have hGR := fun (wt : Bool) (W : World) (hb : Below w5.heap.size w5 W) => grant7_calls W r _ _ U wt (HLR.out W (HB5.out.trans (hb.mono HB5.out.size))) HRR.out HNM.out
      have hRV := fun (W : World) (hb : Below w5.heap.size w5 W) => revoke7_calls W r _ _ U (HLR.out W (HB5.out.trans (hb.mono HB5.out.size))) HRR.out HNM.out
      by_cases h30 : p3 = 0
      · have hXa : r.grant U false = X := by rw [hXdef, if_pos h30]
        have hG := hGR false
        rw [hXa] at hG
        have HG := Lib.hid hG
        subst h30
        clear hGR hRV hG hXa hXdef
        go_wp2_with fail
        refine wp_region_G (fun W2 => (W2.cell? ⟨Z, 0, none⟩ = some (.string r.owner) ∧ W2.cell? ⟨Z, 1, none⟩ = some (.string r.file) ∧ W2.cell? ⟨Z, 2, none⟩ = some (.int .i64 r.epoch) ∧ W2.cell? ⟨Z, 3, none⟩ = some (.slice A3 r.rd.length ca3) ∧ W2.cell? ⟨Z, 4, none⟩ = some (.slice C3 r.wr.length cb3)) ∧ W2.cell? ⟨b, off + k * 2 + 1, none⟩ = some (.int .i64 o2)) [11] (by kernel_rfl) ?_
        have hb0 : Below w5.heap.size w5 w5.drew := (Below.refl w5.heap.size w5).drew
        have hS : (fun W2 : World => (W2.cell? ⟨Z, 0, none⟩ = some (.string r.owner) ∧ W2.cell? ⟨Z, 1, none⟩ = some (.string r.file) ∧ W2.cell? ⟨Z, 2, none⟩ = some (.int .i64 r.epoch) ∧ W2.cell? ⟨Z, 3, none⟩ = some (.slice A3 r.rd.length ca3) ∧ W2.cell? ⟨Z, 4, none⟩ = some (.slice C3 r.wr.length cb3)) ∧ W2.cell? ⟨b, off + k * 2 + 1, none⟩ = some (.int .i64 o2)) w5.drew := HS6.out _ hb0
        refine wpAnyG_take (ws := [0,5,6,7,8,9]) (i := 0) (v := ?vta0) at0 (by kernel_rfl) (fun _ _ _ h => h) (Or.inl ⟨by rfl, ?hta0⟩) (by assumption) ?rta0
        case hta0 => (intro w hSw; (try dsimp only at hSw); go_simp; try with_reducible rfl)
        case' rta0 => skip
        try simp only [Act.put, List.setIfInBounds_toArray, List.set_cons_zero, List.set_cons_succ]
        refine wpAnyG_pure (i := 1) (v := ?vta1) at1 (by kernel_rfl) (fun _ _ _ h => h) (Or.inl ⟨by rfl, ?hta1⟩) (Or.inr (by assumption)) ?rta1
        case hta1 => (intro w hSw; (try dsimp only at hSw); go_simp; try with_reducible rfl)
        case' rta1 => skip
        try simp only [Act.put, List.setIfInBounds_toArray, List.set_cons_zero, List.set_cons_succ]
        refine wpAnyG_pure (i := 2) (v := ?vta2) at2 (by kernel_rfl) (fun _ _ _ h => h) (Or.inl ⟨by rfl, ?hta2⟩) (Or.inr (by assumption)) ?rta2
        case hta2 => (intro w hSw; (try dsimp only at hSw); go_simp; try with_reducible rfl)
        case' rta2 => skip
        try simp only [Act.put, List.setIfInBounds_toArray, List.set_cons_zero, List.set_cons_succ]
        refine wpAnyG_pure (i := 3) (v := ?vta3) at3 (by kernel_rfl) (fun _ _ _ h => h) (Or.inl ⟨by rfl, ?hta3⟩) (Or.inr (by assumption)) ?rta3
        case hta3 => (intro w hSw; (try dsimp only at hSw); go_simp; try with_reducible rfl)
        case' rta3 => skip
        try simp only [Act.put, List.setIfInBounds_toArray, List.set_cons_zero, List.set_cons_succ]
        refine wpAnyG_pure (i := 4) (v := ?vta4) at4 (by kernel_rfl) (fun _ _ _ h => h) (Or.inl ⟨by rfl, ?hta4⟩) (Or.inr (by assumption)) ?rta4
        case hta4 => (intro w hSw; (try dsimp only at hSw); go_simp; try with_reducible rfl)
        case' rta4 => skip
        try simp only [Act.put, List.setIfInBounds_toArray, List.set_cons_zero, List.set_cons_succ]
        refine wpAnyG_take (ws := [0,5,6,7,8,9]) (i := 5) (v := ?vta5) at5 (by kernel_rfl) (fun _ _ _ h => h) (Or.inl ⟨by rfl, ?hta5⟩) (by assumption) ?rta5
        case hta5 => (intro w hSw; (try dsimp only at hSw); go_simp; try with_reducible rfl)
        case' rta5 => skip
        try simp only [Act.put, List.setIfInBounds_toArray, List.set_cons_zero, List.set_cons_succ]
        refine wpAnyG_one 6 at6 (by kernel_rfl) (fun Kn hK => ?_)
        go_simp
        refine (HWH.out _).mono ?_
        rintro e w7 ⟨rfl, hb7⟩
        have hb1 := hb0.trans (hb7.mono hb0.size)
        clear hS
        have hS := HS6.out _ hb1
        refine hK.out _ _ (Or.inr hS) ?_
        clear hK Kn hb7
        try simp only [Act.put, List.setIfInBounds_toArray, List.set_cons_zero, List.set_cons_succ]
        refine wpAnyG_one 7 at7 (by kernel_rfl) (fun Kn hK => ?_)
        go_simp
        refine (HG.out _ hb1).mono ?_
        rintro e w8 ⟨⟨vr8, vw8, rfl, hl8, hn8⟩, hb8⟩
        obtain ⟨A8, ca8, rfl, _, _⟩ := hl8.rd.form
        obtain ⟨C8, cb8, rfl, _, _⟩ := hl8.wr.form
        have hb2 := hb1.trans (hb8.mono hb1.size)
        clear hS
        have hS := HS6.out _ hb2
        refine hK.out _ _ (Or.inr hS) ?_
        clear hK Kn
        try simp only [Act.put, List.setIfInBounds_toArray, List.set_cons_zero, List.set_cons_succ]
        refine wpAnyG_pure (i := 8) (v := ?vtab8) at8 (by kernel_rfl) (fun _ _ _ h => h) (Or.inl ⟨by rfl, ?htab8⟩) (Or.inr (by assumption)) ?rtab8
        case htab8 => (intro w hSw; (try dsimp only at hSw); go_simp; try with_reducible rfl)
        case' rtab8 => skip
        try simp only [Act.put, List.setIfInBounds_toArray, List.set_cons_zero, List.set_cons_succ]
        refine wpAnyG_pure (i := 9) (v := ?vtab9) at9 (by kernel_rfl) (fun _ _ _ h => h) (Or.inl ⟨by rfl, ?htab9⟩) (Or.inr (by assumption)) ?rtab9
        case htab9 => (intro w hSw; (try dsimp only at hSw); go_simp; try with_reducible rfl)
        case' rtab9 => skip
        try simp only [Act.put, List.setIfInBounds_toArray, List.set_cons_zero, List.set_cons_succ]
        refine wpAnyG_pure (i := 10) (v := ?vtab10) at10 (by kernel_rfl) (fun _ _ _ h => h) (Or.inl ⟨by rfl, ?htab10⟩) (Or.inr (by assumption)) ?rtab10
        case htab10 => (intro w hSw; (try dsimp only at hSw); go_simp; try with_reducible rfl)
        case' rtab10 => skip
        try simp only [Act.put, List.setIfInBounds_toArray, List.set_cons_zero, List.set_cons_succ]
        refine wpAnyG_one 11 at11 (by kernel_rfl) (fun Kn hK => ?_)
        refine step_store_all rfl _ _ _ rfl rfl rfl _ _ ((Keep.of_below hb2 : Keep (fun _ => False) w5 w8).at HY6.out fun e => e) info_rt rfl (by simp [Value.oneCell']) ?_
        intro w9 h9 k9 s9
        refine hK.out _ _ (Or.inl (by kernel_rfl)) ?_
        have HT9 := Lib.hid (HPOST.out w8 w9 (.slice A8 X.1.rd.length ca8) (.slice C8 X.1.wr.length cb8) hb2 h9 k9 hl8 (fun g hg => by have := hn8 g hg; have := hb1.size; omega))
        clear hK Kn h9 k9 s9 hS hb0 hb1 hb2 hb8 hl8 hn8
        try simp only [Act.put, List.setIfInBounds_toArray, List.set_cons_zero, List.set_cons_succ]
        refine wpAnyG_one 12 at12 (by kernel_rfl) (fun Kn hK => ?_)
        go_simp
        refine hK.out _ _ (Or.inl (by kernel_rfl)) ?_
        clear hK Kn
        refine wpAnyG_done (by kernel_rfl) ?_
        try simp only [Act.put, List.setIfInBounds_toArray, List.set_cons_zero, List.set_cons_succ]
        by_cases h0 : X.2 = 0
        · have f1 : (X.2 == 0) = true := by rw [h0]; rfl
          have HT := Lib.hid (HT9.out.1 h0)
          obtain ⟨d0, d1, d2, d3, d4⟩ := row5 HT.out.1
          go_wp2_with (with_reducible refine wp_stop_store (o := ⟨none, .store _ (.tmp 3) _, _, _, _, _⟩) _ _ _ rfl ?_)
          unfold Stop
          refine wp_store_all rfl _ _ _ rfl rfl rfl _ _ HT.out.2.1 info_rt rfl (by simp [Value.oneCell']) ?_
          intro w10 h10 k10 s10
          have HST := Lib.hid (HT.out.2.2 w10 h10 k10)
          clear h10 k10 s10 d0 d1 d2 d3 d4
          go_wp2_with fail
          go_roundw
          case rel => exact ⟨k + 1, X.1, _, _, by omega, by omega, by go_num, HFO.out h0, HST⟩
          case measure => simp [intOf]; omega
        · have f1 : (X.2 == 0) = false := by simpa using h0
          have HST := Lib.hid (HT9.out.2 h0)
          go_wp2_with fail
          go_roundw
          case rel => exact ⟨k + 1, r, _, _, by omega, by omega, by go_num, HFN.out h0, HST⟩
          case measure => simp [intOf]; omega
      · by_cases h31 : p3 = 1
        · have hXa : r.grant U true = X := by rw [hXdef, if_neg h30, if_pos h31]
          have hG := hGR true
          rw [hXa] at hG
          have HG := Lib.hid hG
          subst h31
          clear hGR hRV hG hXa hXdef
          go_wp2_with fail
          refine wp_region_G (fun W2 => (W2.cell? ⟨Z, 0, none⟩ = some (.string r.owner) ∧ W2.cell? ⟨Z, 1, none⟩ = some (.string r.file) ∧ W2.cell? ⟨Z, 2, none⟩ = some (.int .i64 r.epoch) ∧ W2.cell? ⟨Z, 3, none⟩ = some (.slice A3 r.rd.length ca3) ∧ W2.cell? ⟨Z, 4, none⟩ = some (.slice C3 r.wr.length cb3)) ∧ W2.cell? ⟨b, off + k * 2 + 1, none⟩ = some (.int .i64 o2)) [11] (by kernel_rfl) ?_
          have hb0 : Below w5.heap.size w5 w5.drew := (Below.refl w5.heap.size w5).drew
          have hS : (fun W2 : World => (W2.cell? ⟨Z, 0, none⟩ = some (.string r.owner) ∧ W2.cell? ⟨Z, 1, none⟩ = some (.string r.file) ∧ W2.cell? ⟨Z, 2, none⟩ = some (.int .i64 r.epoch) ∧ W2.cell? ⟨Z, 3, none⟩ = some (.slice A3 r.rd.length ca3) ∧ W2.cell? ⟨Z, 4, none⟩ = some (.slice C3 r.wr.length cb3)) ∧ W2.cell? ⟨b, off + k * 2 + 1, none⟩ = some (.int .i64 o2)) w5.drew := HS6.out _ hb0
          refine wpAnyG_take (ws := [0,5,6,7,8,9]) (i := 0) (v := ?vtb0) at0 (by kernel_rfl) (fun _ _ _ h => h) (Or.inl ⟨by rfl, ?htb0⟩) (by assumption) ?rtb0
          case htb0 => (intro w hSw; (try dsimp only at hSw); go_simp; try with_reducible rfl)
          case' rtb0 => skip
          try simp only [Act.put, List.setIfInBounds_toArray, List.set_cons_zero, List.set_cons_succ]
          refine wpAnyG_pure (i := 1) (v := ?vtb1) at1 (by kernel_rfl) (fun _ _ _ h => h) (Or.inl ⟨by rfl, ?htb1⟩) (Or.inr (by assumption)) ?rtb1
          case htb1 => (intro w hSw; (try dsimp only at hSw); go_simp; try with_reducible rfl)
          case' rtb1 => skip
          try simp only [Act.put, List.setIfInBounds_toArray, List.set_cons_zero, List.set_cons_succ]
          refine wpAnyG_pure (i := 2) (v := ?vtb2) at2 (by kernel_rfl) (fun _ _ _ h => h) (Or.inl ⟨by rfl, ?htb2⟩) (Or.inr (by assumption)) ?rtb2
          case htb2 => (intro w hSw; (try dsimp only at hSw); go_simp; try with_reducible rfl)
          case' rtb2 => skip
          try simp only [Act.put, List.setIfInBounds_toArray, List.set_cons_zero, List.set_cons_succ]
          refine wpAnyG_pure (i := 3) (v := ?vtb3) at3 (by kernel_rfl) (fun _ _ _ h => h) (Or.inl ⟨by rfl, ?htb3⟩) (Or.inr (by assumption)) ?rtb3
          case htb3 => (intro w hSw; (try dsimp only at hSw); go_simp; try with_reducible rfl)
          case' rtb3 => skip
          try simp only [Act.put, List.setIfInBounds_toArray, List.set_cons_zero, List.set_cons_succ]
          refine wpAnyG_pure (i := 4) (v := ?vtb4) at4 (by kernel_rfl) (fun _ _ _ h => h) (Or.inl ⟨by rfl, ?htb4⟩) (Or.inr (by assumption)) ?rtb4
          case htb4 => (intro w hSw; (try dsimp only at hSw); go_simp; try with_reducible rfl)
          case' rtb4 => skip
          try simp only [Act.put, List.setIfInBounds_toArray, List.set_cons_zero, List.set_cons_succ]
          refine wpAnyG_take (ws := [0,5,6,7,8,9]) (i := 5) (v := ?vtb5) at5 (by kernel_rfl) (fun _ _ _ h => h) (Or.inl ⟨by rfl, ?htb5⟩) (by assumption) ?rtb5
          case htb5 => (intro w hSw; (try dsimp only at hSw); go_simp; try with_reducible rfl)
          case' rtb5 => skip
          try simp only [Act.put, List.setIfInBounds_toArray, List.set_cons_zero, List.set_cons_succ]
          refine wpAnyG_one 6 at6 (by kernel_rfl) (fun Kn hK => ?_)
          go_simp
          refine (HWH.out _).mono ?_
          rintro e w7 ⟨rfl, hb7⟩
          have hb1 := hb0.trans (hb7.mono hb0.size)
          clear hS
          have hS := HS6.out _ hb1
          refine hK.out _ _ (Or.inr hS) ?_
          clear hK Kn hb7
          try simp only [Act.put, List.setIfInBounds_toArray, List.set_cons_zero, List.set_cons_succ]
          refine wpAnyG_one 7 at7 (by kernel_rfl) (fun Kn hK => ?_)
          go_simp
          refine (HG.out _ hb1).mono ?_
          rintro e w8 ⟨⟨vr8, vw8, rfl, hl8, hn8⟩, hb8⟩
          obtain ⟨A8, ca8, rfl, _, _⟩ := hl8.rd.form
          obtain ⟨C8, cb8, rfl, _, _⟩ := hl8.wr.form
          have hb2 := hb1.trans (hb8.mono hb1.size)
          clear hS
          have hS := HS6.out _ hb2
          refine hK.out _ _ (Or.inr hS) ?_
          clear hK Kn
          try simp only [Act.put, List.setIfInBounds_toArray, List.set_cons_zero, List.set_cons_succ]
          refine wpAnyG_pure (i := 8) (v := ?vtbb8) at8 (by kernel_rfl) (fun _ _ _ h => h) (Or.inl ⟨by rfl, ?htbb8⟩) (Or.inr (by assumption)) ?rtbb8
          case htbb8 => (intro w hSw; (try dsimp only at hSw); go_simp; try with_reducible rfl)
          case' rtbb8 => skip
          try simp only [Act.put, List.setIfInBounds_toArray, List.set_cons_zero, List.set_cons_succ]
          refine wpAnyG_pure (i := 9) (v := ?vtbb9) at9 (by kernel_rfl) (fun _ _ _ h => h) (Or.inl ⟨by rfl, ?htbb9⟩) (Or.inr (by assumption)) ?rtbb9
          case htbb9 => (intro w hSw; (try dsimp only at hSw); go_simp; try with_reducible rfl)
          case' rtbb9 => skip
          try simp only [Act.put, List.setIfInBounds_toArray, List.set_cons_zero, List.set_cons_succ]
          refine wpAnyG_pure (i := 10) (v := ?vtbb10) at10 (by kernel_rfl) (fun _ _ _ h => h) (Or.inl ⟨by rfl, ?htbb10⟩) (Or.inr (by assumption)) ?rtbb10
          case htbb10 => (intro w hSw; (try dsimp only at hSw); go_simp; try with_reducible rfl)
          case' rtbb10 => skip
          try simp only [Act.put, List.setIfInBounds_toArray, List.set_cons_zero, List.set_cons_succ]
          refine wpAnyG_one 11 at11 (by kernel_rfl) (fun Kn hK => ?_)
          refine step_store_all rfl _ _ _ rfl rfl rfl _ _ ((Keep.of_below hb2 : Keep (fun _ => False) w5 w8).at HY6.out fun e => e) info_rt rfl (by simp [Value.oneCell']) ?_
          intro w9 h9 k9 s9
          refine hK.out _ _ (Or.inl (by kernel_rfl)) ?_
          have HT9 := Lib.hid (HPOST.out w8 w9 (.slice A8 X.1.rd.length ca8) (.slice C8 X.1.wr.length cb8) hb2 h9 k9 hl8 (fun g hg => by have := hn8 g hg; have := hb1.size; omega))
          clear hK Kn h9 k9 s9 hS hb0 hb1 hb2 hb8 hl8 hn8
          try simp only [Act.put, List.setIfInBounds_toArray, List.set_cons_zero, List.set_cons_succ]
          refine wpAnyG_one 12 at12 (by kernel_rfl) (fun Kn hK => ?_)
          go_simp
          refine hK.out _ _ (Or.inl (by kernel_rfl)) ?_
          clear hK Kn
          refine wpAnyG_done (by kernel_rfl) ?_
          try simp only [Act.put, List.setIfInBounds_toArray, List.set_cons_zero, List.set_cons_succ]
          by_cases h0 : X.2 = 0
          · have f1 : (X.2 == 0) = true := by rw [h0]; rfl
            have HT := Lib.hid (HT9.out.1 h0)
            obtain ⟨d0, d1, d2, d3, d4⟩ := row5 HT.out.1
            go_wp2_with (with_reducible refine wp_stop_store (o := ⟨none, .store _ (.tmp 3) _, _, _, _, _⟩) _ _ _ rfl ?_)
            unfold Stop
            refine wp_store_all rfl _ _ _ rfl rfl rfl _ _ HT.out.2.1 info_rt rfl (by simp [Value.oneCell']) ?_
            intro w10 h10 k10 s10
            have HST := Lib.hid (HT.out.2.2 w10 h10 k10)
            clear h10 k10 s10 d0 d1 d2 d3 d4
            go_wp2_with fail
            go_roundw
            case rel => exact ⟨k + 1, X.1, _, _, by omega, by omega, by go_num, HFO.out h0, HST⟩
            case measure => simp [intOf]; omega
          · have f1 : (X.2 == 0) = false := by simpa using h0
            have HST := Lib.hid (HT9.out.2 h0)
            go_wp2_with fail
            go_roundw
            case rel => exact ⟨k + 1, r, _, _, by omega, by omega, by go_num, HFN.out h0, HST⟩
            case measure => simp [intOf]; omega
        · have hXa : r.revoke U = X := by rw [hXdef, if_neg h30, if_neg h31]
          rw [hXa] at hRV
          have HG := Lib.hid hRV
          have q0 : (p3 == 0) = false := by simpa using h30
          have q1 : (p3 == 1) = false := by simpa using h31
          clear hGR hRV hXa hXdef
          go_wp2_with fail
          refine wp_region_G (fun W2 => (W2.cell? ⟨Z, 0, none⟩ = some (.string r.owner) ∧ W2.cell? ⟨Z, 1, none⟩ = some (.string r.file) ∧ W2.cell? ⟨Z, 2, none⟩ = some (.int .i64 r.epoch) ∧ W2.cell? ⟨Z, 3, none⟩ = some (.slice A3 r.rd.length ca3) ∧ W2.cell? ⟨Z, 4, none⟩ = some (.slice C3 r.wr.length cb3)) ∧ W2.cell? ⟨b, off + k * 2 + 1, none⟩ = some (.int .i64 o2)) [11] (by kernel_rfl) ?_
          have hb0 : Below w5.heap.size w5 w5.drew := (Below.refl w5.heap.size w5).drew
          have hS : (fun W2 : World => (W2.cell? ⟨Z, 0, none⟩ = some (.string r.owner) ∧ W2.cell? ⟨Z, 1, none⟩ = some (.string r.file) ∧ W2.cell? ⟨Z, 2, none⟩ = some (.int .i64 r.epoch) ∧ W2.cell? ⟨Z, 3, none⟩ = some (.slice A3 r.rd.length ca3) ∧ W2.cell? ⟨Z, 4, none⟩ = some (.slice C3 r.wr.length cb3)) ∧ W2.cell? ⟨b, off + k * 2 + 1, none⟩ = some (.int .i64 o2)) w5.drew := HS6.out _ hb0
          refine wpAnyG_take (ws := [0,5,6,7,8,9]) (i := 0) (v := ?vtc0) at0 (by kernel_rfl) (fun _ _ _ h => h) (Or.inl ⟨by rfl, ?htc0⟩) (by assumption) ?rtc0
          case htc0 => (intro w hSw; (try dsimp only at hSw); go_simp; try with_reducible rfl)
          case' rtc0 => skip
          try simp only [Act.put, List.setIfInBounds_toArray, List.set_cons_zero, List.set_cons_succ]
          refine wpAnyG_pure (i := 1) (v := ?vtc1) at1 (by kernel_rfl) (fun _ _ _ h => h) (Or.inl ⟨by rfl, ?htc1⟩) (Or.inr (by assumption)) ?rtc1
          case htc1 => (intro w hSw; (try dsimp only at hSw); go_simp; try with_reducible rfl)
          case' rtc1 => skip
          try simp only [Act.put, List.setIfInBounds_toArray, List.set_cons_zero, List.set_cons_succ]
          refine wpAnyG_pure (i := 2) (v := ?vtc2) at2 (by kernel_rfl) (fun _ _ _ h => h) (Or.inl ⟨by rfl, ?htc2⟩) (Or.inr (by assumption)) ?rtc2
          case htc2 => (intro w hSw; (try dsimp only at hSw); go_simp; try with_reducible rfl)
          case' rtc2 => skip
          try simp only [Act.put, List.setIfInBounds_toArray, List.set_cons_zero, List.set_cons_succ]
          refine wpAnyG_pure (i := 3) (v := ?vtc3) at3 (by kernel_rfl) (fun _ _ _ h => h) (Or.inl ⟨by rfl, ?htc3⟩) (Or.inr (by assumption)) ?rtc3
          case htc3 => (intro w hSw; (try dsimp only at hSw); go_simp; try with_reducible rfl)
          case' rtc3 => skip
          try simp only [Act.put, List.setIfInBounds_toArray, List.set_cons_zero, List.set_cons_succ]
          refine wpAnyG_pure (i := 4) (v := ?vtc4) at4 (by kernel_rfl) (fun _ _ _ h => h) (Or.inl ⟨by rfl, ?htc4⟩) (Or.inr (by assumption)) ?rtc4
          case htc4 => (intro w hSw; (try dsimp only at hSw); go_simp; try with_reducible rfl)
          case' rtc4 => skip
          try simp only [Act.put, List.setIfInBounds_toArray, List.set_cons_zero, List.set_cons_succ]
          refine wpAnyG_take (ws := [0,5,6,7,8,9]) (i := 5) (v := ?vtc5) at5 (by kernel_rfl) (fun _ _ _ h => h) (Or.inl ⟨by rfl, ?htc5⟩) (by assumption) ?rtc5
          case htc5 => (intro w hSw; (try dsimp only at hSw); go_simp; try with_reducible rfl)
          case' rtc5 => skip
          try simp only [Act.put, List.setIfInBounds_toArray, List.set_cons_zero, List.set_cons_succ]
          refine wpAnyG_one 6 at6 (by kernel_rfl) (fun Kn hK => ?_)
          go_simp
          refine (HWH.out _).mono ?_
          rintro e w7 ⟨rfl, hb7⟩
          have hb1 := hb0.trans (hb7.mono hb0.size)
          clear hS
          have hS := HS6.out _ hb1
          refine hK.out _ _ (Or.inr hS) ?_
          clear hK Kn hb7
          try simp only [Act.put, List.setIfInBounds_toArray, List.set_cons_zero, List.set_cons_succ]
          refine wpAnyG_one 7 at7 (by kernel_rfl) (fun Kn hK => ?_)
          go_simp
          refine (HG.out _ hb1).mono ?_
          rintro e w8 ⟨⟨vr8, vw8, rfl, hl8, hn8⟩, hb8⟩
          obtain ⟨A8, ca8, rfl, _, _⟩ := hl8.rd.form
          obtain ⟨C8, cb8, rfl, _, _⟩ := hl8.wr.form
          have hb2 := hb1.trans (hb8.mono hb1.size)
          clear hS
          have hS := HS6.out _ hb2
          refine hK.out _ _ (Or.inr hS) ?_
          clear hK Kn
          try simp only [Act.put, List.setIfInBounds_toArray, List.set_cons_zero, List.set_cons_succ]
          refine wpAnyG_pure (i := 8) (v := ?vtcb8) at8 (by kernel_rfl) (fun _ _ _ h => h) (Or.inl ⟨by rfl, ?htcb8⟩) (Or.inr (by assumption)) ?rtcb8
          case htcb8 => (intro w hSw; (try dsimp only at hSw); go_simp; try with_reducible rfl)
          case' rtcb8 => skip
          try simp only [Act.put, List.setIfInBounds_toArray, List.set_cons_zero, List.set_cons_succ]
          refine wpAnyG_pure (i := 9) (v := ?vtcb9) at9 (by kernel_rfl) (fun _ _ _ h => h) (Or.inl ⟨by rfl, ?htcb9⟩) (Or.inr (by assumption)) ?rtcb9
          case htcb9 => (intro w hSw; (try dsimp only at hSw); go_simp; try with_reducible rfl)
          case' rtcb9 => skip
          try simp only [Act.put, List.setIfInBounds_toArray, List.set_cons_zero, List.set_cons_succ]
          refine wpAnyG_pure (i := 10) (v := ?vtcb10) at10 (by kernel_rfl) (fun _ _ _ h => h) (Or.inl ⟨by rfl, ?htcb10⟩) (Or.inr (by assumption)) ?rtcb10
          case htcb10 => (intro w hSw; (try dsimp only at hSw); go_simp; try with_reducible rfl)
          case' rtcb10 => skip
          try simp only [Act.put, List.setIfInBounds_toArray, List.set_cons_zero, List.set_cons_succ]
          refine wpAnyG_one 11 at11 (by kernel_rfl) (fun Kn hK => ?_)
          refine step_store_all rfl _ _ _ rfl rfl rfl _ _ ((Keep.of_below hb2 : Keep (fun _ => False) w5 w8).at HY6.out fun e => e) info_rt rfl (by simp [Value.oneCell']) ?_
          intro w9 h9 k9 s9
          refine hK.out _ _ (Or.inl (by kernel_rfl)) ?_
          have HT9 := Lib.hid (HPOST.out w8 w9 (.slice A8 X.1.rd.length ca8) (.slice C8 X.1.wr.length cb8) hb2 h9 k9 hl8 (fun g hg => by have := hn8 g hg; have := hb1.size; omega))
          clear hK Kn h9 k9 s9 hS hb0 hb1 hb2 hb8 hl8 hn8
          try simp only [Act.put, List.setIfInBounds_toArray, List.set_cons_zero, List.set_cons_succ]
          refine wpAnyG_one 12 at12 (by kernel_rfl) (fun Kn hK => ?_)
          go_simp
          refine hK.out _ _ (Or.inl (by kernel_rfl)) ?_
          clear hK Kn
          refine wpAnyG_done (by kernel_rfl) ?_
          try simp only [Act.put, List.setIfInBounds_toArray, List.set_cons_zero, List.set_cons_succ]
          by_cases h0 : X.2 = 0
          · have f1 : (X.2 == 0) = true := by rw [h0]; rfl
            have HT := Lib.hid (HT9.out.1 h0)
            obtain ⟨d0, d1, d2, d3, d4⟩ := row5 HT.out.1
            go_wp2_with (with_reducible refine wp_stop_store (o := ⟨none, .store _ (.tmp 3) _, _, _, _, _⟩) _ _ _ rfl ?_)
            unfold Stop
            refine wp_store_all rfl _ _ _ rfl rfl rfl _ _ HT.out.2.1 info_rt rfl (by simp [Value.oneCell']) ?_
            intro w10 h10 k10 s10
            have HST := Lib.hid (HT.out.2.2 w10 h10 k10)
            clear h10 k10 s10 d0 d1 d2 d3 d4
            go_wp2_with fail
            go_roundw
            case rel => exact ⟨k + 1, X.1, _, _, by omega, by omega, by go_num, HFO.out h0, HST⟩
            case measure => simp [intOf]; omega
          · have f1 : (X.2 == 0) = false := by simpa using h0
            have HST := Lib.hid (HT9.out.2 h0)
            go_wp2_with fail
            go_roundw
            case rel => exact ⟨k + 1, r, _, _, by omega, by omega, by go_num, HFN.out h0, HST⟩
            case measure => simp [intOf]; omega
    · have hrT : r = turnedP l := by
        rw [HE.out]
        unfold turnedP
        by_cases h : k < n
        · rw [show k = 40 by omega]
        · rw [List.take_of_length_le (by rw [HLEN.out]; omega), List.take_of_length_le (by rw [HLEN.out]; omega)]
      have HRT2 := Lib.hid hrT
      have hcase : (k = 40 ∧ k < n) ∨ k = n := by omega
      clear hrT hlt HE
      have HS2 := HS
      rcases hcase with ⟨hk4, hlt⟩ | hkn
      · subst hk4
        have hlt2 : (40 : Int) < (n : Int) := by omega
        obtain ⟨c0, c1, c2, c3, c4⟩ := row5 HS.out.row
        go_wp2_with (with_reducible refine wp_stop_store (o := ⟨none, .store _ (.tmp 2) _, _, _, _, _⟩) _ _ _ rfl ?_)
        unfold Stop
        refine wp_store_all rfl _ _ _ rfl rfl rfl _ _ HS.out.res info_rt rfl (by simp [Value.oneCell']) ?_
        intro w9 h9 k9 s9
        have HL9 : Hid (Lists w9 r (.slice A3 r.rd.length ca3) (.slice C3 r.wr.length cb3)) := Lib.hid ⟨HS.out.ls.rd.keep3 k9 fun h0 g hg => (HS.out.n1 h0 g hg).1, HS.out.ls.wr.keep3 k9 fun h0 g hg => (HS.out.n2 h0 g hg).1⟩
        have HBF := Lib.hid (below_at HS.out.below k9 (Nat.le_of_eq HS.out.zb.1))
        clear c0 c1 c2 c3 c4
        obtain ⟨c0, c1, c2, c3, c4⟩ := row5 h9
        clear h9 k9 s9
        go_wp2_with fail
        refine bodyPost_ret (v := .agg #[.string r.owner, .string r.file, .int .i64 r.epoch, .slice A3 r.rd.length ca3, .slice C3 r.wr.length cb3]) (by simp [results, Tryz.results44, go_sem, c0, c1, c2, c3, c4]) rfl ?_
        rw [← HRT2.out]
        exact ⟨⟨_, _, rfl, HL9.out⟩, HBF.out⟩
      · subst hkn
        obtain ⟨c0, c1, c2, c3, c4⟩ := row5 HS.out.row
        go_wp2_with (with_reducible refine wp_stop_store (o := ⟨none, .store _ (.tmp 2) _, _, _, _, _⟩) _ _ _ rfl ?_)
        unfold Stop
        refine wp_store_all rfl _ _ _ rfl rfl rfl _ _ HS.out.res info_rt rfl (by simp [Value.oneCell']) ?_
        intro w9 h9 k9 s9
        have HL9 : Hid (Lists w9 r (.slice A3 r.rd.length ca3) (.slice C3 r.wr.length cb3)) := Lib.hid ⟨HS.out.ls.rd.keep3 k9 fun h0 g hg => (HS.out.n1 h0 g hg).1, HS.out.ls.wr.keep3 k9 fun h0 g hg => (HS.out.n2 h0 g hg).1⟩
        have HBF := Lib.hid (below_at HS.out.below k9 (Nat.le_of_eq HS.out.zb.1))
        clear c0 c1 c2 c3 c4
        obtain ⟨c0, c1, c2, c3, c4⟩ := row5 h9
        clear h9 k9 s9
        go_wp2_with fail
        refine bodyPost_ret (v := .agg #[.string r.owner, .string r.file, .int .i64 r.epoch, .slice A3 r.rd.length ca3, .slice C3 r.wr.length cb3]) (by simp [results, Tryz.results44, go_sem, c0, c1, c2, c3, c4]) rfl ?_
        rw [← HRT2.out]
        exact ⟨⟨_, _, rfl, HL9.out⟩, HBF.out⟩
end Go.Proofs.YtckblcfkajpofaaGreatDoor
