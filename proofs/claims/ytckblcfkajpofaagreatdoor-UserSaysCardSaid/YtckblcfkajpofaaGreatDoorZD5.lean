/- documents 1 and 7: Less, Has. document 7: listed, of what is listed. document 7: Right, of what is right. -/
import Derived.Test.YtckblcfkajpofaaGreatDoorZA6
import Derived.Test.YtckblcfkajpofaaGreatDoorZA7
import Derived.Test.YtckblcfkajpofaaGreatDoorZA2
import Derived.Test.YtckblcfkajpofaaGreatDoorZA8
namespace Go.Proofs.YtckblcfkajpofaaGreatDoor
open Go.RowKit
set_option linter.unusedVariables false
set_option linter.unusedSimpArgs false

theorem lt_prefix (p a b : List UInt8) : (p ++ a < p ++ b) ↔ a < b := by
  induction p with
  | nil => exact Iff.rfl
  | cons x p ih =>
    rw [List.cons_append, List.cons_append, List.cons_lt_cons_iff]
    constructor
    · rintro (h | ⟨_, h⟩)
      · exact absurd h (by simp)
      · exact ih.1 h
    · exact fun h => Or.inr ⟨rfl, ih.2 h⟩
theorem bLt_at {a b : ByteArray} {k : Nat} {x y : UInt8} (h : (toL a).take k = (toL b).take k) (hx : (toL a)[k]? = some x) (hy : (toL b)[k]? = some y) (hne : x ≠ y) : bLt a b = decide (x < y) := by
  unfold bLt
  rw [ByteArray.toList_eq, ByteArray.toList_eq]
  apply decide_eq_decide.2
  have ea : toL a = (toL a).take k ++ x :: (toL a).drop (k + 1) := by
    obtain ⟨hl, he⟩ := List.getElem?_eq_some_iff.1 hx
    rw [← he, ← List.drop_eq_getElem_cons hl, List.take_append_drop]
  have eb : toL b = (toL a).take k ++ y :: (toL b).drop (k + 1) := by
    obtain ⟨hl, he⟩ := List.getElem?_eq_some_iff.1 hy
    rw [h, ← he, ← List.drop_eq_getElem_cons hl, List.take_append_drop]
  show toL a < toL b ↔ _
  rw [ea, eb, lt_prefix, List.cons_lt_cons_iff]
  constructor
  · rintro (h | ⟨h, _⟩)
    · exact h
    · exact absurd h hne
  · exact fun h => Or.inl h
theorem bLt_end {a b : ByteArray} {k : Nat} (h : (toL a).take k = (toL b).take k) (hk : k = a.size ∨ k = b.size) (ha : k ≤ a.size) (hb : k ≤ b.size) : bLt a b = decide (a.size < b.size) := by
  have la : (toL a).length = a.size := list_size a
  have lb : (toL b).length = b.size := list_size b
  unfold bLt
  rw [ByteArray.toList_eq, ByteArray.toList_eq]
  apply decide_eq_decide.2
  show toL a < toL b ↔ _
  conv => lhs; rw [← List.take_append_drop k (toL a), ← List.take_append_drop k (toL b), h]
  rw [lt_prefix]
  rcases hk with hk | hk
  · rw [List.drop_of_length_le (by omega : (toL a).length ≤ k)]
    cases hd : (toL b).drop k with
    | nil =>
      have := congrArg List.length hd
      rw [List.length_drop] at this
      simp at this
      constructor
      · intro h; exact absurd h (List.not_lt_nil _)
      · intro h; omega
    | cons y t =>
      have := congrArg List.length hd
      rw [List.length_drop] at this
      simp at this
      exact ⟨fun _ => by omega, fun _ => List.nil_lt_cons _ _⟩
  · rw [List.drop_of_length_le (by omega : (toL b).length ≤ k)]
    constructor
    · intro h; exact absurd h (List.not_lt_nil _)
    · intro h; omega
set_option maxRecDepth 100000 in
set_option maxHeartbeats 2000000 in
theorem rless_calls (a b : ByteArray) (w : World) (ha : a.size ≤ 9223372036854775807) (hb : b.size ≤ 9223372036854775807) :
    Calls Tryz.prog 199 #[.string a, .string b] w fun e w' => e = .returned (.bool (bLt a b)) ∧ Below w.heap.size w w' := by
  obtain ⟨G, hG⟩ : ∃ G, bLt a b = G := ⟨_, rfl⟩
  have HG := Lib.hid hG
  rw [hG]
  clear hG
  have la : (toL a).length = a.size := list_size a
  have lb : (toL b).length = b.size := list_size b
  have HLA := Lib.hid la
  have HLB := Lib.hid lb
  clear la lb
  go_enter Tryz.func199, Tryz.ntmps199
  go_wp2_with fail
  go_loopw [5] (fun i wr => ∃ k : Nat, k ≤ a.size ∧ k ≤ b.size ∧ i = .int .i64 k ∧ Hid ((toL a).take k = (toL b).take k) ∧ Hid (Below w.heap.size w wr)) (fun i _ => a.size - (intOf i).toNat)
  case atStart => exact ⟨0, Nat.zero_le _, Nat.zero_le _, rfl, Lib.hid rfl, Lib.hid (Below.refl _ _)⟩
  case round =>
    obtain ⟨k, hka, hkb, rfl, HE, HB⟩ := hrel
    by_cases h1 : k < a.size
    · by_cases h2 : k < b.size
      · obtain ⟨x, hx⟩ : ∃ x, (toL a)[k]? = some x := ⟨_, List.getElem?_eq_getElem (by rw [HLA.out]; exact h1)⟩
        obtain ⟨y, hy⟩ : ∃ y, (toL b)[k]? = some y := ⟨_, List.getElem?_eq_getElem (by rw [HLB.out]; exact h2)⟩
        have ex := byte_at a k h1 hx
        have ey := byte_at b k h2 hy
        have HX := Lib.hid hx
        have HY := Lib.hid hy
        have bx := x.toNat_lt
        have by' := y.toNat_lt
        clear hx hy
        by_cases hxy : x = y
        · subst hxy
          have HE2 : Hid ((toL a).take (k + 1) = (toL b).take (k + 1)) := Lib.hid (by rw [take_succ_get2 HX.out, take_succ_get2 HY.out, HE.out])
          go_wp2_with fail
          go_quiet (fail)
          go_wp2_with fail
          go_roundw
          case rel => exact ⟨k + 1, by omega, by omega, by go_num, HE2, Lib.hid (HB.out.trans (((Drawn.refl wr).drewN _).below.mono HB.out.size))⟩
          case measure => simp [intOf]; omega
        · have hnn : x.toNat ≠ y.toNat := fun e => hxy (UInt8.toNat_inj.1 e)
          have HR : Hid (G = decide (x.toNat < y.toNat)) := Lib.hid (by
            rw [← HG.out, bLt_at HE.out HX.out HY.out hxy]
            apply decide_eq_decide.2
            exact UInt8.lt_iff_toNat_lt)
          obtain ⟨xn, hxn⟩ : ∃ xn, x.toNat = xn := ⟨_, rfl⟩
          obtain ⟨yn, hyn⟩ : ∃ yn, y.toNat = yn := ⟨_, rfl⟩
          rw [hxn] at ex bx hnn HR
          rw [hyn] at ey by' hnn HR
          have f1 : ((xn : Int) == (yn : Int)) = false := by rw [beq_eq_false_iff_ne]; omega
          have f2 : ((xn : Int) != (yn : Int)) = true := by simp only [bne, f1]; rfl
          clear hxy hxn hyn hnn
          go_wp2_with fail
          go_quiet (fail)
          go_wp2_with fail
          go_quiet (fail)
          go_wp2_with fail
          go_ret
          exact ⟨by rw [HR.out]; rfl, HB.out.trans ((((Drawn.refl wr).drewN _).drewN _).below.mono HB.out.size)⟩
      · obtain rfl : k = b.size := by omega
        have HR : Hid (G = decide (a.size < b.size)) := Lib.hid (by rw [← HG.out, bLt_end HE.out (Or.inr rfl) hka hkb])
        go_wp2_with fail
        go_ret
        exact ⟨by rw [HR.out]; rfl, HB.out⟩
    · obtain rfl : k = a.size := by omega
      have HR : Hid (G = decide (a.size < b.size)) := Lib.hid (by rw [← HG.out, bLt_end HE.out (Or.inl rfl) hka hkb])
      go_wp2_with fail
      go_ret
      exact ⟨by rw [HR.out]; rfl, HB.out⟩
set_option maxRecDepth 100000 in
set_option maxHeartbeats 1000000 in
theorem rhas7_calls (w : World) (v : Value) (l : List ByteArray) (s : ByteArray) (h : strs w v l) (hl : l.length ≤ 1000000) :
    Calls Tryz.prog 86 #[v, .string s] w fun e w' => e = .returned (.bool (memB s l)) ∧ Below w.heap.size w w' := by
  obtain ⟨A, ca, rfl, _, _⟩ := h.form
  have H1 := Lib.hid h
  obtain ⟨n, hn⟩ : ∃ n, l.length = n := ⟨_, rfl⟩
  have HN := Lib.hid hn
  obtain ⟨G, hG⟩ : ∃ G, memB s l = G := ⟨_, rfl⟩
  have HG := Lib.hid hG
  rw [hn] at hl ⊢
  rw [hG]
  clear h hn hG
  go_enter Tryz.func86, Tryz.ntmps86
  go_wp2_with fail
  go_loopw [5] (fun i wr => ∃ k : Nat, k ≤ n ∧ i = .int .i64 k ∧ Hid (s ∉ l.take k) ∧ Hid (Below w.heap.size w wr)) (fun i _ => n - (intOf i).toNat)
  case atStart => exact ⟨0, Nat.zero_le _, rfl, Lib.hid (by simp), Lib.hid (Below.refl _ _)⟩
  case round =>
    obtain ⟨k, hk, rfl, HK, HB⟩ := hrel
    by_cases hlt : k < n
    · obtain ⟨x, hx⟩ : ∃ s, l[k]? = some s := ⟨_, List.getElem?_eq_getElem (by rw [HN.out]; exact hlt)⟩
      obtain ⟨g, off, c1, hv1, _, _, hc1⟩ := (H1.out.below HB.out).cell hx
      cases hv1
      have HX := Lib.hid hx
      clear hx
      by_cases hxs : x = s
      · subst hxs
        have HR : Hid (G = true) := Lib.hid (by rw [← HG.out]; exact memB_iff.2 (List.mem_of_getElem? HX.out))
        go_wp2_with fail
        go_ret
        exact ⟨by rw [HR.out]; rfl, HB.out⟩
      · have HK2 : Hid (s ∉ l.take (k + 1)) := Lib.hid (by
          rw [take_succ_get2 HX.out, List.mem_append, List.mem_singleton]
          rintro (h | h)
          · exact HK.out h
          · exact hxs h.symm)
        have e1 : (x.toList == s.toList) = false := by rw [beq_eq_false_iff_ne]; exact fun e => hxs (blist_inj e)
        clear hxs
        go_wp2_with fail
        go_roundw
        case rel => exact ⟨k + 1, by omega, by go_num, HK2, HB⟩
        case measure => simp [intOf]; omega
    · obtain rfl : k = n := by omega
      have HR : Hid (G = false) := Lib.hid (by
        rw [← HG.out]
        have h1 := HK.out
        rw [← HN.out, List.take_length] at h1
        cases hm : memB s l with
        | false => rfl
        | true => exact absurd (memB_iff.1 hm) h1)
      go_wp2_with fail
      go_ret
      exact ⟨by rw [HR.out]; rfl, HB.out⟩
end Go.Proofs.YtckblcfkajpofaaGreatDoor
namespace Go.Proofs.YtckblcfkajpofaaGreatDoor
open Go.RowKit
set_option linter.unusedVariables false
set_option linter.unusedSimpArgs false

set_option maxRecDepth 100000 in
set_option maxHeartbeats 4000000 in
theorem listed_yes (w : World) (v : Value) (l : List ByteArray) (ow : ByteArray) (h : strs w v l) (hr : Rising l) (hn : ∀ s ∈ l, nameR s = true ∧ s ≠ ow) (hl : l.length ≤ 1000000) :
    Calls Tryz.prog 187 #[v, .string ow] w fun e w' => e = .returned (.bool true) ∧ Below w.heap.size w w' := by
  obtain ⟨A, ca, rfl, _, _⟩ := h.form
  have H1 := Lib.hid h
  obtain ⟨n, hn'⟩ : ∃ n, l.length = n := ⟨_, rfl⟩
  have HN := Lib.hid hn'
  have HR := Lib.hid hr
  have HA := Lib.hid hn
  rw [hn'] at hl ⊢
  clear h hn' hr hn
  go_enter Tryz.func187, Tryz.ntmps187
  go_wp2_with fail
  go_loopw [5] (fun i wr => ∃ k : Nat, k ≤ n ∧ i = .int .i64 k ∧ Hid (Below w.heap.size w wr)) (fun i _ => n - (intOf i).toNat)
  case atStart => exact ⟨0, Nat.zero_le _, rfl, Lib.hid (Below.refl _ _)⟩
  case round =>
    obtain ⟨k, hk, rfl, HB⟩ := hrel
    by_cases hlt : k < n
    · obtain ⟨x, hx⟩ : ∃ s, l[k]? = some s := ⟨_, List.getElem?_eq_getElem (by rw [HN.out]; exact hlt)⟩
      have HS := H1.out.below HB.out
      obtain ⟨g, off, c1, hv1, _, _, hc1⟩ := HS.cell hx
      cases hv1
      obtain ⟨hxn, hxo⟩ := HA.out x (List.mem_of_getElem? hx)
      have hxs := nameR_size hxn
      have HNR := Lib.hid (fun W => nright1_calls x W (by omega))
      rw [hxn] at HNR
      have e1 : (x.toList == ow.toList) = false := by rw [beq_eq_false_iff_ne]; exact fun e => hxo (blist_inj e)
      have HX := Lib.hid hx
      clear hx hxn hxo
      cases k with
      | zero =>
        clear HS
        have hc1 : wr.cell? ⟨g, off, none⟩ = some (.string x) := by simpa using hc1
        go_wp2_with fail
        refine wp_region_G (fun W => W.cell? ⟨g, off, none⟩ = some (.string x)) [30] (by kernel_rfl) ?_
        have hS : (fun W : World => W.cell? ⟨g, off, none⟩ = some (.string x)) wr.drew := hc1
        have hb0 : Below w.heap.size w wr.drew := HB.out.drew
        refine wpAnyG_pure (i := 0) (v := ?va10) at0 (by kernel_rfl) (fun _ _ _ h => h) (Or.inl ⟨by rfl, ?ha10⟩) (Or.inr (by assumption)) ?ra10
        case ha10 => (intro w hSw; (try dsimp only at hSw); go_simp; try with_reducible rfl)
        case' ra10 => skip
        try simp only [Act.put, List.setIfInBounds_toArray, List.set_cons_zero, List.set_cons_succ]
        refine wpAnyG_pure (i := 1) (v := ?va11) at1 (by kernel_rfl) (fun _ _ _ h => h) (Or.inl ⟨by rfl, ?ha11⟩) (Or.inr (by assumption)) ?ra11
        case ha11 => (intro w hSw; (try dsimp only at hSw); go_simp; try with_reducible rfl)
        case' ra11 => skip
        try simp only [Act.put, List.setIfInBounds_toArray, List.set_cons_zero, List.set_cons_succ]
        refine wpAnyG_pure (i := 2) (v := ?va12) at2 (by kernel_rfl) (fun _ _ _ h => h) (Or.inl ⟨by rfl, ?ha12⟩) (Or.inr (by assumption)) ?ra12
        case ha12 => (intro w hSw; (try dsimp only at hSw); go_simp; try with_reducible rfl)
        case' ra12 => skip
        try simp only [Act.put, List.setIfInBounds_toArray, List.set_cons_zero, List.set_cons_succ]
        refine wpAnyG_take (ws := [0,1,2,3,4,5,6,7,8,9,10,11,12,13,14,15,16,17,18,19,20,21,22,23,24,25,26,27,28,29]) (i := 3) (v := ?va13) at3 (by kernel_rfl) (fun _ _ _ h => h) (Or.inl ⟨by rfl, ?ha13⟩) (by assumption) ?ra13
        case ha13 => (intro w hSw; (try dsimp only at hSw); go_simp; try with_reducible rfl)
        case' ra13 => skip
        try simp only [Act.put, List.setIfInBounds_toArray, List.set_cons_zero, List.set_cons_succ]
        refine wpAnyG_one 4 at4 (by kernel_rfl) (fun Kn hK => ?_)
        go_simp
        refine (HNR.out _).mono ?_
        rintro e w5 ⟨rfl, hb5⟩
        have hS5 : (fun W : World => W.cell? ⟨g, off, none⟩ = some (.string x)) w5 := (Keep.of_below hb5 : Keep (fun _ => False) _ w5).cell hS fun e => e
        have hb6 := hb0.trans (hb5.mono hb0.size)
        refine hK.out _ _ (Or.inr hS5) ?_
        clear hK Kn hS hb5 hb0
        have hS := hS5
        clear hS5
        try simp only [Act.put, List.setIfInBounds_toArray, List.set_cons_zero, List.set_cons_succ]
        refine wpAnyG_pure (i := 5) (v := ?va25) at5 (by kernel_rfl) (fun _ _ _ h => h) (Or.inl ⟨by rfl, ?ha25⟩) (Or.inr (by assumption)) ?ra25
        case ha25 => (intro w hSw; (try dsimp only at hSw); go_simp; try with_reducible rfl)
        case' ra25 => skip
        try simp only [Act.put, List.setIfInBounds_toArray, List.set_cons_zero, List.set_cons_succ]
        refine wpAnyG_pure (i := 6) (v := ?va26) at6 (by kernel_rfl) (fun _ _ _ h => h) (Or.inl ⟨by rfl, ?ha26⟩) (Or.inr (by assumption)) ?ra26
        case ha26 => (intro w hSw; (try dsimp only at hSw); go_simp; try with_reducible rfl)
        case' ra26 => skip
        try simp only [Act.put, List.setIfInBounds_toArray, List.set_cons_zero, List.set_cons_succ]
        refine wpAnyG_pure (i := 7) (v := ?va27) at7 (by kernel_rfl) (fun _ _ _ h => h) (Or.inl ⟨by rfl, ?ha27⟩) (Or.inr (by assumption)) ?ra27
        case ha27 => (intro w hSw; (try dsimp only at hSw); go_simp; try with_reducible rfl)
        case' ra27 => skip
        try simp only [Act.put, List.setIfInBounds_toArray, List.set_cons_zero, List.set_cons_succ]
        refine wpAnyG_pure (i := 8) (v := ?va28) at8 (by kernel_rfl) (fun _ _ _ h => h) (Or.inl ⟨by rfl, ?ha28⟩) (Or.inr (by assumption)) ?ra28
        case ha28 => (intro w hSw; (try dsimp only at hSw); go_simp; try with_reducible rfl)
        case' ra28 => skip
        try simp only [Act.put, List.setIfInBounds_toArray, List.set_cons_zero, List.set_cons_succ]
        refine wpAnyG_pure (i := 9) (v := ?va29) at9 (by kernel_rfl) (fun _ _ _ h => h) (Or.inl ⟨by rfl, ?ha29⟩) (Or.inr (by assumption)) ?ra29
        case ha29 => (intro w hSw; (try dsimp only at hSw); go_simp; try with_reducible rfl)
        case' ra29 => skip
        try simp only [Act.put, List.setIfInBounds_toArray, List.set_cons_zero, List.set_cons_succ]
        refine wpAnyG_take (ws := [0,1,2,3,4,5,6,7,8,9,10,11,12,13,14,15,16,17,18,19,20,21,22,23,24,25,26,27,28,29]) (i := 10) (v := ?va210) at10 (by kernel_rfl) (fun _ _ _ h => h) (Or.inl ⟨by rfl, ?ha210⟩) (by assumption) ?ra210
        case ha210 => (intro w hSw; (try dsimp only at hSw); go_simp; try with_reducible rfl)
        case' ra210 => skip
        try simp only [Act.put, List.setIfInBounds_toArray, List.set_cons_zero, List.set_cons_succ]
        refine wpAnyG_pure (i := 11) (v := ?va211) at11 (by kernel_rfl) (fun _ _ _ h => h) (Or.inl ⟨by rfl, ?ha211⟩) (Or.inr (by assumption)) ?ra211
        case ha211 => (intro w hSw; (try dsimp only at hSw); go_simp; try with_reducible rfl)
        case' ra211 => skip
        try simp only [Act.put, List.setIfInBounds_toArray, List.set_cons_zero, List.set_cons_succ]
        refine wpAnyG_pure (i := 12) (v := ?va212) at12 (by kernel_rfl) (fun _ _ _ h => h) (Or.inl ⟨by rfl, ?ha212⟩) (Or.inr (by assumption)) ?ra212
        case ha212 => (intro w hSw; (try dsimp only at hSw); go_simp; try with_reducible rfl)
        case' ra212 => skip
        try simp only [Act.put, List.setIfInBounds_toArray, List.set_cons_zero, List.set_cons_succ]
        refine wpAnyG_pure (i := 13) (v := ?va213) at13 (by kernel_rfl) (fun _ _ _ h => h) (Or.inl ⟨by rfl, ?ha213⟩) (Or.inr (by assumption)) ?ra213
        case ha213 => (intro w hSw; (try dsimp only at hSw); go_simp; try with_reducible rfl)
        case' ra213 => skip
        try simp only [Act.put, List.setIfInBounds_toArray, List.set_cons_zero, List.set_cons_succ]
        refine wpAnyG_pure (i := 14) (v := ?va214) at14 (by kernel_rfl) (fun _ _ _ h => h) (Or.inl ⟨by rfl, ?ha214⟩) (Or.inr (by assumption)) ?ra214
        case ha214 => (intro w hSw; (try dsimp only at hSw); go_simp; try with_reducible rfl)
        case' ra214 => skip
        try simp only [Act.put, List.setIfInBounds_toArray, List.set_cons_zero, List.set_cons_succ]
        refine wpAnyG_pure (i := 15) (v := ?va215) at15 (by kernel_rfl) (fun _ _ _ h => h) (Or.inl ⟨by rfl, ?ha215⟩) (Or.inr (by assumption)) ?ra215
        case ha215 => (intro w hSw; (try dsimp only at hSw); go_simp; try with_reducible rfl)
        case' ra215 => skip
        try simp only [Act.put, List.setIfInBounds_toArray, List.set_cons_zero, List.set_cons_succ]
        refine wpAnyG_pure (i := 16) (v := ?va216) at16 (by kernel_rfl) (fun _ _ _ h => h) (Or.inl ⟨by rfl, ?ha216⟩) (Or.inr (by assumption)) ?ra216
        case ha216 => (intro w hSw; (try dsimp only at hSw); go_simp; try with_reducible rfl)
        case' ra216 => skip
        try simp only [Act.put, List.setIfInBounds_toArray, List.set_cons_zero, List.set_cons_succ]
        refine wpAnyG_pure (i := 17) (v := ?va217) at17 (by kernel_rfl) (fun _ _ _ h => h) (Or.inl ⟨by rfl, ?ha217⟩) (Or.inr (by assumption)) ?ra217
        case ha217 => (intro w hSw; (try dsimp only at hSw); go_simp; try with_reducible rfl)
        case' ra217 => skip
        try simp only [Act.put, List.setIfInBounds_toArray, List.set_cons_zero, List.set_cons_succ]
        refine wpAnyG_pure (i := 18) (v := undef) at18 (by kernel_rfl) (fun _ _ _ h => h) (Or.inr ⟨by rfl, rfl⟩) (by first | assumption | exact Or.inr (by assumption)) ?ra318
        case' ra318 => skip
        try simp only [Act.put, List.setIfInBounds_toArray, List.set_cons_zero, List.set_cons_succ]
        refine wpAnyG_pure (i := 19) (v := undef) at19 (by kernel_rfl) (fun _ _ _ h => h) (Or.inr ⟨by rfl, rfl⟩) (by first | assumption | exact Or.inr (by assumption)) ?ra319
        case' ra319 => skip
        try simp only [Act.put, List.setIfInBounds_toArray, List.set_cons_zero, List.set_cons_succ]
        refine wpAnyG_pure (i := 20) (v := undef) at20 (by kernel_rfl) (fun _ _ _ h => h) (Or.inr ⟨by rfl, rfl⟩) (by first | assumption | exact Or.inr (by assumption)) ?ra320
        case' ra320 => skip
        try simp only [Act.put, List.setIfInBounds_toArray, List.set_cons_zero, List.set_cons_succ]
        refine wpAnyG_pure (i := 21) (v := undef) at21 (by kernel_rfl) (fun _ _ _ h => h) (Or.inr ⟨by rfl, rfl⟩) (by first | assumption | exact Or.inr (by assumption)) ?ra321
        case' ra321 => skip
        try simp only [Act.put, List.setIfInBounds_toArray, List.set_cons_zero, List.set_cons_succ]
        refine wpAnyG_pure (i := 22) (v := undef) at22 (by kernel_rfl) (fun _ _ _ h => h) (Or.inr ⟨by rfl, rfl⟩) (by first | assumption | exact Or.inr (by assumption)) ?ra322
        case' ra322 => skip
        try simp only [Act.put, List.setIfInBounds_toArray, List.set_cons_zero, List.set_cons_succ]
        refine wpAnyG_pure (i := 23) (v := undef) at23 (by kernel_rfl) (fun _ _ _ h => h) (Or.inr ⟨by rfl, rfl⟩) (by first | assumption | exact Or.inr (by assumption)) ?ra323
        case' ra323 => skip
        try simp only [Act.put, List.setIfInBounds_toArray, List.set_cons_zero, List.set_cons_succ]
        refine wpAnyG_pure (i := 24) (v := undef) at24 (by kernel_rfl) (fun _ _ _ h => h) (Or.inr ⟨by rfl, rfl⟩) (by first | assumption | exact Or.inr (by assumption)) ?ra324
        case' ra324 => skip
        try simp only [Act.put, List.setIfInBounds_toArray, List.set_cons_zero, List.set_cons_succ]
        refine wpAnyG_pure (i := 25) (v := undef) at25 (by kernel_rfl) (fun _ _ _ h => h) (Or.inr ⟨by rfl, rfl⟩) (by first | assumption | exact Or.inr (by assumption)) ?ra325
        case' ra325 => skip
        try simp only [Act.put, List.setIfInBounds_toArray, List.set_cons_zero, List.set_cons_succ]
        refine wpAnyG_pure (i := 26) (v := undef) at26 (by kernel_rfl) (fun _ _ _ h => h) (Or.inr ⟨by rfl, rfl⟩) (by first | assumption | exact Or.inr (by assumption)) ?ra326
        case' ra326 => skip
        try simp only [Act.put, List.setIfInBounds_toArray, List.set_cons_zero, List.set_cons_succ]
        refine wpAnyG_pure (i := 27) (v := undef) at27 (by kernel_rfl) (fun _ _ _ h => h) (Or.inr ⟨by rfl, rfl⟩) (by first | assumption | exact Or.inr (by assumption)) ?ra327
        case' ra327 => skip
        try simp only [Act.put, List.setIfInBounds_toArray, List.set_cons_zero, List.set_cons_succ]
        refine wpAnyG_pure (i := 28) (v := undef) at28 (by kernel_rfl) (fun _ _ _ h => h) (Or.inr ⟨by rfl, rfl⟩) (by first | assumption | exact Or.inr (by assumption)) ?ra328
        case' ra328 => skip
        try simp only [Act.put, List.setIfInBounds_toArray, List.set_cons_zero, List.set_cons_succ]
        refine wpAnyG_pure (i := 29) (v := ?va329) at29 (by kernel_rfl) (fun _ _ _ h => h) (Or.inl ⟨by rfl, ?ha329⟩) (Or.inr (by assumption)) ?ra329
        case ha329 => (intro w hSw; (try dsimp only at hSw); go_simp; try with_reducible rfl)
        case' ra329 => skip
        try simp only [Act.put, List.setIfInBounds_toArray, List.set_cons_zero, List.set_cons_succ]
        have hb7 := hb6
        refine wpAnyG_one 30 at30 (by kernel_rfl) (fun Kn hK => ?_)
        go_simp
        refine hK.out _ _ (Or.inl (by kernel_rfl)) ?_
        have HB7 := Lib.hid hb7
        clear hK Kn hS hb6 hb7
        refine wpAnyG_done (by kernel_rfl) ?_
        try simp only [Act.put, List.setIfInBounds_toArray, List.set_cons_zero, List.set_cons_succ]
        clear hc1
        go_wp2_with fail
        go_roundw
        case rel => exact ⟨0 + 1, by omega, by go_num, HB7⟩
        case measure => simp [intOf]; omega
      | succ j =>
        obtain ⟨y, hy⟩ : ∃ s, l[j]? = some s := ⟨_, List.getElem?_eq_getElem (by rw [HN.out]; omega)⟩
        obtain ⟨g', off', c1', hv1', _, _, hc2⟩ := HS.cell hy
        cases hv1'
        have hys := nameR_size (HA.out y (List.mem_of_getElem? hy)).1
        have hlt2 : bLt y x = true := by
          have h1 := List.pairwise_iff_getElem.1 HR.out j (j + 1) (by rw [HN.out]; omega) (by rw [HN.out]; omega) (by omega)
          have e2 := (List.getElem?_eq_some_iff.1 hy).2
          have e3 := (List.getElem?_eq_some_iff.1 HX.out).2
          rw [e2, e3] at h1; exact h1
        have HLE := Lib.hid (fun W => rless_calls y x W (by omega) (by omega))
        rw [hlt2] at HLE
        have ej : ((j + 1 : Nat) : Int) - 1 = (j : Int) := by omega
        have hp0 : (0 : Int) ≤ (j : Int) + 1 := by omega
        have hp1 : (j : Int) + 1 < (n : Int) := by omega
        have hp2 : (j : Int) < (n : Int) := by omega
        have hp3 : (0 : Int) < (j : Int) + 1 := by omega
        have hw0 : IntKind.i64.wrap (j : Int) = (j : Int) := by rw [IntKind.wrap_i64]; omega
        clear hy hlt2 HS
        go_wp2_with fail
        refine wp_region_G (fun W => W.cell? ⟨g, off + (j + 1), none⟩ = some (.string x) ∧ W.cell? ⟨g, off + j, none⟩ = some (.string y)) [30] (by kernel_rfl) ?_
        have hS : (fun W : World => W.cell? ⟨g, off + (j + 1), none⟩ = some (.string x) ∧ W.cell? ⟨g, off + j, none⟩ = some (.string y)) wr.drew := ⟨hc1, hc2⟩
        have hb0 : Below w.heap.size w wr.drew := HB.out.drew
        refine wpAnyG_pure (i := 0) (v := ?vb10) at0 (by kernel_rfl) (fun _ _ _ h => h) (Or.inl ⟨by rfl, ?hb10⟩) (Or.inr (by assumption)) ?rb10
        case hb10 => (intro w hSw; (try dsimp only at hSw); go_simp; try with_reducible rfl)
        case' rb10 => skip
        try simp only [Act.put, List.setIfInBounds_toArray, List.set_cons_zero, List.set_cons_succ]
        refine wpAnyG_pure (i := 1) (v := ?vb11) at1 (by kernel_rfl) (fun _ _ _ h => h) (Or.inl ⟨by rfl, ?hb11⟩) (Or.inr (by assumption)) ?rb11
        case hb11 => (intro w hSw; (try dsimp only at hSw); go_simp; try with_reducible rfl)
        case' rb11 => skip
        try simp only [Act.put, List.setIfInBounds_toArray, List.set_cons_zero, List.set_cons_succ]
        refine wpAnyG_pure (i := 2) (v := ?vb12) at2 (by kernel_rfl) (fun _ _ _ h => h) (Or.inl ⟨by rfl, ?hb12⟩) (Or.inr (by assumption)) ?rb12
        case hb12 => (intro w hSw; (try dsimp only at hSw); go_simp; try with_reducible rfl)
        case' rb12 => skip
        try simp only [Act.put, List.setIfInBounds_toArray, List.set_cons_zero, List.set_cons_succ]
        refine wpAnyG_take (ws := [0,1,2,3,4,5,6,7,8,9,10,11,12,13,14,15,16,17,18,19,20,21,22,23,24,25,26,27,28,29]) (i := 3) (v := ?vb13) at3 (by kernel_rfl) (fun _ _ _ h => h) (Or.inl ⟨by rfl, ?hb13⟩) (by assumption) ?rb13
        case hb13 => (intro w hSw; (try dsimp only at hSw); go_simp; try with_reducible rfl)
        case' rb13 => skip
        try simp only [Act.put, List.setIfInBounds_toArray, List.set_cons_zero, List.set_cons_succ]
        refine wpAnyG_one 4 at4 (by kernel_rfl) (fun Kn hK => ?_)
        go_simp
        refine (HNR.out _).mono ?_
        rintro e w5 ⟨rfl, hb5⟩
        have hS5 : (fun W : World => W.cell? ⟨g, off + (j + 1), none⟩ = some (.string x) ∧ W.cell? ⟨g, off + j, none⟩ = some (.string y)) w5 := ⟨(Keep.of_below hb5 : Keep (fun _ => False) _ w5).cell hS.1 fun e => e, (Keep.of_below hb5 : Keep (fun _ => False) _ w5).cell hS.2 fun e => e⟩
        have hb6 := hb0.trans (hb5.mono hb0.size)
        refine hK.out _ _ (Or.inr hS5) ?_
        clear hK Kn hS hb5 hb0
        have hS := hS5
        clear hS5
        try simp only [Act.put, List.setIfInBounds_toArray, List.set_cons_zero, List.set_cons_succ]
        refine wpAnyG_pure (i := 5) (v := ?vb25) at5 (by kernel_rfl) (fun _ _ _ h => h) (Or.inl ⟨by rfl, ?hb25⟩) (Or.inr (by assumption)) ?rb25
        case hb25 => (intro w hSw; (try dsimp only at hSw); go_simp; try with_reducible rfl)
        case' rb25 => skip
        try simp only [Act.put, List.setIfInBounds_toArray, List.set_cons_zero, List.set_cons_succ]
        refine wpAnyG_pure (i := 6) (v := ?vb26) at6 (by kernel_rfl) (fun _ _ _ h => h) (Or.inl ⟨by rfl, ?hb26⟩) (Or.inr (by assumption)) ?rb26
        case hb26 => (intro w hSw; (try dsimp only at hSw); go_simp; try with_reducible rfl)
        case' rb26 => skip
        try simp only [Act.put, List.setIfInBounds_toArray, List.set_cons_zero, List.set_cons_succ]
        refine wpAnyG_pure (i := 7) (v := ?vb27) at7 (by kernel_rfl) (fun _ _ _ h => h) (Or.inl ⟨by rfl, ?hb27⟩) (Or.inr (by assumption)) ?rb27
        case hb27 => (intro w hSw; (try dsimp only at hSw); go_simp; try with_reducible rfl)
        case' rb27 => skip
        try simp only [Act.put, List.setIfInBounds_toArray, List.set_cons_zero, List.set_cons_succ]
        refine wpAnyG_pure (i := 8) (v := ?vb28) at8 (by kernel_rfl) (fun _ _ _ h => h) (Or.inl ⟨by rfl, ?hb28⟩) (Or.inr (by assumption)) ?rb28
        case hb28 => (intro w hSw; (try dsimp only at hSw); go_simp; try with_reducible rfl)
        case' rb28 => skip
        try simp only [Act.put, List.setIfInBounds_toArray, List.set_cons_zero, List.set_cons_succ]
        refine wpAnyG_pure (i := 9) (v := ?vb29) at9 (by kernel_rfl) (fun _ _ _ h => h) (Or.inl ⟨by rfl, ?hb29⟩) (Or.inr (by assumption)) ?rb29
        case hb29 => (intro w hSw; (try dsimp only at hSw); go_simp; try with_reducible rfl)
        case' rb29 => skip
        try simp only [Act.put, List.setIfInBounds_toArray, List.set_cons_zero, List.set_cons_succ]
        refine wpAnyG_take (ws := [0,1,2,3,4,5,6,7,8,9,10,11,12,13,14,15,16,17,18,19,20,21,22,23,24,25,26,27,28,29]) (i := 10) (v := ?vb210) at10 (by kernel_rfl) (fun _ _ _ h => h) (Or.inl ⟨by rfl, ?hb210⟩) (by assumption) ?rb210
        case hb210 => (intro w hSw; (try dsimp only at hSw); go_simp; try with_reducible rfl)
        case' rb210 => skip
        try simp only [Act.put, List.setIfInBounds_toArray, List.set_cons_zero, List.set_cons_succ]
        refine wpAnyG_pure (i := 11) (v := ?vb211) at11 (by kernel_rfl) (fun _ _ _ h => h) (Or.inl ⟨by rfl, ?hb211⟩) (Or.inr (by assumption)) ?rb211
        case hb211 => (intro w hSw; (try dsimp only at hSw); go_simp; try with_reducible rfl)
        case' rb211 => skip
        try simp only [Act.put, List.setIfInBounds_toArray, List.set_cons_zero, List.set_cons_succ]
        refine wpAnyG_pure (i := 12) (v := ?vb212) at12 (by kernel_rfl) (fun _ _ _ h => h) (Or.inl ⟨by rfl, ?hb212⟩) (Or.inr (by assumption)) ?rb212
        case hb212 => (intro w hSw; (try dsimp only at hSw); go_simp; try with_reducible rfl)
        case' rb212 => skip
        try simp only [Act.put, List.setIfInBounds_toArray, List.set_cons_zero, List.set_cons_succ]
        refine wpAnyG_pure (i := 13) (v := ?vb213) at13 (by kernel_rfl) (fun _ _ _ h => h) (Or.inl ⟨by rfl, ?hb213⟩) (Or.inr (by assumption)) ?rb213
        case hb213 => (intro w hSw; (try dsimp only at hSw); go_simp; try with_reducible rfl)
        case' rb213 => skip
        try simp only [Act.put, List.setIfInBounds_toArray, List.set_cons_zero, List.set_cons_succ]
        refine wpAnyG_pure (i := 14) (v := ?vb214) at14 (by kernel_rfl) (fun _ _ _ h => h) (Or.inl ⟨by rfl, ?hb214⟩) (Or.inr (by assumption)) ?rb214
        case hb214 => (intro w hSw; (try dsimp only at hSw); go_simp; try with_reducible rfl)
        case' rb214 => skip
        try simp only [Act.put, List.setIfInBounds_toArray, List.set_cons_zero, List.set_cons_succ]
        refine wpAnyG_pure (i := 15) (v := ?vb215) at15 (by kernel_rfl) (fun _ _ _ h => h) (Or.inl ⟨by rfl, ?hb215⟩) (Or.inr (by assumption)) ?rb215
        case hb215 => (intro w hSw; (try dsimp only at hSw); go_simp; try with_reducible rfl)
        case' rb215 => skip
        try simp only [Act.put, List.setIfInBounds_toArray, List.set_cons_zero, List.set_cons_succ]
        refine wpAnyG_pure (i := 16) (v := ?vb216) at16 (by kernel_rfl) (fun _ _ _ h => h) (Or.inl ⟨by rfl, ?hb216⟩) (Or.inr (by assumption)) ?rb216
        case hb216 => (intro w hSw; (try dsimp only at hSw); go_simp; try with_reducible rfl)
        case' rb216 => skip
        try simp only [Act.put, List.setIfInBounds_toArray, List.set_cons_zero, List.set_cons_succ]
        refine wpAnyG_pure (i := 17) (v := ?vb217) at17 (by kernel_rfl) (fun _ _ _ h => h) (Or.inl ⟨by rfl, ?hb217⟩) (Or.inr (by assumption)) ?rb217
        case hb217 => (intro w hSw; (try dsimp only at hSw); go_simp; try with_reducible rfl)
        case' rb217 => skip
        try simp only [Act.put, List.setIfInBounds_toArray, List.set_cons_zero, List.set_cons_succ]
        refine wpAnyG_pure (i := 18) (v := ?vb318) at18 (by kernel_rfl) (fun _ _ _ h => h) (Or.inl ⟨by rfl, ?hb318⟩) (Or.inr (by assumption)) ?rb318
        case hb318 => (intro w hSw; (try dsimp only at hSw); go_simp; try with_reducible rfl)
        case' rb318 => skip
        try simp only [Act.put, List.setIfInBounds_toArray, List.set_cons_zero, List.set_cons_succ]
        refine wpAnyG_pure (i := 19) (v := ?vb319) at19 (by kernel_rfl) (fun _ _ _ h => h) (Or.inl ⟨by rfl, ?hb319⟩) (Or.inr (by assumption)) ?rb319
        case hb319 => (intro w hSw; (try dsimp only at hSw); go_simp; try with_reducible rfl)
        case' rb319 => skip
        try simp only [Act.put, List.setIfInBounds_toArray, List.set_cons_zero, List.set_cons_succ]
        refine wpAnyG_pure (i := 20) (v := ?vb320) at20 (by kernel_rfl) (fun _ _ _ h => h) (Or.inl ⟨by rfl, ?hb320⟩) (Or.inr (by assumption)) ?rb320
        case hb320 => (intro w hSw; (try dsimp only at hSw); go_simp; try with_reducible rfl)
        case' rb320 => skip
        try simp only [Act.put, List.setIfInBounds_toArray, List.set_cons_zero, List.set_cons_succ]
        refine wpAnyG_pure (i := 21) (v := ?vb321) at21 (by kernel_rfl) (fun _ _ _ h => h) (Or.inl ⟨by rfl, ?hb321⟩) (Or.inr (by assumption)) ?rb321
        case hb321 => (intro w hSw; (try dsimp only at hSw); go_simp; try with_reducible rfl)
        case' rb321 => skip
        try simp only [Act.put, List.setIfInBounds_toArray, List.set_cons_zero, List.set_cons_succ]
        refine wpAnyG_take (ws := [0,1,2,3,4,5,6,7,8,9,10,11,12,13,14,15,16,17,18,19,20,21,22,23,24,25,26,27,28,29]) (i := 22) (v := ?vb322) at22 (by kernel_rfl) (fun _ _ _ h => h) (Or.inl ⟨by rfl, ?hb322⟩) (by assumption) ?rb322
        case hb322 => (intro w hSw; (try dsimp only at hSw); go_simp; try with_reducible rfl)
        case' rb322 => skip
        try simp only [Act.put, List.setIfInBounds_toArray, List.set_cons_zero, List.set_cons_succ]
        refine wpAnyG_pure (i := 23) (v := ?vb323) at23 (by kernel_rfl) (fun _ _ _ h => h) (Or.inl ⟨by rfl, ?hb323⟩) (Or.inr (by assumption)) ?rb323
        case hb323 => (intro w hSw; (try dsimp only at hSw); go_simp; try with_reducible rfl)
        case' rb323 => skip
        try simp only [Act.put, List.setIfInBounds_toArray, List.set_cons_zero, List.set_cons_succ]
        refine wpAnyG_pure (i := 24) (v := ?vb324) at24 (by kernel_rfl) (fun _ _ _ h => h) (Or.inl ⟨by rfl, ?hb324⟩) (Or.inr (by assumption)) ?rb324
        case hb324 => (intro w hSw; (try dsimp only at hSw); go_simp; try with_reducible rfl)
        case' rb324 => skip
        try simp only [Act.put, List.setIfInBounds_toArray, List.set_cons_zero, List.set_cons_succ]
        refine wpAnyG_pure (i := 25) (v := ?vb325) at25 (by kernel_rfl) (fun _ _ _ h => h) (Or.inl ⟨by rfl, ?hb325⟩) (Or.inr (by assumption)) ?rb325
        case hb325 => (intro w hSw; (try dsimp only at hSw); go_simp; try with_reducible rfl)
        case' rb325 => skip
        try simp only [Act.put, List.setIfInBounds_toArray, List.set_cons_zero, List.set_cons_succ]
        refine wpAnyG_take (ws := [0,1,2,3,4,5,6,7,8,9,10,11,12,13,14,15,16,17,18,19,20,21,22,23,24,25,26,27,28,29]) (i := 26) (v := ?vb326) at26 (by kernel_rfl) (fun _ _ _ h => h) (Or.inl ⟨by rfl, ?hb326⟩) (by assumption) ?rb326
        case hb326 => (intro w hSw; (try dsimp only at hSw); go_simp; try with_reducible rfl)
        case' rb326 => skip
        try simp only [Act.put, List.setIfInBounds_toArray, List.set_cons_zero, List.set_cons_succ]
        refine wpAnyG_one 27 at27 (by kernel_rfl) (fun Kn hK => ?_)
        go_simp
        refine (HLE.out _).mono ?_
        rintro e w6 ⟨rfl, hb8⟩
        have hS6 : (fun W : World => W.cell? ⟨g, off + (j + 1), none⟩ = some (.string x) ∧ W.cell? ⟨g, off + j, none⟩ = some (.string y)) w6 := ⟨(Keep.of_below hb8 : Keep (fun _ => False) _ w6).cell hS.1 fun e => e, (Keep.of_below hb8 : Keep (fun _ => False) _ w6).cell hS.2 fun e => e⟩
        have hb7 := hb6.trans (hb8.mono hb6.size)
        refine hK.out _ _ (Or.inr hS6) ?_
        clear hK Kn hS hb8
        have hS := hS6
        clear hS6
        try simp only [Act.put, List.setIfInBounds_toArray, List.set_cons_zero, List.set_cons_succ]
        refine wpAnyG_pure (i := 28) (v := ?vb428) at28 (by kernel_rfl) (fun _ _ _ h => h) (Or.inl ⟨by rfl, ?hb428⟩) (Or.inr (by assumption)) ?rb428
        case hb428 => (intro w hSw; (try dsimp only at hSw); go_simp; try with_reducible rfl)
        case' rb428 => skip
        try simp only [Act.put, List.setIfInBounds_toArray, List.set_cons_zero, List.set_cons_succ]
        refine wpAnyG_pure (i := 29) (v := ?vb429) at29 (by kernel_rfl) (fun _ _ _ h => h) (Or.inl ⟨by rfl, ?hb429⟩) (Or.inr (by assumption)) ?rb429
        case hb429 => (intro w hSw; (try dsimp only at hSw); go_simp; try with_reducible rfl)
        case' rb429 => skip
        try simp only [Act.put, List.setIfInBounds_toArray, List.set_cons_zero, List.set_cons_succ]
        refine wpAnyG_one 30 at30 (by kernel_rfl) (fun Kn hK => ?_)
        go_simp
        refine hK.out _ _ (Or.inl (by kernel_rfl)) ?_
        have HB7 := Lib.hid hb7
        clear hK Kn hS hb6 hb7
        refine wpAnyG_done (by kernel_rfl) ?_
        try simp only [Act.put, List.setIfInBounds_toArray, List.set_cons_zero, List.set_cons_succ]
        clear hc1 hc2
        go_wp2_with fail
        go_roundw
        case rel => exact ⟨j + 1 + 1, by omega, by go_num, HB7⟩
        case measure => simp [intOf]; omega
    · obtain rfl : k = n := by omega
      go_wp2_with fail
      go_ret
      exact ⟨rfl, HB.out⟩
end Go.Proofs.YtckblcfkajpofaaGreatDoor
namespace Go.Proofs.YtckblcfkajpofaaGreatDoor
open Go.RowKit
set_option linter.unusedVariables false
set_option linter.unusedSimpArgs false

set_option maxRecDepth 100000 in
set_option maxHeartbeats 4000000 in
theorem right7_yes (w : World) (r : Rt) (vr vw : Value) (h : Lists w r vr vw) (hr : r.right = true) :
    Calls Tryz.prog 83 #[.agg #[.string r.owner, .string r.file, .int .i64 r.epoch, vr, vw]] w fun e w' => e = .returned (.bool true) ∧ Below w.heap.size w w' := by
  obtain ⟨⟨a1, a2, a3, a4, a5, a6, a7⟩, hall⟩ := Rt.right_iff.1 hr
  have hgd := Rt.right_good hr
  have hgo := hgd.owner
  have hgf := hgd.file
  obtain ⟨ow, fi, ep, rd, wl⟩ := r
  dsimp only at a1 a2 a3 a4 a5 a6 a7 hall hgo hgf
  obtain ⟨A, ca, rfl, _, _⟩ := h.rd.form
  obtain ⟨C, cb, rfl, _, _⟩ := h.wr.form
  have HN1 := Lib.hid (fun W => nright1_calls ow W (by omega))
  have HN2 := Lib.hid (fun W => nright1_calls fi W (by omega))
  rw [a1] at HN1
  rw [a2] at HN2
  have HL := Lib.hid h
  have HL1 := Lib.hid (fun W (hb : Below w.heap.size w W) => listed_yes W _ rd ow (h.rd.below hb) a6 (fun s hs => ⟨(hall s (List.mem_append_left _ hs)).1, (hall s (List.mem_append_left _ hs)).2.1⟩) (by omega))
  have HL2 := Lib.hid (fun W (hb : Below w.heap.size w W) => listed_yes W _ wl ow (h.wr.below hb) a7 (fun s hs => ⟨(hall s (List.mem_append_right _ hs)).1, (hall s (List.mem_append_right _ hs)).2.1⟩) (by omega))
  have HHS := Lib.hid (fun W (hb : Below w.heap.size w W) s => rhas7_calls W _ wl s (h.wr.below hb) (by omega))
  have HALL := Lib.hid hall
  obtain ⟨W, hW⟩ : ∃ W, w.alloc (.cells #[.string ow, .string fi, .int .i64 ep, .slice A rd.length ca, .slice C wl.length cb] 39) = W := ⟨_, rfl⟩
  have hb : Below w.heap.size w W := by rw [← hW]; exact (Below.refl _ w).alloc (Nat.le_refl _) _
  have hr0 : W.heap[w.heap.size]? = some (.cells #[.string ow, .string fi, .int .i64 ep, .slice A rd.length ca, .slice C wl.length cb] 39 (0, 0)) := by rw [← hW, get_alloc, if_pos rfl]
  have HB0 := Lib.hid hb
  have HR0 := Lib.hid hr0
  obtain ⟨c0, c1, c2, c3, c4⟩ := row5 hr0
  have hlen : rd.length + wl.length ≤ 5 := a5
  obtain ⟨n, hn⟩ : ∃ n, rd.length = n := ⟨_, rfl⟩
  obtain ⟨m, hm⟩ : ∃ m, wl.length = m := ⟨_, rfl⟩
  have HN := Lib.hid hn
  have HM := Lib.hid hm
  rw [hn] at HL1 HR0 c3 hW hlen ⊢
  rw [hm] at HL2 HHS HR0 c4 hW hlen ⊢
  clear h hr hgd hn hm hb hr0 hall a1 a2 a5 a6 a7
  go_enter Tryz.func83, Tryz.ntmps83
  go_wp2_with fail
  refine (HN1.out _).mono ?_
  rintro e w1 ⟨rfl, hb1⟩
  have hB1 := HB0.out.trans (hb1.mono HB0.out.size)
  have HB1 := Lib.hid hB1
  have hr1 := (Keep.of_below hb1 : Keep (fun _ => False) W w1).at HR0.out fun e => e
  have HR1 := Lib.hid hr1
  clear c0 c1 c2 c3 c4 hW
  obtain ⟨c0, c1, c2, c3, c4⟩ := row5 hr1
  clear hb1 hB1 hr1
  go_wp2_with fail
  refine (HN2.out _).mono ?_
  rintro e w2 ⟨rfl, hb2⟩
  have HB2 := Lib.hid (HB1.out.trans (hb2.mono HB1.out.size))
  have hr2 := (Keep.of_below hb2 : Keep (fun _ => False) w1 w2).at HR1.out fun e => e
  have HR2 := Lib.hid hr2
  clear c0 c1 c2 c3 c4
  obtain ⟨c0, c1, c2, c3, c4⟩ := row5 hr2
  clear hb2 hr2
  go_wp2_with fail
  refine (HL1.out _ HB2.out).mono ?_
  rintro e w3 ⟨rfl, hb3⟩
  have HB3 := Lib.hid (HB2.out.trans (hb3.mono HB2.out.size))
  have hr3 := (Keep.of_below hb3 : Keep (fun _ => False) w2 w3).at HR2.out fun e => e
  have HR3 := Lib.hid hr3
  clear c0 c1 c2 c3 c4
  obtain ⟨c0, c1, c2, c3, c4⟩ := row5 hr3
  clear hb3 hr3
  go_wp2_with fail
  refine (HL2.out _ HB3.out).mono ?_
  rintro e w4 ⟨rfl, hb4⟩
  have HB4 := Lib.hid (HB3.out.trans (hb4.mono HB3.out.size))
  have hr4 := (Keep.of_below hb4 : Keep (fun _ => False) w3 w4).at HR3.out fun e => e
  have HR4 := Lib.hid hr4
  clear c0 c1 c2 c3 c4
  clear hb4 hr4
  go_wp2_with fail
  go_loopw [3] (fun i wr => ∃ k : Nat, k ≤ n ∧ i = .int .i64 k ∧ Hid (Below w4.heap.size w4 wr)) (fun i _ => n - (intOf i).toNat)
  case atStart => exact ⟨0, Nat.zero_le _, rfl, Lib.hid (Below.refl _ _)⟩
  case round =>
    obtain ⟨k, hk, rfl, HB⟩ := hrel
    have hbw := HB4.out.trans (HB.out.mono HB4.out.size)
    have hrr := (Keep.of_below HB.out : Keep (fun _ => False) w4 wr).at HR4.out fun e => e
    obtain ⟨c0, c1, c2, c3, c4⟩ := row5 hrr
    clear hrr
    by_cases hlt : k < n
    · obtain ⟨x, hx⟩ : ∃ s, rd[k]? = some s := ⟨_, List.getElem?_eq_getElem (by rw [HN.out]; exact hlt)⟩
      obtain ⟨g, off, c1', hv1, _, _, hc1⟩ := (HL.out.rd.below hbw).cell hx
      cases hv1
      have hno : memB x wl = false := by
        cases hq : memB x wl with
        | false => rfl
        | true => exact absurd ⟨List.mem_of_getElem? hx, memB_iff.1 hq⟩ (HALL.out x (List.mem_append_left _ (List.mem_of_getElem? hx))).2.2
      have HH := Lib.hid (HHS.out wr.drew (hbw.trans ((Below.refl _ wr).drew.mono hbw.size)) x)
      rw [hno] at HH
      clear hx hno hbw
      go_wp2_with fail
      refine wp_region_G (fun w' => (w'.cell? ⟨w.heap.size, 3, none⟩ = some (.slice (some ⟨g, off, none⟩) n ca) ∧ w'.cell? ⟨w.heap.size, 4, none⟩ = some (.slice C m cb)) ∧ w'.cell? ⟨g, off + k, none⟩ = some (.string x)) [7] (by kernel_rfl) ?_
      have hS : (fun w' : World => (w'.cell? ⟨w.heap.size, 3, none⟩ = some (.slice (some ⟨g, off, none⟩) n ca) ∧ w'.cell? ⟨w.heap.size, 4, none⟩ = some (.slice C m cb)) ∧ w'.cell? ⟨g, off + k, none⟩ = some (.string x)) wr.drew := ⟨⟨c3, c4⟩, hc1⟩
      refine wpAnyG_pure (i := 0) (v := ?va0) at0 (by kernel_rfl) (fun _ _ _ h => h) (Or.inl ⟨by rfl, ?ha0⟩) (Or.inr (by assumption)) ?ra0
      case ha0 => (intro w hSw; (try dsimp only at hSw); go_simp; try with_reducible rfl)
      case' ra0 => skip
      try simp only [Act.put, List.setIfInBounds_toArray, List.set_cons_zero, List.set_cons_succ]
      refine wpAnyG_take (ws := [0,1,2,3,4,5,6]) (i := 1) (v := ?va1) at1 (by kernel_rfl) (fun _ _ _ h => h) (Or.inl ⟨by rfl, ?ha1⟩) (by assumption) ?ra1
      case ha1 => (intro w hSw; (try dsimp only at hSw); go_simp; try with_reducible rfl)
      case' ra1 => skip
      try simp only [Act.put, List.setIfInBounds_toArray, List.set_cons_zero, List.set_cons_succ]
      refine wpAnyG_pure (i := 2) (v := ?va2) at2 (by kernel_rfl) (fun _ _ _ h => h) (Or.inl ⟨by rfl, ?ha2⟩) (Or.inr (by assumption)) ?ra2
      case ha2 => (intro w hSw; (try dsimp only at hSw); go_simp; try with_reducible rfl)
      case' ra2 => skip
      try simp only [Act.put, List.setIfInBounds_toArray, List.set_cons_zero, List.set_cons_succ]
      refine wpAnyG_take (ws := [0,1,2,3,4,5,6]) (i := 3) (v := ?va3) at3 (by kernel_rfl) (fun _ _ _ h => h) (Or.inl ⟨by rfl, ?ha3⟩) (by assumption) ?ra3
      case ha3 => (intro w hSw; (try dsimp only at hSw); go_simp; try with_reducible rfl)
      case' ra3 => skip
      try simp only [Act.put, List.setIfInBounds_toArray, List.set_cons_zero, List.set_cons_succ]
      refine wpAnyG_pure (i := 4) (v := ?va4) at4 (by kernel_rfl) (fun _ _ _ h => h) (Or.inl ⟨by rfl, ?ha4⟩) (Or.inr (by assumption)) ?ra4
      case ha4 => (intro w hSw; (try dsimp only at hSw); go_simp; try with_reducible rfl)
      case' ra4 => skip
      try simp only [Act.put, List.setIfInBounds_toArray, List.set_cons_zero, List.set_cons_succ]
      refine wpAnyG_pure (i := 5) (v := ?va5) at5 (by kernel_rfl) (fun _ _ _ h => h) (Or.inl ⟨by rfl, ?ha5⟩) (Or.inr (by assumption)) ?ra5
      case ha5 => (intro w hSw; (try dsimp only at hSw); go_simp; try with_reducible rfl)
      case' ra5 => skip
      try simp only [Act.put, List.setIfInBounds_toArray, List.set_cons_zero, List.set_cons_succ]
      refine wpAnyG_take (ws := [0,1,2,3,4,5,6]) (i := 6) (v := ?va6) at6 (by kernel_rfl) (fun _ _ _ h => h) (Or.inl ⟨by rfl, ?ha6⟩) (by assumption) ?ra6
      case ha6 => (intro w hSw; (try dsimp only at hSw); go_simp; try with_reducible rfl)
      case' ra6 => skip
      try simp only [Act.put, List.setIfInBounds_toArray, List.set_cons_zero, List.set_cons_succ]
      refine wpAnyG_one 7 at7 (by kernel_rfl) (fun Kn hK => ?_)
      go_simp
      refine HH.out.mono ?_
      rintro e w5 ⟨rfl, hb5⟩
      refine hK.out _ _ (Or.inl (by kernel_rfl)) ?_
      have hbd : Below w4.heap.size w4 wr.drew := HB.out.drew
      have HB5 := Lib.hid (hbd.trans (hb5.mono hbd.size))
      clear hbd
      clear hK Kn hS hc1 c0 c1 c2 c3 c4 hb5
      refine wpAnyG_done (by kernel_rfl) ?_
      try simp only [Act.put, List.setIfInBounds_toArray, List.set_cons_zero, List.set_cons_succ]
      go_wp2_with fail
      go_roundw
      case rel => exact ⟨k + 1, by omega, by go_num, HB5⟩
      case measure => simp [intOf]; omega
    · obtain rfl : k = n := by omega
      have HBW := Lib.hid hbw
      clear hbw
      go_wp2_with fail
      go_ret
      exact ⟨rfl, HBW.out⟩
end Go.Proofs.YtckblcfkajpofaaGreatDoor
