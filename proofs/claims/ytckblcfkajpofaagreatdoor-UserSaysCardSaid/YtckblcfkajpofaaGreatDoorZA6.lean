/- document 2: Put, PutText, Take, TakeText. document 2: TakeText. document 3: many, size. document 3: size. (Printed by tools/gve.py.) document 3: Right, made, one, two, OfAtom, OfText, OfPair, OfHash, OfPublic. -/
import Derived.Test.YtckblcfkajpofaaGreatDoorZA3
import Derived.Test.YtckblcfkajpofaaGreatDoorZA8
import Derived.Test.YtckblcfkajpofaaGreatDoorZA4
namespace Go.Proofs.YtckblcfkajpofaaGreatDoor
open Go.RowKit
set_option linter.unusedVariables false
set_option linter.unusedSimpArgs false

theorem u8V_one (l : List UInt8) : ∀ u ∈ u8V l, u.oneCell' = true := by
  intro u hu; obtain ⟨b, _, rfl⟩ := List.mem_map.1 hu; rfl
theorem prepend_u8 {w : World} {base : Nat} {v : Value} {l : List UInt8} (b : UInt8) (h : w.ownsRow base 5 1 v l.length (u8V l)) (hl : l.length ≤ 100000) :
    ∃ v' w', (Builtin.append_ #[89, 89] 89 #[.slice (some ⟨w.heap.size, 0, none⟩) 1 1, v]).run Tryz.prog (w.alloc (.cells #[.int .u8 (b.toNat : Int)] 5)) = .ok v' w' ∧ w'.ownsRow w.heap.size 5 1 v' (b :: l).length (u8V (b :: l)) ∧ Below w.heap.size w w' := by
  obtain ⟨i0, hi, hz0, hz1, hz2⟩ := info_parts infoU8
  have hm : (w.alloc (.cells #[.int .u8 (b.toNat : Int)] 5)).ownsRow w.heap.size 5 1 (.slice (some ⟨w.heap.size, 0, none⟩) 1 1) 1 [.int .u8 (b.toNat : Int)] :=
    ⟨rfl, Or.inr ⟨w.heap.size, 1, _, rfl, Nat.le_refl _, (get_alloc _ _ _).trans (if_pos rfl), Nat.le_refl _, by decide, rfl, rfl⟩⟩
  have hb0 : Below w.heap.size w (w.alloc (.cells #[.int .u8 (b.toNat : Int)] 5)) := (Below.refl _ w).alloc (Nat.le_refl _) _
  rcases h.2 with ⟨rfl, h0⟩ | ⟨g, cap, cur, rfl, _, hg, h1, h2, h3, h4⟩
  · have hl0 : l = [] := List.eq_nil_of_length_eq_zero h0
    subst hl0
    exact ⟨_, _, run_append_owned_none (P := Tryz.prog) (w := w.alloc (.cells #[.int .u8 (b.toNat : Int)] 5)) w.heap.size 89 89 5 i0 1 Tryz.underlying89 hi _ 1 _ hm, hm, hb0⟩
  · obtain ⟨v', w', hr, o1, o2, o3, o4⟩ := run_append_own_at (P := Tryz.prog) (w.alloc (.cells #[.int .u8 (b.toNat : Int)] 5)) w.heap.size 89 89 5 i0 (.int .u8 0) 1 1 Tryz.underlying89 hi hz0 hz1 hz2 rfl (by decide)
      (.slice (some ⟨w.heap.size, 0, none⟩) 1 1) 1 [.int .u8 (b.toNat : Int)] hm ⟨g, 0, none⟩ l.length cap (u8V l) (by simp [u8V]) (fun j u hj => by
        rw [add_at, Nat.zero_add]
        refine (Keep.alloc (fun _ => False) w _).cell ?_ fun e => e
        rw [cell_of_row w g _ _ _ _ hg, ← Array.getElem?_toList]
        rw [← h4, List.getElem?_take] at hj
        split at hj
        · exact hj
        · cases hj) (u8V_one l) (by unfold maxLen; omega) (by omega) (by rw [size_alloc]; omega)
    refine ⟨v', w', hr, ?_, hb0.grown o2 (by simp) (fun k hk => by simp [Value.ownBlock] at hk; omega)⟩
    rw [show (b :: l).length = 1 + l.length by simp; omega]
    exact o1
theorem take_pos {n k : Nat} (hk : k < (digs n).length) : 0 < val ((digs n).take (k + 1)) := by
  cases hd : digs n with
  | nil => rw [hd] at hk; simp at hk
  | cons b m =>
    have hb := digs_head n b m hd
    rw [List.take_succ_cons, val_cons]
    have : 0 < b.toNat := by
      rcases Nat.eq_zero_or_pos b.toNat with h | h
      · exact absurd (UInt8.toNat_inj.1 (by rw [h]; rfl)) hb
      · exact h
    have h2 : 0 < 256 ^ (List.take k m).length := Nat.pow_pos (by decide)
    have := Nat.mul_pos this h2
    omega
theorem take_mod {n k : Nat} {b : UInt8} (hb : (digs n)[k]? = some b) : val ((digs n).take (k + 1)) = 256 * val ((digs n).take k) + b.toNat := by
  rw [List.take_add_one, hb]; exact val_snoc _ _
theorem conv_nil (W : World) : (convert 89 9 (.slice none 0 0)).run Tryz.prog W = .ok (.string ⟨#[]⟩) W := by kernel_rfl
theorem conv_own {w : World} {base : Nat} {v : Value} {l : List UInt8} (h : w.ownsRow base 5 1 v l.length (u8V l)) {W : World} (hW : Keep (fun _ => False) w W) : (convert 89 9 v).run Tryz.prog W = .ok (.string (mkB l)) W := by
  rcases h.2 with ⟨rfl, h0⟩ | ⟨g, cap, cur, rfl, _, hg, h1, h2, h3, h4⟩
  · obtain rfl : l = [] := List.eq_nil_of_length_eq_zero h0
    exact conv_nil W
  · have := run_convert_bytes_back (P := Tryz.prog) W 89 9 5 ⟨g, 0, none⟩ cap l Tryz.underlying89 Tryz.underlying5 Tryz.underlying9 (fun j hj => by
      refine hW.cell ?_ fun e => e
      rw [add_at, Nat.zero_add, cell_of_row _ _ _ _ _ _ hg, ← Array.getElem?_toList]
      have h5 : (u8V l)[j]? = some (.int .u8 (l[j].toNat : Int)) := by rw [u8V_get, List.getElem?_eq_getElem hj]; rfl
      rw [← h4, List.getElem?_take] at h5
      split at h5
      · simpa using h5
      · cases h5)
    rw [this]
    simp [mkB]
set_option maxRecDepth 100000 in
set_option maxHeartbeats 1000000 in
theorem d2put_calls (n : Nat) (w : World) (hn : n < 18446744073709551616) :
    Calls Tryz.prog 133 #[.int .u64 n] w fun e w' => e = .returned (.string (mkB (wput n))) ∧ Below w.heap.size w w' := by
  have h8 := digs_le8 hn
  have hval : val ((digs n).take (digs n).length) = n := by rw [List.take_length]; exact val_digs n
  obtain ⟨D, hD⟩ : ∃ D, digs n = D := ⟨_, rfl⟩
  have HD := Lib.hid hD
  have HV := Lib.hid (hD ▸ hval)
  rw [hD] at h8
  clear hval hD
  go_enter Tryz.func133, Tryz.ntmps133
  go_wp2_with fail
  go_loopw [0, 3] (fun nv bv wr => ∃ k : Nat, k ≤ D.length ∧ nv = .int .u64 (val (D.take k)) ∧ Hid (wr.ownsRow w.heap.size 5 1 bv (D.drop k).length (u8V (D.drop k)) ∧ Below w.heap.size w wr)) (fun nv _ _ => (intOf nv).toNat)
  case atStart => exact ⟨D.length, Nat.le_refl _, by rw [HV.out], Lib.hid ⟨by rw [List.drop_length]; exact own_nil _ _ _ _, Below.refl _ _⟩⟩
  case round =>
    obtain ⟨k, hk, rfl, HO⟩ := hrel
    cases k with
    | zero =>
      have hv0 : val (D.take 0) = 0 := rfl
      have hown := HO.out.1
      rw [List.drop_zero] at hown
      have hw : wput n = UInt8.ofNat D.length :: D := by unfold wput; rw [HD.out]
      have hcv : ∀ W, Keep (fun _ => False) wr W → (convert 89 9 u3).run Tryz.prog W = .ok (.string (mkB D)) W := fun W hW => conv_own hown hW
      have hc1 : ∀ (W : World) (b : UInt8), (convert 89 9 (.slice (some ⟨W.heap.size, 0, none⟩) 1 1)).run Tryz.prog (W.alloc (.cells #[.int .u8 (b.toNat : Int)] 5)) = .ok (.string (mkB [b])) (W.alloc (.cells #[.int .u8 (b.toNat : Int)] 5)) := fun W b =>
        conv_own (w := W.alloc (.cells #[.int .u8 (b.toNat : Int)] 5)) (base := 0) (l := [b]) ⟨rfl, Or.inr ⟨W.heap.size, 1, _, rfl, Nat.zero_le _, (get_alloc _ _ _).trans (if_pos rfl), Nat.le_refl _, by decide, rfl, rfl⟩⟩ (Keep.refl _ _)
      have hq1 := hc1 wr (UInt8.ofNat D.length)
      rw [show ((UInt8.ofNat D.length).toNat : Int) = (D.length : Int) by simp; omega] at hq1
      have hq2 := hcv (wr.alloc (.cells #[.int .u8 (D.length : Int)] 5)) (Keep.alloc _ _ _)
      obtain ⟨A3, c3, rfl, _, _⟩ := own_slice hown
      rw [hv0]
      have hww : wput n = UInt8.ofNat D.length :: D := hw
      have HW := Lib.hid hww
      have HO2 := Lib.hid HO.out.2
      have hapn : mkB [UInt8.ofNat D.length] ++ mkB D = mkB (wput n) := by rw [mkB_append, hw]; rfl
      have hz1 : (mkB [UInt8.ofNat D.length]).size = 1 := by rw [mkB_size]; rfl
      have hz2 : (mkB D).size ≤ 8 := by rw [mkB_size]; exact h8
      obtain ⟨X1, hX1⟩ : ∃ X, mkB [UInt8.ofNat D.length] = X := ⟨_, rfl⟩
      obtain ⟨X2, hX2⟩ : ∃ X, mkB D = X := ⟨_, rfl⟩
      obtain ⟨X3, hX3⟩ : ∃ X, mkB (wput n) = X := ⟨_, rfl⟩
      rw [hX1] at hapn hz1 hq1
      rw [hX2] at hapn hz2 hq2
      rw [hX3] at hapn
      have HX3 := Lib.hid hX3
      clear hw hww hown HO hc1 hcv hX1 hX2 hX3
      go_wp2_with fail
      go_ret
      exact ⟨by rw [HX3.out]; rfl, HO2.out.alloc HO2.out.size _⟩
    | succ k =>
      obtain ⟨b, hb⟩ : ∃ x, D[k]? = some x := ⟨_, List.getElem?_eq_getElem (by omega)⟩
      have hpos := HD.out ▸ take_pos (n := n) (k := k) (by rw [HD.out]; omega)
      have hmod := HD.out ▸ take_mod (n := n) (k := k) (b := b) (by rw [HD.out]; exact hb)
      have hlt : val (D.take (k + 1)) < 18446744073709551616 := Nat.lt_of_lt_of_le (val_lt _) (by rw [List.length_take]; exact Nat.le_trans (Nat.pow_le_pow_right (by omega) (show min (k + 1) D.length ≤ 8 by omega)) (by decide))
      have hdrop : D.drop k = b :: D.drop (k + 1) := by
        have hlk : k < D.length := by omega
        rw [List.drop_eq_getElem_cons hlk]
        rw [List.getElem?_eq_getElem hlk] at hb
        cases hb; rfl
      have hbl := b.toNat_lt
      obtain ⟨v', w', hrun, ho, hbw⟩ := prepend_u8 b HO.out.1 (by rw [List.length_drop]; omega)
      have HN : Hid (w'.ownsRow w.heap.size 5 1 v' (D.drop k).length (u8V (D.drop k)) ∧ Below w.heap.size w w') := Lib.hid ⟨by rw [hdrop]; exact own_lower ho HO.out.2.size, HO.out.2.trans (hbw.mono HO.out.2.size)⟩
      obtain ⟨A3, c3, rfl, _, _⟩ := own_slice HO.out.1
      obtain ⟨M, hM⟩ : ∃ M, val (D.take (k + 1)) = M := ⟨_, rfl⟩
      obtain ⟨m', hm'⟩ : ∃ m', val (D.take k) = m' := ⟨_, rfl⟩
      rw [hM] at hpos hmod hlt ⊢
      rw [hm'] at hmod
      have e1 : (M : Int) % 256 = b.toNat := by omega
      have e2 : (M : Int).tmod 256 = b.toNat := by rw [Int.tmod_eq_emod_of_nonneg (by omega)]; exact e1
      have e3 : (M : Int) / 256 = m' := by omega
      have e4 : (M : Int).tdiv 256 = m' := by rw [Int.tdiv_eq_ediv_of_nonneg (by omega)]; exact e3
      have e5 : (0 : Int) < M := by omega
      have e6 : IntKind.u8.wrap (b.toNat : Int) = b.toNat := by simp [IntKind.wrap, IntKind.bits, IntKind.signed]; omega
      have e7 : (b.toNat : Int) % 256 = b.toNat := by omega
      have HE1 := Lib.hid hm'
      have hml : m' < M := by omega
      obtain ⟨L, hL⟩ : ∃ L, (D.drop (k + 1)).length = L := ⟨_, rfl⟩
      rw [hL] at hrun ⊢
      clear ho hbw hb hdrop HO hmod hM hm' hL hpos
      go_wp2_with (at_builtin; refine wp_append_run rfl _ _ _ rfl rfl rfl hrun ?_)
      go_roundw
      case rel => exact ⟨k, by omega, by rw [HE1.out], HN⟩
      case measure => simp [intOf]; omega
set_option maxHeartbeats 400000 in
theorem d2puttext_calls (t : ByteArray) (w : World) (ht : t.size ≤ 140737488355000) :
    Calls Tryz.prog 173 #[.string t] w fun e w' => e = .returned (.string (mkB (wtext (toL t)))) ∧ Below w.heap.size w w' := by
  have hc1 := d2put_calls t.size w (by omega)
  have hlen := wput_len_le (n := t.size) (by omega)
  have hz : (mkB (wput t.size)).size ≤ 9 := by rw [mkB_size]; exact hlen
  have hap : mkB (wput t.size) ++ t = mkB (wtext (toL t)) := by
    conv => lhs; rw [← list_mkB t]
    rw [mkB_append]; simp [wtext, toL, mkB_list, list_mkB, list_size]
  have e1 : IntKind.u64.wrap (t.size : Int) = (t.size : Int) := by rw [IntKind.wrap_u64]; omega
  obtain ⟨X, hX⟩ : ∃ X, mkB (wput t.size) = X := ⟨_, rfl⟩
  obtain ⟨Y, hY⟩ : ∃ Y, mkB (wtext (toL t)) = Y := ⟨_, rfl⟩
  rw [hX] at hc1 hz hap
  rw [hY] at hap ⊢
  have HC := Lib.hid hc1
  clear hc1 hX hY
  go_enter Tryz.func173, Tryz.ntmps173
  go_wp2_with fail
  refine HC.out.mono ?_
  rintro e w1 ⟨rfl, hb⟩
  have HB := Lib.hid hb
  clear hb
  go_wp2_with fail
  go_ret
  exact ⟨rfl, HB.out⟩
theorem byte_at (s : ByteArray) (j : Nat) (hj : j < s.size) {x : UInt8} (hx : (toL s)[j]? = some x) : (s[j]'hj).toNat = x.toNat := by
  have : (s.data.toList)[j]? = some (s[j]'hj) := by
    rw [Array.getElem?_toList]; exact Array.getElem?_eq_getElem hj
  unfold toL at hx
  rw [hx] at this; cases this; rfl
set_option maxRecDepth 100000 in
set_option maxHeartbeats 1000000 in
theorem d2take_calls (s : ByteArray) (w : World) (hs : s.size ≤ 9223372036854775807) :
    Calls Tryz.prog 139 #[.string s] w fun e w' => e = .returned (takeV (toL s)) ∧ Below w.heap.size w w' := by
  cases hl' : toL s with
  | nil =>
    have hl : s.data.toList = [] := hl'
    have h1 : s.toList = [] := by rw [ByteArray.toList_eq]; exact hl
    have h2 : s.toList.isEmpty = true := by rw [h1]; rfl
    have HE : Hid (takeV [] = .tuple #[.int .u64 0, .string ⟨#[]⟩, .int .i64 2]) := rfl
    clear hl hl'
    go_enter Tryz.func139, Tryz.ntmps139
    go_wp2_with fail
    go_returns
    exact ⟨by rw [HE.out]; rfl, Below.refl _ _⟩
  | cons c r =>
    have hsz : s.size = r.length + 1 := by have := list_size s; rw [show s.data.toList = c :: r from hl'] at this; exact this.symm
    have hne : s.toList.isEmpty = false := by rw [ByteArray.toList_eq, show s.data.toList = c :: r from hl']; rfl
    have h0 : 0 < s.size := by omega
    have hc0 := byte_at s 0 h0 (x := c) (by rw [hl']; rfl)
    have HAT : Hid (∀ j (hj : j + 1 < s.size) x, r[j]? = some x → (s[j + 1]'hj).toNat = x.toNat) := Lib.hid fun j hj x hx => byte_at s (j + 1) hj (by rw [hl']; simpa using hx)
    obtain ⟨m, hm⟩ : ∃ m, c.toNat = m := ⟨_, rfl⟩
    have hm255 : m ≤ 255 := by have := c.toNat_lt; omega
    rw [hm] at hc0
    have HM := Lib.hid hm
    have HL := Lib.hid hl'
    clear hm hl'
    by_cases h8 : 8 < m
    · have HV : Hid (takeV (c :: r) = .tuple #[.int .u64 0, .string ⟨#[]⟩, .int .i64 2]) := Lib.hid (takeV_bad (by rw [HM.out]; omega))
      go_enter Tryz.func139, Tryz.ntmps139
      go_wp2_with fail
      go_returns
      exact ⟨by rw [HV.out]; rfl, Below.refl _ _⟩
    · by_cases h9 : r.length < m
      · have HV : Hid (takeV (c :: r) = .tuple #[.int .u64 0, .string ⟨#[]⟩, .int .i64 2]) := Lib.hid (takeV_bad (by rw [HM.out]; omega))
        go_enter Tryz.func139, Tryz.ntmps139
        go_wp2_with fail
        go_returns
        exact ⟨by rw [HV.out]; rfl, Below.refl _ _⟩
      · have hmr : m ≤ r.length := by omega
        by_cases hz : 0 < m ∧ r.head? = some 0
        · obtain ⟨hm0, hh⟩ := hz
          have HV : Hid (takeV (c :: r) = .tuple #[.int .u64 0, .string ⟨#[]⟩, .int .i64 2]) := Lib.hid (takeV_zero (by rw [HM.out]; exact hm0) hh)
          have h1 : 1 < s.size := by omega
          have hb1 := HAT.out 0 h1 0 (by rw [← List.head?_eq_getElem?]; exact hh)
          have hb2 : (s[1]'h1).toNat = 0 := hb1
          clear hb1 hh
          go_enter Tryz.func139, Tryz.ntmps139
          go_wp2_with fail
          go_returns
          exact ⟨by rw [HV.out]; rfl, Below.refl _ _⟩
        · have hbad : ¬ (8 < c.toNat ∨ r.length < c.toNat) := by rw [HM.out]; omega
          have hgood := takeV_good hbad (by rw [HM.out]; exact hz)
          rw [HM.out] at hgood
          have hdrop : s.extract (1 + m) s.size = mkB (r.drop m) := by
            rw [← list_mkB (s.extract (1 + m) s.size), Lib.extract_data, show s.data.toList = c :: r from HL.out]
            congr 1
            rw [hsz, Nat.add_comm 1 m, List.drop_succ_cons]
            exact List.take_of_length_le (by simp)
          obtain ⟨T, hT⟩ : ∃ T, mkB (r.drop m) = T := ⟨_, rfl⟩
          rw [hT] at hgood hdrop
          rw [hsz] at hdrop
          have HV := Lib.hid hgood
          clear hgood hT hbad
          by_cases hm0 : 0 < m
          · have h1 : 1 < s.size := by omega
            obtain ⟨x0, hx0⟩ : ∃ x, r[0]? = some x := ⟨_, List.getElem?_eq_getElem (by omega)⟩
            have hb1 : (s[1]'h1).toNat = x0.toNat := HAT.out 0 h1 x0 hx0
            have hxz : ¬ x0.toNat = 0 := by
              intro e
              refine hz ⟨hm0, ?_⟩
              rw [List.head?_eq_getElem?, hx0]
              exact congrArg some (UInt8.toNat_inj.1 (by rw [e]; rfl))
            obtain ⟨y0, hy0⟩ : ∃ y, x0.toNat = y := ⟨_, rfl⟩
            rw [hy0] at hb1 hxz
            have hz2 : ((y0 : Int) == 0) = false := by simp; omega
            clear hx0 hy0 hz
            go_enter Tryz.func139, Tryz.ntmps139
            go_wp2_with fail
            go_loopw [5, 7] (fun n i wr => ∃ k : Nat, k ≤ m ∧ i = .int .i64 (1 + k) ∧ n = .int .u64 (val (r.take k)) ∧ w = wr) (fun _ i _ => m + 1 - (intOf i).toNat)
            case atStart => exact ⟨0, Nat.zero_le _, rfl, rfl, rfl⟩
            case round =>
              obtain ⟨k, hk, rfl, rfl, rfl⟩ := hrel
              by_cases hlt : k < m
              · obtain ⟨x, hxk⟩ : ∃ x, r[k]? = some x := ⟨_, List.getElem?_eq_getElem (by omega)⟩
                have hks : k + 1 < s.size := by omega
                have hks2 : 1 + k < s.size := by omega
                have hcell : (s[1 + k]'hks2).toNat = x.toNat := by
                  have := HAT.out k hks x hxk
                  simpa [Nat.add_comm] using this
                have hstep : val (r.take (k + 1)) = 256 * val (r.take k) + x.toNat := by rw [List.take_add_one, hxk]; exact val_snoc _ _
                have hvl := val_lt (r.take k)
                have hvb : 256 * val (r.take k) < 18446744073709551616 := by
                  have : 256 ^ (r.take k).length ≤ 256 ^ 7 := Nat.pow_le_pow_right (by omega) (by rw [List.length_take]; omega)
                  omega
                have hx256 := x.toNat_lt
                have HS := Lib.hid hstep
                obtain ⟨v, hv⟩ : ∃ v, val (r.take k) = v := ⟨_, rfl⟩
                obtain ⟨y, hy⟩ : ∃ y, x.toNat = y := ⟨_, rfl⟩
                rw [hv] at HS hvb ⊢
                rw [hy] at HS hx256 hcell
                clear hv hy hvl hxk hstep
                have q1 : IntKind.u64.wrap (256 * (v : Int)) = 256 * (v : Int) := by rw [IntKind.wrap_u64]; omega
                have q2 : IntKind.u64.wrap (256 * (v : Int) + (y : Int)) = 256 * (v : Int) + (y : Int) := by rw [IntKind.wrap_u64]; omega
                have q3 : IntKind.u64.wrap (y : Int) = (y : Int) := by rw [IntKind.wrap_u64]; omega
                have q4 : ((1 : Int) + (k : Int)).toNat = 1 + k := by omega
                go_wp2_with fail
                go_roundw
                case rel => exact ⟨k + 1, by omega, by go_num, by rw [HS.out]; simp, trivial⟩
                case measure => simp [intOf]; omega
              · obtain rfl : k = m := by omega
                have q4 : ((1 : Int) + (k : Int)).toNat = 1 + k := by omega
                go_wp2_with fail
                go_quiet (fail)
                go_wp2_with fail
                go_returns
                exact ⟨by rw [HV.out]; rfl, ((Drawn.refl w).drewN _).below⟩
          · obtain rfl : m = 0 := by omega
            clear hz hm0
            have hdrop0 : s.extract 1 (r.length + 1) = T := hdrop
            go_enter Tryz.func139, Tryz.ntmps139
            go_wp2_with fail
            go_loopw [5, 7] (fun n i wr => i = .int .i64 1 ∧ n = .int .u64 0 ∧ w = wr) (fun _ i _ => 0)
            case atStart => exact ⟨rfl, rfl, rfl⟩
            case round =>
              obtain ⟨rfl, rfl, rfl⟩ := hrel
              go_wp2_with fail
              go_quiet (fail)
              go_wp2_with fail
              go_returns
              exact ⟨by rw [HV.out]; rfl, ((Drawn.refl w).drewN _).below⟩
end Go.Proofs.YtckblcfkajpofaaGreatDoor
namespace Go.Proofs.YtckblcfkajpofaaGreatDoor
open Go.RowKit
set_option linter.unusedVariables false
set_option linter.unusedSimpArgs false

set_option maxRecDepth 100000 in
set_option maxHeartbeats 1000000 in
theorem d2taketext_calls (s : ByteArray) (most : Int) (w : World) (hs : s.size ≤ 9223372036854775807) (hm : most ≤ 9223372036854775807) (hm2 : -9223372036854775808 ≤ most) :
    Calls Tryz.prog 235 #[.string s, .int .i64 most] w fun e w' => e = .returned (textV (toL s) most) ∧ Below w.heap.size w w' := by
  have h1 := d2take_calls s w hs
  unfold takeV at h1
  cases ht : wtake (toL s) with
  | none =>
    rw [ht] at h1
    have HV : Hid (textV (toL s) most = .tuple #[.string ⟨#[]⟩, .string ⟨#[]⟩, .int .i64 2]) := Lib.hid (by unfold textV wtakeText; rw [ht])
    have HC := Lib.hid h1
    clear h1 ht
    go_enter Tryz.func235, Tryz.ntmps235
    go_wp2_with fail
    refine HC.out.mono ?_
    rintro e w1 ⟨rfl, hb⟩
    have HB := Lib.hid hb
    clear hb
    go_wp2_with fail
    go_returns
    exact ⟨by rw [HV.out]; rfl, HB.out⟩
  | some p =>
    obtain ⟨n, r⟩ := p
    rw [ht] at h1
    simp only at h1
    have hn := (wtake_some ht).2
    have hrl := wtake_len ht
    have hls : (toL s).length = s.size := list_size s
    have hDs : (mkB r).size = r.length := mkB_size r
    obtain ⟨M, hM⟩ : ∃ M, max most 0 = M := ⟨_, rfl⟩
    have hM0 : 0 ≤ M := by rw [← hM]; exact Int.le_max_right _ _
    have hM1 : M ≤ 9223372036854775807 := by rw [← hM]; omega
    have eM : IntKind.u64.wrap M = M := by rw [IntKind.wrap_u64]; omega
    have eL : IntKind.u64.wrap (r.length : Int) = (r.length : Int) := by rw [IntKind.wrap_u64]; omega
    by_cases hlt : M < n
    · have HV : Hid (textV (toL s) most = .tuple #[.string ⟨#[]⟩, .string ⟨#[]⟩, .int .i64 10]) := Lib.hid (by unfold textV wtakeText; rw [ht]; simp only; rw [if_pos (by rw [hM]; exact hlt)])
      have HC := Lib.hid h1
      clear h1 ht
      go_enter Tryz.func235, Tryz.ntmps235
      go_wp2_with fail
      refine HC.out.mono ?_
      rintro e w1 ⟨rfl, hb⟩
      have HB := Lib.hid hb
      clear hb
      go_wp2_with fail
      go_returns
      exact ⟨by rw [HV.out]; rfl, HB.out⟩
    · have hltM : ¬ max most 0 < n := by rw [hM]; exact hlt
      by_cases h2 : r.length < n
      · have HV : Hid (textV (toL s) most = .tuple #[.string ⟨#[]⟩, .string ⟨#[]⟩, .int .i64 2]) := Lib.hid (by unfold textV wtakeText; rw [ht]; simp only; rw [if_neg hltM, if_pos h2])
        obtain ⟨D, hD⟩ : ∃ D, mkB r = D := ⟨_, rfl⟩
        rw [hD] at h1 hDs
        have HC := Lib.hid h1
        clear h1 ht hD hltM
        go_enter Tryz.func235, Tryz.ntmps235
        go_wp2_with fail
        refine HC.out.mono ?_
        rintro e w1 ⟨rfl, hb⟩
        have HB := Lib.hid hb
        clear hb
        go_wp2_with fail
        go_returns
        exact ⟨by rw [HV.out]; rfl, HB.out⟩
      · have hnr : n ≤ r.length := by omega
        have hD1 : (mkB r).extract 0 n = mkB (r.take n) := by
          rw [← list_mkB ((mkB r).extract 0 n), Lib.extract_data, mkB_list]; simp
        have hD2 : (mkB r).extract n r.length = mkB (r.drop n) := by
          rw [← list_mkB ((mkB r).extract n r.length), Lib.extract_data, mkB_list]
          congr 1
          exact List.take_of_length_le (by simp)
        obtain ⟨D, hD⟩ : ∃ D, mkB r = D := ⟨_, rfl⟩
        obtain ⟨T, hT⟩ : ∃ T, mkB (r.take n) = T := ⟨_, rfl⟩
        obtain ⟨U, hU⟩ : ∃ U, mkB (r.drop n) = U := ⟨_, rfl⟩
        have HV : Hid (textV (toL s) most = .tuple #[.string T, .string U, .int .i64 0]) := Lib.hid (by unfold textV wtakeText; rw [ht]; simp only; rw [if_neg hltM, if_neg h2, ← hT, ← hU])
        rw [hD] at h1 hDs hD1 hD2
        rw [hT] at hD1
        rw [hU] at hD2
        have HC := Lib.hid h1
        have hn0 : (0 : Int) ≤ (n : Int) := by omega
        have hn1 : (n : Int) ≤ (r.length : Int) := by omega
        clear h1 ht hD hT hU hltM
        go_enter Tryz.func235, Tryz.ntmps235
        go_wp2_with fail
        refine HC.out.mono ?_
        rintro e w1 ⟨rfl, hb⟩
        have HB := Lib.hid hb
        clear hb
        go_wp2_with fail
        go_quiet (fail)
        go_wp2_with fail
        go_returns
        exact ⟨by rw [HV.out]; rfl, HB.out.trans (((Drawn.refl w1).drewN _).below.mono HB.out.size)⟩
end Go.Proofs.YtckblcfkajpofaaGreatDoor
namespace Go.Proofs.YtckblcfkajpofaaGreatDoor
open Go.RowKit
set_option linter.unusedVariables false
set_option linter.unusedSimpArgs false

def manyN (n : Nat) : Int := if n = 97 ∨ n = 116 then 0 else if n = 104 ∨ n = 117 then 1 else if n = 112 ∨ n = 115 ∨ n = 98 ∨ n = 103 then 2 else -1
set_option maxRecDepth 100000 in
set_option maxHeartbeats 1000000 in
theorem rmany_calls (n : Nat) (hn : n < 256) (w : World) : Calls Tryz.prog 253 #[.int .u8 n] w fun e w' => e = .returned (.int .i64 (manyN n)) ∧ w' = w := by
  obtain ⟨G, hG⟩ : ∃ G, manyN n = G := ⟨_, rfl⟩
  rw [hG]
  unfold manyN at hG
  have HG := Lib.hid hG
  clear hG
  go_enter Tryz.func253, Tryz.ntmps253
  go_wp2_with fail
  all_goals go_ret
  all_goals
    refine ⟨?_, rfl⟩
    have hg := HG.out
    clear HG
    (repeat' split at hg) <;> subst hg <;> first | rfl | (exfalso; simp only [beq_iff_eq, Bool.not_eq_true, beq_eq_false_iff_ne] at *; omega)
end Go.Proofs.YtckblcfkajpofaaGreatDoor
namespace Go.Proofs.YtckblcfkajpofaaGreatDoor
open Go.RowKit
set_option linter.unusedVariables false
set_option linter.unusedSimpArgs false

/-- how many bytes the term has that s begins with; 0: it begins with none -/
def sizeL (d : Nat) (s : List UInt8) : Int := match parse d s with
  | some (_, r) => (s.length : Int) - (r.length : Int)
  | none => 0
theorem sizeL_none {d : Nat} {s : List UInt8} (h : parse d s = none) : sizeL d s = 0 := by unfold sizeL; rw [h]
theorem sizeL_some {d : Nat} {s r : List UInt8} {t : Tm} (h : parse d s = some (t, r)) : sizeL d s = (t.enc.length : Int) := by
  unfold sizeL; rw [h]
  have := (parse_some h).1
  rw [this]; simp
theorem size_parts_some {d : Nat} {c : UInt8} {r rest : List UInt8} {ts : List Tm} (hc : isOne c = true ∨ isTwo c = true) (hP : parseN d (manyOf c) r = some (ts, rest)) (hk : c = 98 → ∀ a, ts.head? = some a → a.kind = 117) : sizeL (d + 1) (c :: r) = 1 + ((ts.flatMap Tm.enc).length : Int) := by
  obtain ⟨e1, e2⟩ := parseN_some hP
  have hpp := parse_parts (d := d) (r := r) hc
  rw [hP] at hpp
  have hlen : ((c :: r).length : Int) - (rest.length : Int) = 1 + ((ts.flatMap Tm.enc).length : Int) := by rw [e1]; simp; omega
  have hm : manyOf c = 1 ∨ manyOf c = 2 := by unfold manyOf; split <;> simp
  match ts, e2, hpp, hk, hlen with
  | [a], e2, hpp, hk, hlen => unfold sizeL; rw [hpp]; exact hlen
  | [a, b], e2, hpp, hk, hlen =>
    simp only at hpp
    rw [if_neg (fun e => e.2 (hk e.1 a rfl))] at hpp
    unfold sizeL; rw [hpp]; exact hlen
  | [], e2, hpp, hk, hlen => simp at e2; omega
  | a :: b :: f :: l, e2, hpp, hk, hlen => simp at e2; omega
theorem size_parts_none {d : Nat} {c : UInt8} {r : List UInt8} (hc : isOne c = true ∨ isTwo c = true) (hP : parseN d (manyOf c) r = none) : sizeL (d + 1) (c :: r) = 0 := by
  apply sizeL_none
  rw [parse_parts hc, hP]
theorem size_parts_kind {d : Nat} {r : List UInt8} (h : ∀ x l, r = x :: l → x ≠ 117) : sizeL (d + 1) (98 :: r) = 0 := by
  apply sizeL_none
  rw [parse_parts (Or.inr rfl), show manyOf 98 = 2 from rfl]
  cases hP : parseN d 2 r with
  | none => rfl
  | some p =>
    obtain ⟨ts, q⟩ := p
    obtain ⟨e1, e2⟩ := parseN_some hP
    match ts, e1, e2 with
    | [a, b], e1, e2 =>
      simp only
      apply if_pos
      refine ⟨by first | rfl | trivial, fun hk => ?_⟩
      obtain ⟨l, hl⟩ := a.enc_head
      exact h a.kind (l ++ b.enc ++ q) (by rw [e1]; simp [hl]) hk
theorem kind_head {d : Nat} {s r l : List UInt8} {t : Tm} {x : UInt8} (h : parse d s = some (t, r)) (hs : s = x :: l) : t.kind = x := by
  obtain ⟨m, hm⟩ := t.enc_head
  have := (parse_some h).1
  rw [hs, hm] at this
  cases this; rfl
/-- what size is asked, and answers -/
def SizeOk (d : Nat) : Prop := ∀ (s : ByteArray) (w : World), s.size ≤ 1000000000 → d ≤ 40 → Calls Tryz.prog 238 #[.string s, .int .i64 d] w fun e w' => e = .returned (.int .i64 (sizeL d (toL s))) ∧ Below w.heap.size w w'
set_option maxRecDepth 100000 in
set_option maxHeartbeats 4000000 in
theorem rsize_parts (d : Nat) (IH : Hid (SizeOk d)) (s : ByteArray) (c : UInt8) (r : List UInt8) (w : World) (hl : s.data.toList = c :: r) (hs : s.size ≤ 1000000000) (hd : d + 1 ≤ 40) (hc : isOne c = true ∨ isTwo c = true) :
    Calls Tryz.prog 238 #[.string s, .int .i64 ((d + 1 : Nat) : Int)] w fun e w' => e = .returned (.int .i64 (sizeL (d + 1) (c :: r))) ∧ Below w.heap.size w w' := by
  have hsz : s.size = r.length + 1 := by have := list_size s; rw [hl] at this; exact this.symm
  have h0 : 0 < s.size := by omega
  have hc0 : ((s[0]'h0).toNat) = c.toNat := by rw [first_of hl h0]
  have hne : s.toList.isEmpty = false := by rw [ByteArray.toList_eq, hl]; rfl
  have hn1 := c.toNat_lt
  have f97 : ((c.toNat : Int) == 97) = false := by
    rw [beq_eq_false_iff_ne]; intro e
    have : c = 97 := UInt8.toNat_inj.1 (by show c.toNat = 97; omega)
    rcases hc with h | h
    · exact (one_ne h).1 this
    · exact (two_ne h).1 this
  have f116 : ((c.toNat : Int) == 116) = false := by
    rw [beq_eq_false_iff_ne]; intro e
    have : c = 116 := UInt8.toNat_inj.1 (by show c.toNat = 116; omega)
    rcases hc with h | h
    · exact (one_ne h).2 this
    · exact (two_ne h).2.1 this
  obtain ⟨m, hm⟩ : ∃ m, manyOf c = m := ⟨_, rfl⟩
  have hm12 : 1 ≤ m ∧ m ≤ 2 := by rw [← hm]; unfold manyOf; split <;> simp
  have hmn : manyN c.toNat = (m : Int) := by
    rcases hc with h | h
    · have h' := h
      simp only [isOne, Bool.or_eq_true, beq_iff_eq] at h'
      rcases h' with rfl | rfl <;> (rw [← hm]; rfl)
    · have h' := h
      simp only [isTwo, Bool.or_eq_true, beq_iff_eq] at h'
      rcases h' with ((rfl | rfl) | rfl) | rfl <;> (rw [← hm]; rfl)
  obtain ⟨bb, hbb⟩ : ∃ bb, ((c.toNat : Int) == 98) = bb := ⟨_, rfl⟩
  have hb98 : bb = true ↔ c = 98 := by
    rw [← hbb, beq_iff_eq]
    exact ⟨fun e => UInt8.toNat_inj.1 (by show c.toNat = 98; omega), fun e => by subst e; rfl⟩
  have HM : Hid (∀ w, Calls Tryz.prog 253 #[.int .u8 c.toNat] w fun e w' => e = .returned (.int .i64 m) ∧ w' = w) := Lib.hid (fun w => by
    have := rmany_calls c.toNat (by omega) w
    rw [hmn] at this; exact this)
  have HS := Lib.hid (fun rest ts (hP : parseN d m r = some (ts, rest)) hk => size_parts_some (d := d) (c := c) (r := r) (rest := rest) (ts := ts) hc (by rw [hm]; exact hP) hk)
  have HN := Lib.hid (fun (hP : parseN d m r = none) => size_parts_none (d := d) (c := c) (r := r) hc (by rw [hm]; exact hP))
  have HK := Lib.hid (fun (e : c = 98) (h : ∀ x l, r = x :: l → x ≠ 117) => show sizeL (d + 1) (c :: r) = 0 by rw [e]; exact size_parts_kind h)
  obtain ⟨G, hG⟩ : ∃ G, sizeL (d + 1) (c :: r) = G := ⟨_, rfl⟩
  rw [hG] at HS HN HK ⊢
  obtain ⟨n, hn⟩ : ∃ n, c.toNat = n := ⟨_, rfl⟩
  rw [hn] at hc0 hn1 f97 f116 hbb HM
  rw [show ((d + 1 : Nat) : Int) = (d : Int) + 1 from rfl]
  have hd1 : ((d : Int) + 1 == 0) = false := by simp; omega
  have HB98 := Lib.hid hb98
  have HL := Lib.hid hl
  clear hmn hG hb98 hm hn hl
  go_enter Tryz.func238, Tryz.ntmps238
  go_wp2_with fail
  refine (HM.out _).mono ?_
  rintro e w1 ⟨rfl, rfl⟩
  go_wp2_with fail
  go_loopw [8, 9] (fun at_ i wr => ∃ (k : Nat) (ts : List Tm) (rest : List UInt8), k ≤ m ∧ i = .int .i64 k ∧ at_ = .int .i64 (1 + ((ts.flatMap Tm.enc).length : Int)) ∧ Hid (parseN d k r = some (ts, rest)) ∧ Hid (c = 98 → ∀ a, ts.head? = some a → a.kind = 117) ∧ Hid (Below w1.heap.size w1 wr)) (fun _ i _ => m - (intOf i).toNat)
  case atStart => exact ⟨0, [], r, Nat.zero_le _, rfl, rfl, Lib.hid rfl, Lib.hid (fun _ a h => by cases h), Lib.hid (Below.refl _ _)⟩
  case round =>
    obtain ⟨k, ts, rest, hk, rfl, rfl, HP, HKd, HB⟩ := hrel
    obtain ⟨hps, hpl⟩ := parseN_some HP.out
    by_cases hlt : k < m
    · have hat : s.extract ((c :: ts.flatMap Tm.enc).length) s.size = mkB rest := back_of (by rw [HL.out, hps]; rfl)
      have hle : (ts.flatMap Tm.enc).length ≤ r.length := by rw [hps]; simp
      rw [List.length_cons, hsz] at hat
      obtain ⟨n2, hn2⟩ : ∃ n2, (ts.flatMap Tm.enc).length = n2 := ⟨_, rfl⟩
      have hrl : r.length = n2 + rest.length := by rw [hps]; simp [hn2]
      rw [hn2] at hat hle ⊢
      have h3 := IH.out (mkB rest) wr (by rw [mkB_size]; omega) (by omega)
      rw [show toL (mkB rest) = rest from mkB_list rest] at h3
      obtain ⟨R, hR⟩ : ∃ R, mkB rest = R := ⟨_, rfl⟩
      rw [hR] at h3 hat
      have hs3 : (1 + (n2 : Int)).toNat = n2 + 1 := by omega
      have hs5 : (d : Int) + 1 - 1 = (d : Int) := by omega
      have hkm : ((k : Int) < (m : Int)) := by omega
      have HPS := Lib.hid hps
      have HPL := Lib.hid hpl
      have HN2 := Lib.hid hn2
      have HRL := Lib.hid hrl
      clear hps hn2 hR hpl hrl
      by_cases hA : bb = true ∧ k = 0
      · obtain ⟨hA1, rfl⟩ := hA
        subst hA1
        have hts : ts = [] := List.eq_nil_of_length_eq_zero HPL.out
        subst hts
        obtain rfl : n2 = 0 := HN2.out.symm
        have hrr : r = rest := HPS.out
        subst hrr
        simp only [Nat.zero_add] at hat
        have hc98 := Lib.hid (HB98.out.1 rfl)
        rcases (show r = [] ∨ ∃ x l, r = x :: l by cases r <;> simp) with hrc | ⟨x, l, hrc⟩
        ·
          have HE := Lib.hid (HK.out hc98.out (fun x l e => by rw [hrc] at e; cases e))
          have hr0 : r.length = 0 := by rw [hrc]; rfl
          rw [hr0] at hsz
          clear hr0
          clear h3 hrc
          go_wp2_with fail
          refine (HM.out _).mono ?_
          rintro e w2 ⟨rfl, rfl⟩
          go_wp2_with fail
          go_ret
          exact ⟨by rw [HE.out]; rfl, HB.out⟩
        ·
          have hr0 : r.length = l.length + 1 := by rw [hrc]; rfl
          rw [hr0] at hat hsz
          have HR0 := Lib.hid hr0
          clear hr0
          have hx1 : 1 < s.size := by omega
          have hxx : (s[1]'hx1).toNat = x.toNat := byte_at s 1 hx1 (by show s.data.toList[1]? = some x; rw [HL.out, hrc]; rfl)
          by_cases hx : x = 117
          · subst hx
            have HRC := Lib.hid hrc
            clear hrc
            cases hpd : parse d r with
            | none =>
              rw [sizeL_none hpd] at h3
              have HC := Lib.hid h3
              have HE := Lib.hid (HN.out (parseN_stop HP.out hpd hlt))
              clear h3 hpd
              go_wp2_with fail
              refine (HM.out _).mono ?_
              rintro e w2 ⟨rfl, rfl⟩
              go_wp2_with fail
              refine HC.out.mono ?_
              rintro e w3 ⟨rfl, hb⟩
              have HB2 := Lib.hid (HB.out.trans (hb.mono HB.out.size))
              clear hb
              go_wp2_with fail
              go_ret
              exact ⟨by rw [HE.out]; rfl, HB2.out⟩
            | some p =>
              obtain ⟨a, q⟩ := p
              rw [sizeL_some hpd] at h3
              have HN3 := Lib.hid (parseN_snoc HP.out hpd)
              have HK3 : Hid (c = 98 → ∀ x, ([] ++ [a]).head? = some x → x.kind = 117) := Lib.hid (fun _ x hx => by cases hx; exact kind_head hpd HRC.out)
              have hpos : 0 < a.enc.length := List.length_pos_iff.2 a.enc_ne
              have hal : a.enc.length ≤ l.length + 1 := by rw [← HR0.out]; have h5 := (parse_some hpd).1; rw [h5]; simp
              obtain ⟨la, hla⟩ : ∃ la, a.enc.length = la := ⟨_, rfl⟩
              rw [hla] at h3 hpos hal
              have HLA := Lib.hid hla
              have fz : ((la : Int) == 0) = false := by simp; omega
              have HC := Lib.hid h3
              clear h3 hpd hla
              go_wp2_with fail
              refine (HM.out _).mono ?_
              rintro e w2 ⟨rfl, rfl⟩
              go_wp2_with fail
              refine HC.out.mono ?_
              rintro e w3 ⟨rfl, hb⟩
              have HB2 := Lib.hid (HB.out.trans (hb.mono HB.out.size))
              clear hb
              go_wp2_with fail
              go_roundw
              case rel =>
                refine ⟨0 + 1, [] ++ [a], q, by omega, by go_num, ?_, HN3, HK3, HB2⟩
                simp [HLA.out]
              case measure => simp [intOf]; omega
          · have HE := Lib.hid (HK.out hc98.out (fun y q e => by rw [hrc] at e; cases e; exact hx))
            have hxl := x.toNat_lt
            have fx : ((x.toNat : Int) == 117) = false := by
              rw [beq_eq_false_iff_ne]; intro e
              exact hx (UInt8.toNat_inj.1 (by show x.toNat = 117; omega))
            have fx2 : ((x.toNat : Int) != 117) = true := by simp only [bne, fx]; rfl
            clear h3 hrc hx
            go_wp2_with fail
            refine (HM.out _).mono ?_
            rintro e w2 ⟨rfl, rfl⟩
            go_wp2_with fail
            go_ret
            exact ⟨by rw [HE.out]; rfl, HB.out⟩
      · by_cases hbt : bb = true
        · subst hbt
          have hk0 : k ≠ 0 := fun e => hA ⟨rfl, e⟩
          have fk0 : ((k : Int) == 0) = false := by simp; exact hk0
          clear hA
          cases hpd : parse d rest with
          | none =>
            rw [sizeL_none hpd] at h3
            have HC := Lib.hid h3
            have HE := Lib.hid (HN.out (parseN_stop HP.out hpd hlt))
            clear h3 hpd
            go_wp2_with fail
            refine (HM.out _).mono ?_
            rintro e w2 ⟨rfl, rfl⟩
            go_wp2_with fail
            refine HC.out.mono ?_
            rintro e w3 ⟨rfl, hb⟩
            have HB2 := Lib.hid (HB.out.trans (hb.mono HB.out.size))
            clear hb
            go_wp2_with fail
            go_ret
            exact ⟨by rw [HE.out]; rfl, HB2.out⟩
          | some p =>
            obtain ⟨a, q⟩ := p
            rw [sizeL_some hpd] at h3
            have HN3 := Lib.hid (parseN_snoc HP.out hpd)
            have HK3 : Hid (c = 98 → ∀ x, (ts ++ [a]).head? = some x → x.kind = 117) := Lib.hid (fun e x hx => HKd.out e x (by cases ts with | nil => exact absurd HPL.out.symm hk0 | cons y ys => exact hx))
            have hpos : 0 < a.enc.length := List.length_pos_iff.2 a.enc_ne
            have hal : n2 + a.enc.length ≤ r.length := by have h5 := (parse_some hpd).1; have h6 := HRL.out; rw [h5] at h6; simp at h6; omega
            obtain ⟨la, hla⟩ : ∃ la, a.enc.length = la := ⟨_, rfl⟩
            rw [hla] at h3 hpos hal
            have HLA := Lib.hid hla
            have fz : ((la : Int) == 0) = false := by simp; omega
            have HC := Lib.hid h3
            clear h3 hpd hla
            go_wp2_with fail
            refine (HM.out _).mono ?_
            rintro e w2 ⟨rfl, rfl⟩
            go_wp2_with fail
            refine HC.out.mono ?_
            rintro e w3 ⟨rfl, hb⟩
            have HB2 := Lib.hid (HB.out.trans (hb.mono HB.out.size))
            clear hb
            go_wp2_with fail
            go_roundw
            case rel =>
              refine ⟨k + 1, ts ++ [a], q, by omega, by go_num, ?_, HN3, HK3, HB2⟩
              rw [List.flatMap_append, List.length_append, HN2.out]
              simp [HLA.out]
              omega
            case measure => simp [intOf]; omega
        · have hbf : bb = false := by simpa using hbt
          subst hbf
          clear hA hbt
          cases hpd : parse d rest with
          | none =>
            rw [sizeL_none hpd] at h3
            have HC := Lib.hid h3
            have HE := Lib.hid (HN.out (parseN_stop HP.out hpd hlt))
            clear h3 hpd
            go_wp2_with fail
            refine (HM.out _).mono ?_
            rintro e w2 ⟨rfl, rfl⟩
            go_wp2_with fail
            refine HC.out.mono ?_
            rintro e w3 ⟨rfl, hb⟩
            have HB2 := Lib.hid (HB.out.trans (hb.mono HB.out.size))
            clear hb
            go_wp2_with fail
            go_ret
            exact ⟨by rw [HE.out]; rfl, HB2.out⟩
          | some p =>
            obtain ⟨a, q⟩ := p
            rw [sizeL_some hpd] at h3
            have HN3 := Lib.hid (parseN_snoc HP.out hpd)
            have HK3 : Hid (c = 98 → ∀ x, (ts ++ [a]).head? = some x → x.kind = 117) := Lib.hid (fun e => absurd (HB98.out.2 e) (by simp))
            have hpos : 0 < a.enc.length := List.length_pos_iff.2 a.enc_ne
            have hal : n2 + a.enc.length ≤ r.length := by have h5 := (parse_some hpd).1; have h6 := HRL.out; rw [h5] at h6; simp at h6; omega
            obtain ⟨la, hla⟩ : ∃ la, a.enc.length = la := ⟨_, rfl⟩
            rw [hla] at h3 hpos hal
            have HLA := Lib.hid hla
            have fz : ((la : Int) == 0) = false := by simp; omega
            have HC := Lib.hid h3
            clear h3 hpd hla
            go_wp2_with fail
            refine (HM.out _).mono ?_
            rintro e w2 ⟨rfl, rfl⟩
            go_wp2_with fail
            refine HC.out.mono ?_
            rintro e w3 ⟨rfl, hb⟩
            have HB2 := Lib.hid (HB.out.trans (hb.mono HB.out.size))
            clear hb
            go_wp2_with fail
            go_roundw
            case rel =>
              refine ⟨k + 1, ts ++ [a], q, by omega, by go_num, ?_, HN3, HK3, HB2⟩
              rw [List.flatMap_append, List.length_append, HN2.out]
              simp [HLA.out]
              omega
            case measure => simp [intOf]; omega
    · obtain rfl : k = m := by omega
      have hE := HS.out rest ts HP.out HKd.out
      obtain ⟨n2, hn2⟩ : ∃ n2, (ts.flatMap Tm.enc).length = n2 := ⟨_, rfl⟩
      rw [hn2] at hE ⊢
      have HE := Lib.hid hE
      clear hE hn2
      have hkm : ¬ ((k : Int) < (k : Int)) := by omega
      clear hps hpl hlt
      go_wp2_with fail
      refine (HM.out _).mono ?_
      rintro e w2 ⟨rfl, rfl⟩
      go_wp2_with fail
      go_ret
      exact ⟨by rw [HE.out]; rfl, HB.out⟩
set_option maxRecDepth 100000 in
set_option maxHeartbeats 2000000 in
theorem rsize_other (d : Nat) (s : ByteArray) (c : UInt8) (r : List UInt8) (w : World) (hl : s.data.toList = c :: r) (hs : s.size ≤ 1000000000) (hd : d + 1 ≤ 40) (h1 : c ≠ 97) (h2 : c ≠ 116) (h3 : isOne c = false) (h4 : isTwo c = false) :
    Calls Tryz.prog 238 #[.string s, .int .i64 ((d + 1 : Nat) : Int)] w fun e w' => e = .returned (.int .i64 (sizeL (d + 1) (c :: r))) ∧ Below w.heap.size w w' := by
  have hsz : s.size = r.length + 1 := by have := list_size s; rw [hl] at this; exact this.symm
  have h0 : 0 < s.size := by omega
  have hne : s.toList.isEmpty = false := by rw [ByteArray.toList_eq, hl]; rfl
  have hc0 : (s[0]'h0).toNat = c.toNat := by rw [first_of hl h0]
  have hz : sizeL (d + 1) (c :: r) = 0 := by
    apply sizeL_none
    unfold parse
    rw [if_neg h1, if_neg h2, h3, h4]; simp
  have key : ∀ (n : Nat) (u : UInt8), u.toNat = n → c ≠ u → c.toNat ≠ n := fun n u hu hne e => hne (UInt8.toNat_inj.1 (by omega))
  simp only [isOne, isTwo, Bool.or_eq_false_iff, beq_eq_false_iff_ne] at h3 h4
  have hmn : manyN c.toNat = -1 := by
    unfold manyN
    rw [if_neg (by have := key 97 97 rfl h1; have := key 116 116 rfl h2; omega), if_neg (by have := key 104 104 rfl h3.1; have := key 117 117 rfl h3.2; omega), if_neg (by have := key 112 112 rfl h4.1.1.1; have := key 115 115 rfl h4.1.1.2; have := key 98 98 rfl h4.1.2; have := key 103 103 rfl h4.2; omega)]
  have hm := rmany_calls c.toNat c.toNat_lt w
  rw [hmn] at hm
  have HM := Lib.hid hm
  rw [show ((d + 1 : Nat) : Int) = (d : Int) + 1 from rfl, hz]
  have hd1 : ((d : Int) + 1 == 0) = false := by simp; omega
  have hn2 := c.toNat_lt
  obtain ⟨n, hn⟩ : ∃ n, c.toNat = n := ⟨_, rfl⟩
  simp only [hn] at hc0 HM hn2
  clear h1 h2 h3 h4 key hl hn hz hmn hm
  go_enter Tryz.func238, Tryz.ntmps238
  go_wp2_with fail
  refine HM.out.mono ?_
  rintro e w1 ⟨rfl, rfl⟩
  go_wp2_with fail
  go_ret
  exact ⟨rfl, Below.refl _ _⟩
theorem sizeL_atom {d : Nat} {r q : List UInt8} {n : Nat} (h : wtake r = some (n, q)) : sizeL (d + 1) (97 :: r) = (1 + r.length : Int) - q.length := by
  unfold sizeL parse; rw [if_pos rfl, h]; simp; omega
theorem sizeL_atom0 {d : Nat} {r : List UInt8} (h : wtake r = none) : sizeL (d + 1) (97 :: r) = 0 := by
  unfold sizeL parse; rw [if_pos rfl, h]
theorem sizeL_text {d : Nat} {r q t : List UInt8} (h : wtakeText r 4000 = .ok (t, q)) : sizeL (d + 1) (116 :: r) = (1 + r.length : Int) - q.length := by
  unfold sizeL parse; rw [if_neg (by decide), if_pos rfl, h]; simp; omega
theorem sizeL_text0 {d : Nat} {r : List UInt8} {e : Int} (h : wtakeText r 4000 = .error e) : sizeL (d + 1) (116 :: r) = 0 := by
  unfold sizeL parse; rw [if_neg (by decide), if_pos rfl, h]
set_option maxRecDepth 100000 in
set_option maxHeartbeats 2000000 in
theorem rsize_atom (d : Nat) (s : ByteArray) (r : List UInt8) (w : World) (hl : s.data.toList = 97 :: r) (hs : s.size ≤ 1000000000) (hd : d + 1 ≤ 40) :
    Calls Tryz.prog 238 #[.string s, .int .i64 ((d + 1 : Nat) : Int)] w fun e w' => e = .returned (.int .i64 (sizeL (d + 1) (97 :: r))) ∧ Below w.heap.size w w' := by
  have hsz : s.size = r.length + 1 := by have := list_size s; rw [hl] at this; exact this.symm
  have h0 : 0 < s.size := by omega
  have hc0 := first_of hl h0
  have hne : s.toList.isEmpty = false := by rw [ByteArray.toList_eq, hl]; rfl
  have hat := tail_of hl
  rw [hsz] at hat
  have h1 := fun w => d2take_calls (mkB r) w (by rw [mkB_size]; omega)
  rw [show toL (mkB r) = r from mkB_list r] at h1
  have HM : Hid (∀ w, Calls Tryz.prog 253 #[.int .u8 97] w fun e w' => e = .returned (.int .i64 0) ∧ w' = w) := Lib.hid (fun w => rmany_calls 97 (by omega) w)
  rw [show ((d + 1 : Nat) : Int) = (d : Int) + 1 from rfl]
  have hd1 : ((d : Int) + 1 == 0) = false := by simp; omega
  obtain ⟨R, hR⟩ : ∃ R, mkB r = R := ⟨_, rfl⟩
  rw [hR] at h1 hat
  unfold takeV at h1
  cases ht : wtake r with
  | none =>
    rw [sizeL_atom0 ht]
    simp only [ht] at h1
    have HC := Lib.hid h1
    clear h1 ht hl hR
    go_enter Tryz.func238, Tryz.ntmps238
    go_wp2_with fail
    refine (HM.out _).mono ?_
    rintro e w1 ⟨rfl, rfl⟩
    go_wp2_with fail
    refine (HC.out _).mono ?_
    rintro e w2 ⟨rfl, hb⟩
    have HB := Lib.hid hb
    clear hb
    go_wp2_with fail
    go_ret
    exact ⟨rfl, HB.out⟩
  | some p =>
    obtain ⟨n, q⟩ := p
    rw [sizeL_atom ht]
    simp only [ht] at h1
    have hql := wtake_len ht
    have hqs := mkB_size q
    obtain ⟨Q, hQ⟩ : ∃ Q, mkB q = Q := ⟨_, rfl⟩
    rw [hQ] at h1 hqs
    have HC := Lib.hid h1
    clear h1 ht hl hR hQ
    go_enter Tryz.func238, Tryz.ntmps238
    go_wp2_with fail
    refine (HM.out _).mono ?_
    rintro e w1 ⟨rfl, rfl⟩
    go_wp2_with fail
    refine (HC.out _).mono ?_
    rintro e w2 ⟨rfl, hb⟩
    have HB := Lib.hid hb
    clear hb
    go_wp2_with fail
    go_ret
    exact ⟨congrArg (fun x => Ending.returned (Value.int .i64 x)) (show ((r.length : Int) + 1 - (q.length : Int)) = (1 + r.length : Int) - q.length by omega), HB.out⟩
set_option maxRecDepth 100000 in
set_option maxHeartbeats 2000000 in
theorem rsize_text (d : Nat) (s : ByteArray) (r : List UInt8) (w : World) (hl : s.data.toList = 116 :: r) (hs : s.size ≤ 1000000000) (hd : d + 1 ≤ 40) :
    Calls Tryz.prog 238 #[.string s, .int .i64 ((d + 1 : Nat) : Int)] w fun e w' => e = .returned (.int .i64 (sizeL (d + 1) (116 :: r))) ∧ Below w.heap.size w w' := by
  have hsz : s.size = r.length + 1 := by have := list_size s; rw [hl] at this; exact this.symm
  have h0 : 0 < s.size := by omega
  have hc0 := first_of hl h0
  have hne : s.toList.isEmpty = false := by rw [ByteArray.toList_eq, hl]; rfl
  have hat := tail_of hl
  rw [hsz] at hat
  have h1 := fun w => d2take_calls (mkB r) w (by rw [mkB_size]; omega)
  have h2 := fun w => d2taketext_calls (mkB r) 4000 w (by rw [mkB_size]; omega) (by omega) (by omega)
  rw [show toL (mkB r) = r from mkB_list r] at h1 h2
  have HM : Hid (∀ w, Calls Tryz.prog 253 #[.int .u8 116] w fun e w' => e = .returned (.int .i64 0) ∧ w' = w) := Lib.hid (fun w => rmany_calls 116 (by omega) w)
  rw [show ((d + 1 : Nat) : Int) = (d : Int) + 1 from rfl]
  have hd1 : ((d : Int) + 1 == 0) = false := by simp; omega
  obtain ⟨R, hR⟩ : ∃ R, mkB r = R := ⟨_, rfl⟩
  rw [hR] at h1 h2 hat
  obtain ⟨x1, x2, x3, hx⟩ : ∃ x1 x2 x3, takeV r = .tuple #[x1, x2, x3] := by
    unfold takeV; cases wtake r with
    | none => exact ⟨_, _, _, rfl⟩
    | some p => obtain ⟨n, q⟩ := p; exact ⟨_, _, _, rfl⟩
  simp only [hx] at h1
  have HT := Lib.hid h1
  unfold textV at h2
  cases ht : wtakeText r 4000 with
  | error er =>
    rw [sizeL_text0 ht]
    simp only [ht] at h2
    have her : (er == 0) = false := by
      rw [beq_eq_false_iff_ne]; rintro rfl
      unfold wtakeText at ht
      repeat' split at ht
      all_goals cases ht
    have her2 : (er != 0) = true := by simp only [bne, her]; rfl
    have HC := Lib.hid h2
    clear h1 h2 ht hl hR hx
    go_enter Tryz.func238, Tryz.ntmps238
    go_wp2_with fail
    refine (HM.out _).mono ?_
    rintro e w1 ⟨rfl, rfl⟩
    go_wp2_with fail
    refine (HT.out _).mono ?_
    rintro e w2 ⟨rfl, hb⟩
    have HB := Lib.hid hb
    clear hb
    go_wp2_with fail
    refine (HC.out _).mono ?_
    rintro e w3 ⟨rfl, hb⟩
    have HB2 := Lib.hid (HB.out.trans (hb.mono HB.out.size))
    clear hb
    go_wp2_with fail
    go_ret
    exact ⟨rfl, HB2.out⟩
  | ok p =>
    obtain ⟨t, q⟩ := p
    rw [sizeL_text ht]
    simp only [ht] at h2
    have hql : q.length ≤ r.length := by
      have := (wtakeText_ok ht).1
      rw [this]; simp
    have hqs := mkB_size q
    obtain ⟨Q, hQ⟩ : ∃ Q, mkB q = Q := ⟨_, rfl⟩
    rw [hQ] at h2 hqs
    have HC := Lib.hid h2
    clear h1 h2 ht hl hR hQ hx
    go_enter Tryz.func238, Tryz.ntmps238
    go_wp2_with fail
    refine (HM.out _).mono ?_
    rintro e w1 ⟨rfl, rfl⟩
    go_wp2_with fail
    refine (HT.out _).mono ?_
    rintro e w2 ⟨rfl, hb⟩
    have HB := Lib.hid hb
    clear hb
    go_wp2_with fail
    refine (HC.out _).mono ?_
    rintro e w3 ⟨rfl, hb⟩
    have HB2 := Lib.hid (HB.out.trans (hb.mono HB.out.size))
    clear hb
    go_wp2_with fail
    go_ret
    exact ⟨congrArg (fun x => Ending.returned (Value.int .i64 x)) (show ((r.length : Int) + 1 - (q.length : Int)) = (1 + r.length : Int) - q.length by omega), HB2.out⟩
set_option maxRecDepth 100000 in
set_option maxHeartbeats 2000000 in
theorem rsize_calls : ∀ d : Nat, SizeOk d := by
  intro d
  induction d with
  | zero =>
    intro s w hs hd
    have HO : Hid (sizeL 0 (toL s) = 0) := Lib.hid rfl
    rw [HO.out]
    by_cases he : s.data.toList = []
    · have h1 : s.toList = [] := by rw [ByteArray.toList_eq]; exact he
      clear he
      go_enter Tryz.func238, Tryz.ntmps238
      go_wp2_with fail
      go_ret
      exact ⟨rfl, Below.refl _ _⟩
    · have h1 : s.toList.isEmpty = false := by
        rw [ByteArray.toList_eq]
        cases hl : s.data.toList with
        | nil => exact absurd hl he
        | cons x l => rfl
      clear he
      go_enter Tryz.func238, Tryz.ntmps238
      go_wp2_with fail
      go_ret
      exact ⟨rfl, Below.refl _ _⟩
  | succ d ih =>
    intro s w hs hd
    have IH := Lib.hid ih
    clear ih
    cases hl' : toL s with
    | nil =>
      have hl : s.data.toList = [] := hl'
      have h1 : s.toList = [] := by rw [ByteArray.toList_eq]; exact hl
      rw [show sizeL (d + 1) [] = 0 from rfl]
      clear hl hl'
      go_enter Tryz.func238, Tryz.ntmps238
      go_wp2_with fail
      go_ret
      exact ⟨rfl, Below.refl _ _⟩
    | cons c r =>
      have hl : s.data.toList = c :: r := hl'
      by_cases ha : c = 97
      · subst ha; exact rsize_atom d s r w hl hs hd
      by_cases hb : c = 116
      · subst hb; exact rsize_text d s r w hl hs hd
      by_cases h1 : isOne c = true
      · exact rsize_parts d IH s c r w hl hs hd (Or.inl h1)
      by_cases h2 : isTwo c = true
      · exact rsize_parts d IH s c r w hl hs hd (Or.inr h2)
      exact rsize_other d s c r w hl hs hd ha hb (by simpa using h1) (by simpa using h2)
end Go.Proofs.YtckblcfkajpofaaGreatDoor
namespace Go.Proofs.YtckblcfkajpofaaGreatDoor
open Go.RowKit
set_option linter.unusedVariables false
set_option linter.unusedSimpArgs false

theorem rightT_size {s : List UInt8} (hne : s ≠ []) (hl : s.length ≤ 4000) : rightT s = decide (sizeL 40 s = (s.length : Int)) := by
  have h0 : 0 < s.length := List.length_pos_iff.2 hne
  unfold rightT whole sizeL
  rw [if_neg (by omega)]
  cases hp : parse 40 s with
  | none => simp; omega
  | some p =>
    obtain ⟨t, r⟩ := p
    simp only
    by_cases hr : r = []
    · subst hr; simp
    · have : 0 < r.length := List.length_pos_iff.2 hr
      have h2 := parse_lt hp
      rw [if_neg hr]
      simp; omega
theorem rightT_nil : rightT [] = false := rfl
theorem rightT_big {s : List UInt8} (h : 4000 < s.length) : rightT s = false := by
  cases hr : rightT s with
  | false => rfl
  | true => have := right_len hr; omega
set_option maxRecDepth 100000 in
set_option maxHeartbeats 1000000 in
theorem tright_calls (s : ByteArray) (w : World) (hs : s.size ≤ 9223372036854775807) :
    Calls Tryz.prog 146 #[.string s] w fun e w' => e = .returned (.bool (rightT (toL s))) ∧ Below w.heap.size w w' := by
  have hls : (toL s).length = s.size := list_size s
  by_cases he : toL s = []
  · have HV : Hid (rightT (toL s) = false) := Lib.hid (by rw [he]; rfl)
    have h1 : s.toList.isEmpty = true := by rw [ByteArray.toList_eq]; rw [show s.data.toList = [] from he]; rfl
    have h0 : s.size = 0 := by rw [← hls, he]; rfl
    clear he
    go_enter Tryz.func146, Tryz.ntmps146
    go_wp2_with fail
    go_ret
    exact ⟨by rw [HV.out]; rfl, Below.refl _ _⟩
  · have h1 : s.toList.isEmpty = false := by
      rw [ByteArray.toList_eq]
      cases hl : s.data.toList with
      | nil => exact absurd hl he
      | cons x l => rfl
    by_cases hb : 4000 < s.size
    · have HV : Hid (rightT (toL s) = false) := Lib.hid (rightT_big (by omega))
      clear he
      go_enter Tryz.func146, Tryz.ntmps146
      go_wp2_with fail
      go_ret
      exact ⟨by rw [HV.out]; rfl, Below.refl _ _⟩
    · have HV : Hid (rightT (toL s) = decide (sizeL 40 (toL s) = (s.size : Int))) := Lib.hid (by rw [rightT_size he (by omega), hls])
      have HC := Lib.hid (rsize_calls 40 s w (by omega) (by omega))
      obtain ⟨z, hz⟩ : ∃ z, sizeL 40 (toL s) = z := ⟨_, rfl⟩
      rw [hz] at HC HV
      clear he hz
      go_enter Tryz.func146, Tryz.ntmps146
      go_wp2_with fail
      refine HC.out.mono ?_
      rintro e w1 ⟨rfl, hb⟩
      have HB := Lib.hid hb
      clear hb
      go_wp2_with fail
      go_ret
      exact ⟨by rw [HV.out]; rfl, HB.out⟩
theorem rmade_calls (s : ByteArray) (w : World) (hs : s.size ≤ 9223372036854775807) :
    Calls Tryz.prog 172 #[.string s] w fun e w' => e = .returned (exV (made (toL s))) ∧ Below w.heap.size w w' := by
  have HC := Lib.hid (tright_calls s w hs)
  cases hr : rightT (toL s) with
  | false =>
    have HV : Hid (exV (made (toL s)) = .tuple #[.string ⟨#[]⟩, .int .i64 10]) := Lib.hid (by unfold made; rw [hr]; rfl)
    rw [hr] at HC
    clear hr
    go_enter Tryz.func172, Tryz.ntmps172
    go_wp2_with fail
    refine HC.out.mono ?_
    rintro e w1 ⟨rfl, hb⟩
    have HB := Lib.hid hb
    clear hb
    go_wp2_with fail
    go_ret2
    exact ⟨by rw [HV.out]; rfl, HB.out⟩
  | true =>
    have HV : Hid (exV (made (toL s)) = .tuple #[.string s, .int .i64 0]) := Lib.hid (by unfold made; rw [hr]; show Value.tuple #[.string (mkB (toL s)), _] = _; rw [show mkB (toL s) = s from list_mkB s])
    rw [hr] at HC
    clear hr
    go_enter Tryz.func172, Tryz.ntmps172
    go_wp2_with fail
    refine HC.out.mono ?_
    rintro e w1 ⟨rfl, hb⟩
    have HB := Lib.hid hb
    clear hb
    go_wp2_with fail
    go_ret2
    exact ⟨by rw [HV.out]; rfl, HB.out⟩
theorem toL_cat (a b : ByteArray) : toL (a ++ b) = toL a ++ toL b := by
  have : a ++ b = mkB (toL a ++ toL b) := by
    conv => lhs; rw [← list_mkB a, ← list_mkB b]
    rw [mkB_append]
  rw [this]; exact mkB_list _
theorem tone_calls (k : UInt8) (a : ByteArray) (w : World) (ha : a.size ≤ 9223372036854775807) :
    Calls Tryz.prog 170 #[.string ⟨#[k]⟩, .string a] w fun e w' => e = .returned (exV (ofOne k (toL a))) ∧ Below w.heap.size w w' := by
  have HC := Lib.hid (tright_calls a w ha)
  cases hr : rightT (toL a) with
  | false =>
    have HV : Hid (exV (ofOne k (toL a)) = .tuple #[.string ⟨#[]⟩, .int .i64 1]) := Lib.hid (by unfold ofOne; rw [hr]; rfl)
    rw [hr] at HC
    clear hr
    go_enter Tryz.func170, Tryz.ntmps170
    go_wp2_with fail
    refine HC.out.mono ?_
    rintro e w1 ⟨rfl, hb⟩
    have HB := Lib.hid hb
    clear hb
    go_wp2_with fail
    go_ret2
    exact ⟨by rw [HV.out]; rfl, HB.out⟩
  | true =>
    have hl : a.size ≤ 4000 := by have := right_len hr; have h2 : (toL a).length = a.size := list_size a; omega
    obtain ⟨K, hK⟩ : ∃ K : ByteArray, (⟨#[k]⟩ : ByteArray) = K := ⟨_, rfl⟩
    have hKs : K.size = 1 := by rw [← hK]; rfl
    have HM : Hid (∀ w : World, Calls Tryz.prog 172 #[.string (K ++ a)] w fun e w' => e = .returned (exV (ofOne k (toL a))) ∧ Below w.heap.size w w') := Lib.hid (fun w => by
      have h := rmade_calls (K ++ a) w (by rw [ByteArray.size_append]; omega)
      rw [toL_cat, ← hK] at h
      unfold ofOne
      rw [hr, if_pos rfl, ← hK]
      exact h)
    obtain ⟨s, n, hsn⟩ := exV_form (ofOne k (toL a))
    rw [hsn] at HM ⊢
    rw [hr] at HC
    rw [hK]
    clear hr hK hsn
    go_enter Tryz.func170, Tryz.ntmps170
    go_wp2_with fail
    refine HC.out.mono ?_
    rintro e w1 ⟨rfl, hb⟩
    have HB := Lib.hid hb
    clear hb
    go_wp2_with fail
    refine (HM.out _).mono ?_
    rintro e w2 ⟨rfl, hb⟩
    have HB2 := Lib.hid (HB.out.trans (hb.mono HB.out.size))
    clear hb
    go_wp2_with fail
    go_ret2
    exact ⟨rfl, HB2.out⟩
theorem ttwo_calls (k : UInt8) (a b : ByteArray) (w : World) (ha : a.size ≤ 9223372036854775807) (hb : b.size ≤ 9223372036854775807) :
    Calls Tryz.prog 171 #[.string ⟨#[k]⟩, .string a, .string b] w fun e w' => e = .returned (exV (ofTwo k (toL a) (toL b))) ∧ Below w.heap.size w w' := by
  have HC := Lib.hid (fun w => tright_calls a w ha)
  have HD := Lib.hid (fun w => tright_calls b w hb)
  cases hr : rightT (toL a) with
  | false =>
    have HV : Hid (exV (ofTwo k (toL a) (toL b)) = .tuple #[.string ⟨#[]⟩, .int .i64 1]) := Lib.hid (by unfold ofTwo; rw [hr]; rfl)
    rw [hr] at HC
    clear hr
    go_enter Tryz.func171, Tryz.ntmps171
    go_wp2_with fail
    refine (HC.out _).mono ?_
    rintro e w1 ⟨rfl, hb⟩
    have HB := Lib.hid hb
    clear hb
    go_wp2_with fail
    go_ret2
    exact ⟨by rw [HV.out]; rfl, HB.out⟩
  | true =>
    rw [hr] at HC
    cases hq : rightT (toL b) with
    | false =>
      have HV : Hid (exV (ofTwo k (toL a) (toL b)) = .tuple #[.string ⟨#[]⟩, .int .i64 1]) := Lib.hid (by unfold ofTwo; rw [hr, hq]; rfl)
      rw [hq] at HD
      clear hr hq
      go_enter Tryz.func171, Tryz.ntmps171
      go_wp2_with fail
      refine (HC.out _).mono ?_
      rintro e w1 ⟨rfl, hb⟩
      have HB := Lib.hid hb
      clear hb
      go_wp2_with fail
      refine (HD.out _).mono ?_
      rintro e w2 ⟨rfl, hb⟩
      have HB2 := Lib.hid (HB.out.trans (hb.mono HB.out.size))
      clear hb
      go_wp2_with fail
      go_ret2
      exact ⟨by rw [HV.out]; rfl, HB2.out⟩
    | true =>
      have hl : a.size ≤ 4000 := by have := right_len hr; have h2 : (toL a).length = a.size := list_size a; omega
      have hl2 : b.size ≤ 4000 := by have := right_len hq; have h2 : (toL b).length = b.size := list_size b; omega
      obtain ⟨K, hK⟩ : ∃ K : ByteArray, (⟨#[k]⟩ : ByteArray) = K := ⟨_, rfl⟩
      have hKs : K.size = 1 := by rw [← hK]; rfl
      have hsz : (K ++ a).size = 1 + a.size := by rw [ByteArray.size_append, hKs]
      have HM : Hid (∀ w : World, Calls Tryz.prog 172 #[.string (K ++ a ++ b)] w fun e w' => e = .returned (exV (ofTwo k (toL a) (toL b))) ∧ Below w.heap.size w w') := Lib.hid (fun w => by
        have h := rmade_calls (K ++ a ++ b) w (by rw [ByteArray.size_append, ByteArray.size_append]; omega)
        rw [toL_cat, toL_cat, ← hK] at h
        unfold ofTwo
        rw [hr, hq, if_pos (show (true && true) = true from rfl), ← hK]
        exact h)
      obtain ⟨s, n, hsn⟩ := exV_form (ofTwo k (toL a) (toL b))
      rw [hsn] at HM ⊢
      rw [hq] at HD
      rw [hK]
      obtain ⟨Ka, hKa⟩ : ∃ Ka, K ++ a = Ka := ⟨_, rfl⟩
      rw [hKa] at hsz HM
      clear hr hq hK hsn
      go_enter Tryz.func171, Tryz.ntmps171
      go_wp2_with fail
      refine (HC.out _).mono ?_
      rintro e w1 ⟨rfl, hb⟩
      have HB := Lib.hid hb
      clear hb
      go_wp2_with fail
      refine (HD.out _).mono ?_
      rintro e w2 ⟨rfl, hb⟩
      have HB2 := Lib.hid (HB.out.trans (hb.mono HB.out.size))
      clear hb
      go_wp2_with fail
      refine (HM.out _).mono ?_
      rintro e w3 ⟨rfl, hb⟩
      have HB3 := Lib.hid (HB2.out.trans (hb.mono HB2.out.size))
      clear hb
      go_wp2_with fail
      go_ret2
      exact ⟨rfl, HB3.out⟩
theorem tpair_calls (a b : ByteArray) (w : World) (ha : a.size ≤ 9223372036854775807) (hb : b.size ≤ 9223372036854775807) :
    Calls Tryz.prog 223 #[.string a, .string b] w fun e w' => e = .returned (exV (ofTwo 112 (toL a) (toL b))) ∧ Below w.heap.size w w' := by
  have h := ttwo_calls 112 a b w ha hb
  obtain ⟨s, n, hsn⟩ := exV_form (ofTwo 112 (toL a) (toL b))
  rw [hsn] at h ⊢
  have H := Lib.hid h
  clear h hsn
  go_enter Tryz.func223, Tryz.ntmps223
  go_wp2_with fail
  refine H.out.mono ?_
  rintro e w1 ⟨rfl, hb⟩
  have HB := Lib.hid hb
  clear hb
  go_wp2_with fail
  go_ret2
  exact ⟨rfl, HB.out⟩
theorem thash_calls (a : ByteArray) (w : World) (ha : a.size ≤ 9223372036854775807) :
    Calls Tryz.prog 224 #[.string a] w fun e w' => e = .returned (exV (ofOne 104 (toL a))) ∧ Below w.heap.size w w' := by
  have h := tone_calls 104 a w ha
  obtain ⟨s, n, hsn⟩ := exV_form (ofOne 104 (toL a))
  rw [hsn] at h ⊢
  have H := Lib.hid h
  clear h hsn
  go_enter Tryz.func224, Tryz.ntmps224
  go_wp2_with fail
  refine H.out.mono ?_
  rintro e w1 ⟨rfl, hb⟩
  have HB := Lib.hid hb
  clear hb
  go_wp2_with fail
  go_ret2
  exact ⟨rfl, HB.out⟩
theorem tpublic_calls (a : ByteArray) (w : World) (ha : a.size ≤ 9223372036854775807) :
    Calls Tryz.prog 63 #[.string a] w fun e w' => e = .returned (exV (ofOne 117 (toL a))) ∧ Below w.heap.size w w' := by
  have h := tone_calls 117 a w ha
  obtain ⟨s, n, hsn⟩ := exV_form (ofOne 117 (toL a))
  rw [hsn] at h ⊢
  have H := Lib.hid h
  clear h hsn
  go_enter Tryz.func63, Tryz.ntmps63
  go_wp2_with fail
  refine H.out.mono ?_
  rintro e w1 ⟨rfl, hb⟩
  have HB := Lib.hid hb
  clear hb
  go_wp2_with fail
  go_ret2
  exact ⟨rfl, HB.out⟩
theorem tatom_calls (n : Nat) (w : World) (hn : n < 18446744073709551616) : Calls Tryz.prog 65 #[.int .u64 n] w fun e w' => e = .returned (.string (mkB (ofAtom n))) ∧ Below w.heap.size w w' := by
  have hsz : (mkB (wput n)).size ≤ 9 := by rw [mkB_size]; exact wput_len_le hn
  have hap : (⟨#[97]⟩ : ByteArray) ++ mkB (wput n) = mkB (ofAtom n) := by rw [show (⟨#[97]⟩ : ByteArray) = mkB [97] from rfl, mkB_append]; rfl
  have h1 := d2put_calls n w hn
  obtain ⟨T, hT⟩ : ∃ T, mkB (wput n) = T := ⟨_, rfl⟩
  obtain ⟨U, hU⟩ : ∃ U, mkB (ofAtom n) = U := ⟨_, rfl⟩
  rw [hT] at h1 hsz hap
  rw [hU] at hap ⊢
  have H := Lib.hid h1
  clear h1 hT hU
  go_enter Tryz.func65, Tryz.ntmps65
  go_wp2_with fail
  refine H.out.mono ?_
  rintro e w1 ⟨rfl, hb⟩
  have HB := Lib.hid hb
  clear hb
  go_wp2_with fail
  go_ret
  exact ⟨rfl, HB.out⟩
theorem made_text (s : List UInt8) : made (116 :: wtext s) = ofText s := by
  unfold made ofText
  by_cases h : 4000 < (116 :: wtext s).length
  · rw [if_pos h, rightT_big h]; rfl
  · rw [if_neg h, right_text (by omega)]; rfl
set_option maxRecDepth 100000 in
set_option maxHeartbeats 800000 in
theorem ttext_calls (s : ByteArray) (w : World) (hs : s.size ≤ 140737488355000) : Calls Tryz.prog 66 #[.string s] w fun e w' => e = .returned (exV (ofText (toL s))) ∧ Below w.heap.size w w' := by
  have H := Lib.hid (d2puttext_calls s w hs)
  obtain ⟨T, hT⟩ : ∃ T, mkB (wtext (toL s)) = T := ⟨_, rfl⟩
  have hap : (⟨#[116]⟩ : ByteArray) ++ T = mkB (116 :: wtext (toL s)) := by rw [← hT, show (⟨#[116]⟩ : ByteArray) = mkB [116] from rfl, mkB_append]; rfl
  have hls : (toL s).length = s.size := list_size s
  have hwl : (wtext (toL s)).length ≤ 9000000000000000000 := by
    have h1 := wput_len_le (n := (toL s).length) (by omega)
    unfold wtext; rw [List.length_append]; omega
  have hTs : T.size ≤ 9000000000000000000 := by rw [← hT, mkB_size]; exact hwl
  obtain ⟨U, hU⟩ : ∃ U, mkB (116 :: wtext (toL s)) = U := ⟨_, rfl⟩
  have HM : Hid (∀ w : World, Calls Tryz.prog 172 #[.string U] w fun e w' => e = .returned (exV (ofText (toL s))) ∧ Below w.heap.size w w') := Lib.hid (fun w => by
    have h := rmade_calls U w (by rw [← hU, mkB_size, List.length_cons]; omega)
    rw [← hU, show toL (mkB (116 :: wtext (toL s))) = _ from mkB_list _, made_text] at h
    rw [← hU]; exact h)
  rw [hT] at H
  rw [hU] at hap
  obtain ⟨x, n, hsn⟩ := exV_form (ofText (toL s))
  rw [hsn] at HM ⊢
  clear hT hU hsn hwl
  go_enter Tryz.func66, Tryz.ntmps66
  go_wp2_with fail
  refine H.out.mono ?_
  rintro e w1 ⟨rfl, hb⟩
  have HB := Lib.hid hb
  clear hb
  go_wp2_with fail
  refine (HM.out _).mono ?_
  rintro e w2 ⟨rfl, hb⟩
  have HB2 := Lib.hid (HB.out.trans (hb.mono HB.out.size))
  clear hb
  go_wp2_with fail
  go_ret2
  exact ⟨rfl, HB2.out⟩
/-! document 5: Secret -/
set_option maxRecDepth 100000 in
set_option maxHeartbeats 1000000 in
theorem rsecret_calls (use who : ByteArray) (n : Nat) (w : World) (hu : use.size ≤ 1000) (hw : who.size ≤ 1000000) (hn : n < 18446744073709551616) :
    Calls Tryz.prog 123 #[.string use, .string who, .int .u64 n] w fun e w' => e = .returned (exV (secretT (toL use) (toL who) n)) ∧ Below w.heap.size w w' := by
  have hap := str_add3 use who
  obtain ⟨X, hX⟩ : ∃ X, mkB (toL use ++ 58 :: toL who) = X := ⟨_, rfl⟩
  rw [hX] at hap
  have hs1 : use.size + 1 ≤ 9223372036854775807 := by omega
  have hs2 : use.size + 1 + who.size ≤ 9223372036854775807 := by omega
  have hXs : X.size ≤ 140737488355000 := by rw [← hX, mkB_size, List.length_append, List.length_cons]; have := list_size use; have := list_size who; unfold toL; omega
  have h1 := fun W => ttext_calls X W hXs
  rw [show toL X = toL use ++ 58 :: toL who by rw [← hX]; exact mkB_list _] at h1
  have hA := fun W => tatom_calls n W hn
  have hsA := ofAtom_size hn
  have hAA : toL (mkB (ofAtom n)) = ofAtom n := mkB_list _
  obtain ⟨A, hAe⟩ : ∃ A, mkB (ofAtom n) = A := ⟨_, rfl⟩
  rw [hAe] at hA hsA hAA
  obtain ⟨R, hR⟩ : ∃ R, secretT (toL use) (toL who) n = R := ⟨_, rfl⟩
  rw [hR]
  unfold secretT at hR
  have HA := Lib.hid hA
  cases ho : ofText (toL use ++ 58 :: toL who) with
  | error er =>
    rw [ho] at hR
    simp only [ho] at h1
    simp only [exV] at h1
    obtain rfl := ofText_err' ho
    dsimp only at hR
    subst hR
    have H1 := Lib.hid h1
    clear h1 ho hA hAA hsA hXs hX hAe
    go_enter Tryz.func123, Tryz.ntmps123
    go_wp2_with fail
    refine (H1.out _).mono ?_
    rintro e w1 ⟨rfl, hb⟩
    have HB := Lib.hid hb
    clear hb
    go_wp2_with fail
    go_ret2
    exact ⟨rfl, HB.out⟩
  | ok t =>
    rw [ho] at hR
    simp only [ho] at h1
    simp only [exV] at h1
    have htr := (ofText_ok' ho).2
    have hts : (mkB t).size ≤ 9223372036854775807 := by rw [mkB_size]; have := right_len htr; omega
    have h2 := fun W => tpair_calls (mkB t) A W hts (by omega)
    rw [show toL (mkB t) = t from mkB_list t, hAA] at h2
    obtain ⟨T, hT⟩ : ∃ T, mkB t = T := ⟨_, rfl⟩
    rw [hT] at h1 h2
    dsimp only at hR
    have H1 := Lib.hid h1
    cases hp : ofTwo 112 t (ofAtom n) with
    | error er =>
      rw [hp] at hR
      simp only [hp] at h2
      simp only [exV] at h2
      dsimp only at hR
      subst hR
      have f1 : (er == 0) = false := by rcases ofTwo_err hp with rfl | rfl <;> rfl
      have f2 : (er != 0) = true := by simp only [bne, f1]; rfl
      have H2 := Lib.hid h2
      clear h1 ho hA hAA hsA hXs hX hAe h2 hp hts hT htr
      go_enter Tryz.func123, Tryz.ntmps123
      go_wp2_with fail
      refine (H1.out _).mono ?_
      rintro e w1 ⟨rfl, hb⟩
      have HB := Lib.hid hb
      clear hb
      go_wp2_with fail
      refine (HA.out _).mono ?_
      rintro e w2 ⟨rfl, hb⟩
      have HB2 := Lib.hid (HB.out.trans (hb.mono HB.out.size))
      clear hb
      go_wp2_with fail
      refine (H2.out _).mono ?_
      rintro e w3 ⟨rfl, hb⟩
      have HB3 := Lib.hid (HB2.out.trans (hb.mono HB2.out.size))
      clear hb
      go_wp2_with fail
      go_ret2
      exact ⟨rfl, HB3.out⟩
    | ok p =>
      rw [hp] at hR
      simp only [hp] at h2
      simp only [exV] at h2
      dsimp only at hR
      have hpr := (ofTwo_ok hp).2.1
      have hps : (mkB p).size ≤ 9223372036854775807 := by rw [mkB_size]; have := right_len hpr; omega
      have h3 := fun W => thash_calls (mkB p) W hps
      rw [show toL (mkB p) = p from mkB_list p] at h3
      obtain ⟨Y, hY⟩ : ∃ Y, mkB p = Y := ⟨_, rfl⟩
      rw [hY] at h2 h3
      have H2 := Lib.hid h2
      subst hR
      cases hq : ofOne 104 p with
      | error er =>
        simp only [hq] at h3
        simp only [exV] at h3
        have f1 : (er == 0) = false := by rcases ofOne_err2 hq with rfl | rfl <;> rfl
        have f2 : (er != 0) = true := by simp only [bne, f1]; rfl
        have H3 := Lib.hid h3
        clear h1 ho hA hAA hsA hXs hX hAe h2 hp hts hT htr hq h3 hps hpr hY
        go_enter Tryz.func123, Tryz.ntmps123
        go_wp2_with fail
        refine (H1.out _).mono ?_
        rintro e w1 ⟨rfl, hb⟩
        have HB := Lib.hid hb
        clear hb
        go_wp2_with fail
        refine (HA.out _).mono ?_
        rintro e w2 ⟨rfl, hb⟩
        have HB2 := Lib.hid (HB.out.trans (hb.mono HB.out.size))
        clear hb
        go_wp2_with fail
        refine (H2.out _).mono ?_
        rintro e w3 ⟨rfl, hb⟩
        have HB3 := Lib.hid (HB2.out.trans (hb.mono HB2.out.size))
        clear hb
        go_wp2_with fail
        refine (H3.out _).mono ?_
        rintro e w4 ⟨rfl, hb⟩
        have HB4 := Lib.hid (HB3.out.trans (hb.mono HB3.out.size))
        clear hb
        go_wp2_with fail
        go_ret2
        exact ⟨rfl, HB4.out⟩
      | ok q =>
        simp only [hq] at h3
        simp only [exV] at h3
        obtain ⟨Z, hZ⟩ : ∃ Z, mkB q = Z := ⟨_, rfl⟩
        rw [hZ] at h3
        have HE : Hid (exV (.ok q) = .tuple #[.string Z, .int .i64 0]) := Lib.hid (by rw [← hZ]; rfl)
        have H3 := Lib.hid h3
        clear h1 ho hA hAA hsA hXs hX hAe h2 hp hts hT htr hq h3 hps hpr hY hZ
        go_enter Tryz.func123, Tryz.ntmps123
        go_wp2_with fail
        refine (H1.out _).mono ?_
        rintro e w1 ⟨rfl, hb⟩
        have HB := Lib.hid hb
        clear hb
        go_wp2_with fail
        refine (HA.out _).mono ?_
        rintro e w2 ⟨rfl, hb⟩
        have HB2 := Lib.hid (HB.out.trans (hb.mono HB.out.size))
        clear hb
        go_wp2_with fail
        refine (H2.out _).mono ?_
        rintro e w3 ⟨rfl, hb⟩
        have HB3 := Lib.hid (HB2.out.trans (hb.mono HB2.out.size))
        clear hb
        go_wp2_with fail
        refine (H3.out _).mono ?_
        rintro e w4 ⟨rfl, hb⟩
        have HB4 := Lib.hid (HB3.out.trans (hb.mono HB3.out.size))
        clear hb
        go_wp2_with fail
        go_ret2
        exact ⟨by rw [HE.out]; rfl, HB4.out⟩
end Go.Proofs.YtckblcfkajpofaaGreatDoor
