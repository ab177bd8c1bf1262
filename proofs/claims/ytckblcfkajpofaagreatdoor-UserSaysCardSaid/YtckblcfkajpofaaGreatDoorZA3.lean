/- wire: Put, join, PutText. wire: join, PutText. wire: PutAll. wire: Take, limited, TakeText, TakeAll. wire: TakeAll. -/
import Derived.Test.YtckblcfkajpofaaGreatDoorZA1
import Derived.Test.YtckblcfkajpofaaGreatDoorProg
import Derived.Test.YtckblcfkajpofaaGreatDoorLayLn
import Derived.Test.YtckblcfkajpofaaGreatDoorLayJn
import Derived.WalkKit
import Derived.OwnWalk
import Derived.Deep.OwnRows
import Derived.Laws.IdiomStrings
import Derived.Lib.BitFns
import Derived.Lib.ItoaNum
import Derived.Lib.Hide
import Derived.KernelRfl
import Derived.Outline
import Derived.Test.YtckblcfkajpofaaGreatDoorZA2
import Derived.Lib.ConvBytes
import Derived.Lib.AtoiErrMem
import Derived.Deep.QuietTactic
import Derived.BigQuiet
import Derived.StillTailTactics
import Derived.Handy
namespace Go.Proofs.YtckblcfkajpofaaGreatDoor
open Go.RowKit
set_option linter.unusedVariables false
set_option linter.unusedSimpArgs false

theorem bitLen_digs : ∀ n : Nat, n < 18446744073709551616 → (Lib.bitLen n + 7) / 8 = (digs n).length := by
  intro n
  induction n using Nat.strongRecOn with
  | _ n ih =>
    intro h
    by_cases h0 : n = 0
    · subst h0; rw [digs_zero]; rfl
    · rw [digs_pos (by omega), List.length_append]
      by_cases h1 : n < 256
      · rw [show n / 256 = 0 by omega, digs_zero]
        have h8 := Lib.bitLen_le8 ⟨n, h1⟩
        have hb := Lib.bitLenAux_bounds 64 n (by simpa using h) h0
        unfold Lib.bitLen at *
        dsimp only at h8
        simp only [List.length_nil, List.length_cons]
        omega
      · rw [Lib.bitLen_shift8 n (by omega) h]
        have := ih (n / 256) (by omega) (by omega)
        simp only [List.length_cons, List.length_nil]
        omega

/-- bytes, as cells -/
def u8V (l : List UInt8) : List Value := l.map fun b => Value.int .u8 (b.toNat : Int)
theorem u8V_get (l : List UInt8) (i : Nat) : (u8V l)[i]? = (l[i]?).map fun b => Value.int .u8 (b.toNat : Int) := by simp [u8V]
theorem u8V_len (l : List UInt8) : (u8V l).length = l.length := by simp [u8V]
theorem u8V_made (n : Nat) : madeCells #[Value.int .u8 0] n = (u8V (List.replicate n 0)).toArray := by
  apply Array.toList_inj.1
  simp only [madeCells, u8V, Array.toList_ofFn, List.map_replicate]
  apply List.ext_getElem
  · simp
  · intro i h1 h2
    simp [Nat.mod_one]
/-- what is laid when i more are to come -/
def putAt (n i : Nat) : List UInt8 := UInt8.ofNat (digs n).length :: (List.replicate i 0 ++ (digs n).drop i)
theorem putAt_len (n i : Nat) (h : i ≤ (digs n).length) : (putAt n i).length = 1 + (digs n).length := by simp [putAt]; omega
theorem putAt_step (n i : Nat) (h : i < (digs n).length) : (u8V (putAt n (i + 1))).set (i + 1) (.int .u8 ((val ((digs n).take (i + 1)) : Int) % 256)) = u8V (putAt n i) := by
  obtain ⟨b, hb⟩ : ∃ b, (digs n)[i]? = some b := ⟨_, List.getElem?_eq_getElem h⟩
  have ht : (digs n).take (i + 1) = (digs n).take i ++ [b] := by rw [List.take_add_one, hb]; rfl
  have hv : (val ((digs n).take (i + 1)) : Int) % 256 = (b.toNat : Int) := by
    rw [ht, val_snoc]
    have := b.toNat_lt
    omega
  rw [hv]
  have hd : (digs n).drop i = b :: (digs n).drop (i + 1) := by
    rw [List.drop_eq_getElem_cons h]
    rw [List.getElem?_eq_getElem h] at hb
    cases hb; rfl
  unfold putAt
  rw [hd, List.replicate_succ']
  have e : (List.replicate i (0 : UInt8) ++ [0] ++ (digs n).drop (i + 1)).set i b = List.replicate i 0 ++ b :: (digs n).drop (i + 1) := by
    rw [List.append_assoc, List.set_append_right _ _ (by simp)]
    simp
  rw [← e]
  simp [u8V, List.map_set]
theorem take_div (n i : Nat) (h : i < (digs n).length) : val ((digs n).take (i + 1)) / 256 = val ((digs n).take i) := by
  obtain ⟨b, hb⟩ : ∃ b, (digs n)[i]? = some b := ⟨_, List.getElem?_eq_getElem h⟩
  have ht : (digs n).take (i + 1) = (digs n).take i ++ [b] := by rw [List.take_add_one, hb]; rfl
  rw [ht, val_snoc]
  have := b.toNat_lt
  omega

theorem ret_str {a b : ByteArray} (h : a = b) : Ending.returned (.string a) = Ending.returned (.string b) := by rw [h]

theorem infoU8 : (Tryz.prog.info? 5).map (fun i => (i.zero, i.size, i.bytes)) = some (some (.int .u8 0), 1, 1) := by kernel_rfl
set_option maxRecDepth 100000 in
set_option maxHeartbeats 800000 in
theorem wput_calls (n : Nat) (w : World) (hn : n < 18446744073709551616) :
    Calls Tryz.prog 130 #[.int .u64 n] w fun e w' => e = .returned (.string (mkB (wput n))) ∧ Below w.heap.size w w' := by
  have cL : Calls Tryz.prog 231 #[.int .u64 n] w fun e w' => e = .returned (.int .i64 (Lib.bitLen n)) ∧ w' = w := by
    have := Any.bits_Len64 Tryz.laysLen (n : Int) w (by omega) (by omega)
    rw [Int.toNat_natCast] at this
    exact this
  have hq := bitLen_digs n hn
  have h8 := digs_le8 hn
  have hmk := fun W => run_make_row' (P := Tryz.prog) 89 5 (.int .u8 0) 1 Tryz.underlying89 infoU8 rfl .i64 .i64 (1 + (digs n).length) (by omega) (by omega) W
  obtain ⟨L, hL⟩ : ∃ L, Lib.bitLen n = L := ⟨_, rfl⟩
  obtain ⟨k, hk⟩ : ∃ k, (digs n).length = k := ⟨_, rfl⟩
  rw [hL] at cL hq
  rw [hk] at hq h8 hmk
  have HL := Lib.hid cL
  have e1 : ((L : Int) + 7).tdiv 8 = (k : Int) := by rw [← hq, Int.tdiv_eq_ediv_of_nonneg (by omega)]; omega
  have e0 : (L : Int) ≤ 64 := by omega
  have HK := Lib.hid hk
  simp only [show ((1 + k : Nat) : Int) = 1 + (k : Int) by omega] at hmk
  rw [u8V_made] at hmk
  have hb0 : (w.alloc (.cells (u8V (List.replicate (1 + k) 0)).toArray 5)).heap[w.heap.size]? = some (.cells (u8V (List.replicate (1 + k) 0)).toArray 5 (0, 0)) := by rw [get_alloc]; simp
  have c0 : (w.alloc (.cells (u8V (List.replicate (1 + k) 0)).toArray 5)).cell? ⟨w.heap.size, 0, none⟩ = some (.int .u8 0) := by
    rw [cell_of_row _ _ _ _ _ _ hb0, ← Array.getElem?_toList, List.toList_toArray, u8V_get, show 1 + k = k + 1 by omega, List.replicate_succ]; rfl
  have f0 := frozen_of_row hb0 0
  clear hb0
  clear cL hL hq hk
  go_enter Tryz.func130, Tryz.ntmps130
  go_wp2_with fail
  refine HL.out.mono ?_
  rintro e w1 ⟨rfl, hw⟩
  obtain rfl : w = w1 := hw.symm
  clear hw
  go_wp2_with fail
  clear hmk c0 f0 e1
  obtain ⟨B, hB⟩ : ∃ B, w.heap.size = B := ⟨_, rfl⟩
  have HB := Lib.hid hB
  rw [hB]
  clear hB
  go_loopw [0, 5] (fun m i wr => ∃ j : Nat, j ≤ k ∧ i = .int .i64 j ∧ m = .int .u64 (val ((digs n).take j)) ∧ Hid (wr.heap[B]? = some (.cells (u8V (putAt n j)).toArray 5 (0, 0)) ∧ Below w.heap.size w wr)) (fun _ i _ => (intOf i).toNat)
  case atStart =>
    refine ⟨k, Nat.le_refl _, rfl, ?_, ?_, ?_⟩
    · rw [← HK.out, List.take_length, val_digs]
    · rw [get_alloc, if_pos HB.out.symm]
      congr 2
      apply Array.toList_inj.1
      rw [List.toList_toArray, List.toList_toArray, show 1 + k = k + 1 by omega, List.replicate_succ]
      unfold putAt
      rw [HK.out, List.drop_of_length_le (by rw [HK.out]; exact Nat.le_refl _), List.append_nil]
      have : ((UInt8.ofNat k).toNat : Int) = (k : Int) := by
        rw [UInt8.toNat_ofNat']; omega
      simp only [u8V, List.map_cons, List.set_cons_zero, this]
    · exact ((Below.refl _ w).alloc (Nat.le_refl _) _)
  case round =>
    obtain ⟨j, hj, rfl, rfl, HO⟩ := hrel
    cases j with
    | zero =>
      have hs := Lib.hid HO.out.2
      have hcv : (convert 89 9 (.slice (some ⟨B, 0, none⟩) (1 + k) (1 + k))).run Tryz.prog wr = .ok (.string (mkB (wput n))) wr := by
        have := run_convert_bytes_back (P := Tryz.prog) wr 89 9 5 ⟨B, 0, none⟩ (1 + k) (putAt n 0) Tryz.underlying89 Tryz.underlying5 Tryz.underlying9 (fun j hj => by
          rw [add_at, Nat.zero_add, cell_of_row _ _ _ _ _ _ HO.out.1, ← Array.getElem?_toList, List.toList_toArray, u8V_get, List.getElem?_eq_getElem hj]; rfl)
        rw [putAt_len n 0 (Nat.zero_le _), HK.out] at this
        rw [this]
        simp [putAt, wput, mkB]
      go_wp2_with fail
      go_ret
      exact ⟨rfl, hs.out⟩
    | succ j =>
      have hj' : j < (digs n).length := by rw [HK.out]; omega
      have cj : wr.cell? ⟨B, j + 1, none⟩ = some (.int .u8 0) := by
        rw [cell_of_row _ _ _ _ _ _ HO.out.1, ← Array.getElem?_toList, List.toList_toArray, u8V_get]
        unfold putAt
        rw [List.getElem?_cons_succ, List.getElem?_append_left (by simp)]
        simp
      have fj := frozen_of_row HO.out.1 (j + 1)
      have HW := Lib.hid (set_at HO.out.1 (j + 1) (.int .u8 ((val ((digs n).take (j + 1)) : Int) % 256)))
      have HS := Lib.hid (putAt_step n j hj')
      have HT := Lib.hid (take_div n j hj')
      have HBW := Lib.hid HO.out.2
      have hvb : val ((digs n).take (j + 1)) < 18446744073709551616 := Nat.lt_of_lt_of_le (val_lt _) (by rw [List.length_take]; exact Nat.le_trans (Nat.pow_le_pow_right (by omega) (show min (j + 1) (digs n).length ≤ 8 by omega)) (by decide))
      obtain ⟨m, hm⟩ : ∃ m, val ((digs n).take (j + 1)) = m := ⟨_, rfl⟩
      rw [hm] at HW HS HT hvb ⊢
      clear hm hj' HO
      go_wp2_with fail
      go_roundw
      case rel =>
        refine ⟨j, by omega, rfl, by rw [← HT.out]; simp, ?_, ?_⟩
        · rw [HW.out, List.setIfInBounds_toArray, HS.out]
        · exact HBW.out.setCell (Nat.le_of_eq HB.out) _
      case measure => simp [intOf]
end Go.Proofs.YtckblcfkajpofaaGreatDoor
namespace Go.Proofs.YtckblcfkajpofaaGreatDoor
open Go.RowKit
set_option linter.unusedVariables false
set_option linter.unusedSimpArgs false

theorem joinExtra : Builder.Extra Tryz.prog Tryz.laysJoin_ren :=
  ⟨⟨by kernel_rfl, by kernel_rfl⟩, by kernel_rfl, fun _ => by kernel_rfl, fun _ => by kernel_rfl, fun _ => by kernel_rfl, by kernel_rfl, by kernel_rfl, by kernel_rfl, by decide +kernel⟩
abbrev toL (s : ByteArray) : List UInt8 := s.data.toList
theorem intercalate_nil (l : List (List UInt8)) : ([] : List UInt8).intercalate l = l.flatten := by
  induction l with
  | nil => rfl
  | cons x l ih =>
    cases l with
    | nil => simp [List.intercalate]
    | cons y l =>
      unfold List.intercalate at *
      rw [List.intersperse_cons_cons, List.flatten_cons, List.flatten_cons, ih]; simp
theorem joins_calls (w : World) (v : Value) (l : List ByteArray) (hv : strs w v l) (hl : l.length ≤ 140737488355328) (hlen : (l.map toL).flatten.length ≤ 140737488355328) :
    Calls Tryz.prog 289 #[v, .string ⟨#[]⟩] w fun e w' => e = .returned (.string (mkB (l.map toL).flatten)) ∧ Below w.heap.size w w' := by
  obtain ⟨A, c, rfl, h1, h2, h3⟩ := hv
  by_cases h0 : l = []
  · subst h0
    refine (Any.strings_Join_none Tryz.laysJoin joinExtra A c ⟨#[]⟩ w).mono fun e w' ⟨he, hw⟩ => ⟨he, ?_⟩
    rw [hw]; exact Below.refl _ _
  · obtain ⟨b, off, rfl, hc⟩ := h3 (List.length_pos_iff.2 h0)
    obtain ⟨x0, hx0⟩ : ∃ x, l[0]? = some x := ⟨_, List.getElem?_eq_getElem (List.length_pos_iff.2 h0)⟩
    have hb : b < w.heap.size := World.block_lt_of_cell? w _ (hc 0 x0 hx0)
    have hj : Lib.join (l.map (fun x => x.data.toList)) (⟨#[]⟩ : ByteArray).data.toList = (l.map toL).flatten := intercalate_nil _
    have := Any.strings_Join Tryz.laysJoin joinExtra b off c l ⟨#[]⟩ w hc hb hl h1 (by rw [hj]; exact hlen)
    rw [hj] at this
    exact this
theorem join_calls (w : World) (v : Value) (l : List ByteArray) (hv : strs w v l) (hl : l.length ≤ 140737488355328) (hlen : (l.map toL).flatten.length ≤ 140737488355328) :
    Calls Tryz.prog 230 #[v] w fun e w' => e = .returned (.string (mkB (l.map toL).flatten)) ∧ Below w.heap.size w w' := by
  have HJ := Lib.hid (joins_calls w v l hv hl hlen)
  clear hv hl hlen
  go_enter Tryz.func230, Tryz.ntmps230
  go_wp2_with fail
  refine HJ.out.mono ?_
  rintro e w1 ⟨rfl, hb⟩
  have HB := Lib.hid hb
  clear hb
  go_wp2_with fail
  go_ret
  exact ⟨rfl, HB.out⟩
set_option maxHeartbeats 800000 in
theorem puttext_calls (t : ByteArray) (w : World) (ht : t.size ≤ 140737488355000) :
    Calls Tryz.prog 229 #[.string t] w fun e w' => e = .returned (.string (mkB (wtext (toL t)))) ∧ Below w.heap.size w w' := by
  have hc1 := wput_calls t.size w (by omega)
  have hlen := wput_len_le (n := t.size) (by omega)
  have hsz := list_size t
  have HC := Lib.hid hc1
  clear hc1
  go_enter Tryz.func229, Tryz.ntmps229
  go_wp2_with fail
  refine HC.out.mono ?_
  rintro e w1 ⟨rfl, hb⟩
  have HB := Lib.hid hb
  have h2 := join_calls _ _ _ (strs_lit w1 9 [mkB (wput t.size), t] (by simp)) (by simp) (by simp [mkB_list]; omega)
  have HJ := Lib.hid h2
  clear hb h2
  go_wp2_with fail
  refine HJ.out.mono ?_
  rintro e w2 ⟨rfl, hb⟩
  have HB2 : Hid (Below w.heap.size w w2) := Lib.hid ((HB.out.alloc HB.out.size _).trans (hb.mono (by rw [size_alloc]; have := HB.out.size; omega)))
  clear hb
  go_wp2_with fail
  go_ret
  exact ⟨ret_str (by simp [wtext, mkB_list, hsz]), HB2.out⟩
end Go.Proofs.YtckblcfkajpofaaGreatDoor
namespace Go.Proofs.YtckblcfkajpofaaGreatDoor
open Go.RowKit
set_option linter.unusedVariables false
set_option linter.unusedSimpArgs false

theorem below_own {w w1 w2 : World} {e : TypeId} {size n : Nat} {v : Value} {xs : List Value} (h : Below w.heap.size w w1) (ho : w1.ownsRow w.heap.size e size v n xs) (k : Keep (fun i => v.ownBlock = some i) w1 w2) : Below w.heap.size w w2 :=
  ((Keep.of_below h : Keep (fun k => w.heap.size ≤ k) w w1).same (k.mono fun i e => own_new ho i e)).new
theorem own_below {w w1 : World} {base : Nat} {e : TypeId} {size n : Nat} {v : Value} {xs : List Value} (ho : w.ownsRow base e size v n xs) (h : Below w.heap.size w w1) : w1.ownsRow base e size v n xs :=
  Keep.own (F := fun _ => False) (Keep.of_below h) ho fun _ _ e => e
theorem strs.cell {w : World} {v : Value} {l : List ByteArray} (h : strs w v l) {i : Nat} {x : ByteArray} (hx : l[i]? = some x) : ∃ b off c, v = .slice (some ⟨b, off, none⟩) l.length c ∧ l.length ≤ c ∧ l.length ≤ 9223372036854775807 ∧ w.cell? ⟨b, off + i, none⟩ = some (.string x) := by
  obtain ⟨A, c, rfl, h1, h2, h3⟩ := h
  obtain ⟨b, off, rfl, hc⟩ := h3 (by have := (List.getElem?_eq_some_iff.1 hx).1; omega)
  exact ⟨b, off, c, rfl, h1, h2, hc i x hx⟩
theorem strs.form {w : World} {v : Value} {l : List ByteArray} (h : strs w v l) : ∃ A c, v = .slice A l.length c ∧ l.length ≤ c ∧ l.length ≤ 9223372036854775807 := by
  obtain ⟨A, c, rfl, h1, h2, h3⟩ := h; exact ⟨A, c, rfl, h1, h2⟩
/-- what lies in parts when k are put -/
def putParts (l : List ByteArray) (k : Nat) : List ByteArray := mkB (wput l.length) :: (l.take k).map fun t => mkB (wtext (toL t))
theorem putParts_len (l : List ByteArray) (k : Nat) : (putParts l k).length ≤ 1 + l.length := by simp [putParts]; omega
theorem putParts_step {l : List ByteArray} {k : Nat} {x : ByteArray} (h : l[k]? = some x) : putParts l (k + 1) = putParts l k ++ [mkB (wtext (toL x))] := by
  unfold putParts; rw [take_succ_get2 h]; simp
theorem putParts_all (l : List ByteArray) : ((putParts l l.length).map toL).flatten = wall (l.map toL) := by
  unfold putParts wall
  rw [List.take_length]
  simp only [List.map_cons, List.flatten_cons, mkB_list, List.length_map, List.map_map, List.flatMap_map]
  rw [List.flatMap]
  have e : (toL ∘ fun t => mkB (wtext (toL t))) = fun t => wtext (toL t) := funext fun t => mkB_list _
  rw [e]
theorem wall_mem {l : List ByteArray} {x : ByteArray} (h : x ∈ l) : x.size ≤ (wall (l.map toL)).length := by
  unfold wall
  rw [List.length_append, List.flatMap_map]
  have : (wtext (toL x)).length ≤ (l.flatMap fun t => wtext (toL t)).length := by
    obtain ⟨a, b, rfl⟩ := List.append_of_mem h
    simp
    omega
  have h2 : x.size ≤ (wtext (toL x)).length := by
    have : (toL x).length = x.size := list_size x
    unfold wtext; rw [List.length_append]; omega
  omega
set_option maxRecDepth 100000 in
set_option maxHeartbeats 1000000 in
theorem putall_calls (w : World) (v : Value) (l : List ByteArray) (hv : strs w v l) (hl : l.length ≤ 1000000) (hlen : (wall (l.map toL)).length ≤ 140737488350000) :
    Calls Tryz.prog 129 #[v] w fun e w' => e = .returned (.string (mkB (wall (l.map toL)))) ∧ Below w.heap.size w w' := by
  have HV := Lib.hid hv
  have HLEN := Lib.hid hlen
  have HC := Lib.hid (wput_calls l.length w (by omega))
  obtain ⟨A, c, rfl, h1, h2, h3⟩ := hv
  clear h3 hlen
  go_enter Tryz.func129, Tryz.ntmps129
  go_wp2_with fail
  refine HC.out.mono ?_
  rintro e w1 ⟨rfl, hb⟩
  have HB := Lib.hid hb
  clear hb
  go_wp2_with fail
  go_loopw [3, 13] (fun p i wr => ∃ k : Nat, k ≤ l.length ∧ i = .int .i64 k ∧ Hid (wr.ownsRow w.heap.size 9 1 p (putParts l k).length (strV (putParts l k)) ∧ Below w.heap.size w wr)) (fun _ i _ => l.length - (intOf i).toNat)
  case atStart =>
    refine ⟨0, Nat.zero_le _, rfl, ?_, ?_⟩
    · exact World.ownsRow_lit w1 #[.string (mkB (wput l.length))] 1 HB.out.size (by unfold maxLen; omega) rfl
    · exact HB.out.alloc HB.out.size _
  case round =>
    obtain ⟨k, hk, rfl, HO⟩ := hrel
    by_cases hlt : k < l.length
    · obtain ⟨x, hx⟩ : ∃ x, l[k]? = some x := ⟨_, List.getElem?_eq_getElem hlt⟩
      obtain ⟨b, off, c', hv', hcc, hll, hcell⟩ := (HV.out.below HO.out.2).cell hx
      cases hv'
      have hxs : x.size ≤ 140737488350000 := Nat.le_trans (wall_mem (List.mem_of_getElem? hx)) HLEN.out
      have HP := Lib.hid (puttext_calls x wr (by omega))
      have HX := Lib.hid hx
      clear hx hxs
      go_wp2_with fail
      refine HP.out.mono ?_
      rintro e w2 ⟨rfl, hb⟩
      have hown := own_below HO.out.1 hb
      obtain ⟨p', w3, hrun, ho3, hk3⟩ := append_str hown (mkB (wtext (toL x))) (by have := putParts_len l k; omega) (Nat.le_trans HO.out.2.size hb.size)
      have hbel : Below w.heap.size w w2 := HO.out.2.trans (hb.mono HO.out.2.size)
      have HN : Hid (w3.ownsRow w.heap.size 9 1 p' (putParts l (k + 1)).length (strV (putParts l (k + 1))) ∧ Below w.heap.size w w3) := by
        rw [putParts_step HX.out]
        exact ⟨ho3, below_own hbel hown hk3⟩
      clear hb hown ho3 hk3 hbel hcell HP
      go_wp2_with (at_builtin; refine wp_append_run rfl _ _ _ rfl rfl rfl hrun ?_)
      clear hrun
      go_wp2_with fail
      go_roundw
      case rel => exact ⟨k + 1, by omega, by go_num, HN⟩
      case measure => simp [intOf]; omega
    · obtain rfl : k = l.length := by omega
      have h5 := join_calls wr _ _ (strs_own HO.out.1) (by have := putParts_len l l.length; omega) (by rw [putParts_all]; have := HLEN.out; omega)
      rw [putParts_all] at h5
      have HJ := Lib.hid h5
      clear h5
      go_wp2_with fail
      refine HJ.out.mono ?_
      rintro e w2 ⟨rfl, hb⟩
      have HB2 := Lib.hid (HO.out.2.trans (hb.mono HO.out.2.size))
      clear hb
      go_wp2_with fail
      go_ret
      exact ⟨rfl, HB2.out⟩
end Go.Proofs.YtckblcfkajpofaaGreatDoor
namespace Go.Proofs.YtckblcfkajpofaaGreatDoor
open Go.RowKit
set_option linter.unusedVariables false
set_option linter.unusedSimpArgs false

def takeV (s : List UInt8) : Value := match wtake s with
  | none => .tuple #[.int .u64 0, .string ⟨#[]⟩, .int .i64 2]
  | some (n, r) => .tuple #[.int .u64 n, .string (mkB r), .int .i64 0]
theorem or_byte (v y : Nat) (hv : 256 * v < 18446744073709551616) (hy : y < 256) : bits .or .u64 ((v : Int) * 256) (y : Int) = ((256 * v + y : Nat) : Int) := by
  have e1 : (v : Int) * 256 = ((2 ^ 8 * v : Nat) : Int) := by omega
  rw [e1]
  show IntKind.wrap .u64 (((BitVec.ofInt 64 ((2 ^ 8 * v : Nat) : Int)) ||| (BitVec.ofInt 64 (y : Int))).toNat : Int) = _
  rw [BitVec.ofInt_natCast, BitVec.ofInt_natCast, BitVec.toNat_or, BitVec.toNat_ofNat, BitVec.toNat_ofNat, Nat.mod_eq_of_lt (by omega), Nat.mod_eq_of_lt (by omega), ← Nat.two_pow_add_eq_or_of_lt (by omega : y < 2 ^ 8) v]
  rw [IntKind.wrap_u64]
  omega
theorem takeV_bad {c : UInt8} {r : List UInt8} (h : 8 < c.toNat ∨ r.length < c.toNat) : takeV (c :: r) = .tuple #[.int .u64 0, .string ⟨#[]⟩, .int .i64 2] := by
  have : wtake (c :: r) = none := by unfold wtake; simp only; rw [if_pos h]
  unfold takeV; rw [this]
theorem takeV_zero {c : UInt8} {r : List UInt8} (h : 0 < c.toNat) (h0 : r.head? = some 0) : takeV (c :: r) = .tuple #[.int .u64 0, .string ⟨#[]⟩, .int .i64 2] := by
  have : wtake (c :: r) = none := by
    unfold wtake; simp only
    split
    · rfl
    · rw [if_pos ⟨h, h0⟩]
  unfold takeV; rw [this]
theorem takeV_good {c : UInt8} {r : List UInt8} (h : ¬ (8 < c.toNat ∨ r.length < c.toNat)) (h0 : ¬ (0 < c.toNat ∧ r.head? = some 0)) : takeV (c :: r) = .tuple #[.int .u64 (val (r.take c.toNat)), .string (mkB (r.drop c.toNat)), .int .i64 0] := by
  have : wtake (c :: r) = some (val (r.take c.toNat), r.drop c.toNat) := by unfold wtake; simp only; rw [if_neg h, if_neg h0]
  unfold takeV; rw [this]
set_option maxRecDepth 100000 in
set_option maxHeartbeats 1000000 in
theorem wtake_calls (s : ByteArray) (w : World) (hs : s.size ≤ 9223372036854775807) :
    Calls Tryz.prog 136 #[.string s] w fun e w' => e = .returned (takeV (toL s)) ∧ Below w.heap.size w w' := by
  cases hl' : toL s with
  | nil =>
    have hl : s.data.toList = [] := hl'
    clear hl'
    have h1 : s.toList = [] := by rw [ByteArray.toList_eq]; exact hl
    have HE : Hid (takeV [] = .tuple #[.int .u64 0, .string ⟨#[]⟩, .int .i64 2]) := rfl
    clear hl
    go_enter Tryz.func136, Tryz.ntmps136
    go_wp2_with fail
    go_returns
    exact ⟨by rw [HE.out]; rfl, Below.refl _ _⟩
  | cons c r =>
    have hl : s.data.toList = c :: r := hl'
    clear hl'
    have hsz : s.size = r.length + 1 := by have := list_size s; rw [hl] at this; exact this.symm
    have hne : s.toList.isEmpty = false := by rw [ByteArray.toList_eq, hl]; rfl
    have h0 : 0 < s.size := by omega
    have hc0 : (s[0]'h0).toNat = c.toNat := by
      have : (s.data.toList)[0]? = some (s[0]'h0) := by
        rw [Array.getElem?_toList]; exact Array.getElem?_eq_getElem h0
      rw [hl] at this; cases this; rfl
    have hx : s.extract 1 (r.length + 1) = mkB r := by
      have h2 := Lib.extract_data s 1 (r.length + 1)
      rw [← list_mkB (s.extract 1 (r.length + 1)), h2, hl]
      congr 1
      simp
    have hRs : (mkB r).size = r.length := mkB_size r
    obtain ⟨m, hm⟩ : ∃ m, c.toNat = m := ⟨_, rfl⟩
    have hm255 : m ≤ 255 := by have := c.toNat_lt; omega
    obtain ⟨R, hR⟩ : ∃ R, mkB r = R := ⟨_, rfl⟩
    rw [hR] at hx hRs
    rw [hm] at hc0
    have HR := Lib.hid hR
    have HM := Lib.hid hm
    clear hl hm hR
    by_cases hA : 8 < m ∨ r.length < m
    · have HV : Hid (takeV (c :: r) = .tuple #[.int .u64 0, .string ⟨#[]⟩, .int .i64 2]) := Lib.hid (takeV_bad (by rw [HM.out]; exact hA))
      by_cases h8 : 8 < m
      · go_enter Tryz.func136, Tryz.ntmps136
        go_wp2_with fail
        go_returns
        exact ⟨by rw [HV.out]; rfl, Below.refl _ _⟩
      · have h8' : r.length < m := by omega
        go_enter Tryz.func136, Tryz.ntmps136
        go_wp2_with fail
        go_returns
        exact ⟨by rw [HV.out]; rfl, Below.refl _ _⟩
    · have h8 : m ≤ 8 := by omega
      have h9 : m ≤ r.length := by omega
      obtain ⟨Q, hQ⟩ : ∃ Q, R.extract 0 m = Q := ⟨_, rfl⟩
      have hQl : Q.data.toList = r.take m := by
        rw [← hQ, Lib.extract_data, ← HR.out, mkB_list]; simp
      have hQs : Q.size = m := by have := list_size Q; rw [hQl, List.length_take] at this; omega
      have hcv := Lib.run_convert_string_bytes (P := Tryz.prog) w 9 89 5 Q Tryz.underlying9 Tryz.underlying89 Tryz.underlying5
      obtain ⟨w1, hw1⟩ : ∃ w1, Lib.bytesWorld w 5 Q = w1 := ⟨_, rfl⟩
      obtain ⟨cap, hcap⟩ : ∃ cap, grownCap w Q.size 0 5 = cap := ⟨_, rfl⟩
      have HW : Hid (Below w.heap.size w w1) := by rw [← hw1]; exact Lib.bytesWorld_below w 5 Q
      have HC : Hid (∀ j x, (r.take m)[j]? = some x → w1.cell? ⟨w.heap.size, j, none⟩ = some (.int .u8 (x.toNat : Int))) := by
        intro j x hj
        have hlt : j < Q.size := by have := (List.getElem?_eq_some_iff.1 hj).1; rw [List.length_take] at this; omega
        rw [← hw1, Lib.bytesWorld_cell w 5 Q j hlt, hQl, List.getD_eq_getElem?_getD, hj]; rfl
      rw [hw1, hcap, hQs] at hcv
      obtain ⟨B, hB⟩ : ∃ B, w.heap.size = B := ⟨_, rfl⟩
      rw [hB] at hcv HC
      have HB := Lib.hid hB
      clear hw1 hcap hQs hQl hB hA
      go_enter Tryz.func136, Tryz.ntmps136
      go_wp2_with fail
      go_loopw [6, 8, 29] (fun n b i wr => ∃ k : Nat, k ≤ m ∧ i = .int .i64 k ∧ n = .int .u64 (val (r.take k)) ∧ w1 = wr) (fun _ _ i _ => m - (intOf i).toNat)
      case atStart => exact ⟨0, Nat.zero_le _, rfl, rfl, rfl⟩
      case round =>
        obtain ⟨k, hk, rfl, rfl, rfl⟩ := hrel
        by_cases hlt : k < m
        · obtain ⟨x, hxk⟩ : ∃ x, r[k]? = some x := ⟨_, List.getElem?_eq_getElem (by omega)⟩
          have hcell := HC.out k x (by rw [List.getElem?_take_of_lt hlt]; exact hxk)
          have hstep : val (r.take (k + 1)) = 256 * val (r.take k) + x.toNat := by rw [List.take_add_one, hxk]; exact val_snoc _ _
          have hvl := val_lt (r.take k)
          have hvb : 256 * val (r.take k) < 18446744073709551616 := by
            have : 256 ^ (r.take k).length ≤ 256 ^ 7 := Nat.pow_le_pow_right (by omega) (by rw [List.length_take]; omega)
            omega
          have hx256 := x.toNat_lt
          have HS := Lib.hid hstep
          obtain ⟨v, hv⟩ : ∃ v, val (r.take k) = v := ⟨_, rfl⟩
          obtain ⟨y, hy⟩ : ∃ y, x.toNat = y := ⟨_, rfl⟩
          rw [hv] at HS hvb ⊢
          rw [hy] at HS hx256 hcell
          clear hv hy hvl hxk hstep
          go_wp2_with fail
          go_roundw
          case rel => exact ⟨k + 1, by omega, by go_num, by rw [or_byte v y hvb hx256, HS.out], trivial⟩
          case measure => simp [intOf]; omega
        · obtain rfl : k = m := by omega
          have hbad : ¬ (8 < c.toNat ∨ r.length < c.toNat) := by rw [HM.out]; omega
          have hdrop : R.extract k R.size = mkB (r.drop k) := by
            rw [← list_mkB (R.extract k R.size), Lib.extract_data, ← HR.out, mkB_list, mkB_size]
            congr 1
            exact List.take_of_length_le (by simp)
          obtain ⟨D, hD⟩ : ∃ D, mkB (r.drop k) = D := ⟨_, rfl⟩
          rw [hD, hRs] at hdrop
          by_cases hk0 : k = 0
          · have HV : Hid (takeV (c :: r) = .tuple #[.int .u64 (val (r.take k)), .string D, .int .i64 0]) := Lib.hid (by rw [takeV_good hbad (by rw [HM.out]; omega), HM.out, hD])
            clear hbad hD
            subst hk0
            go_wp2_with fail
            go_quiet (fail)
            go_wp2_with fail
            go_returns
            exact ⟨by rw [HV.out]; rfl, HW.out.trans (((Drawn.refl w1).drewN _).below.mono HW.out.size)⟩
          · have hpos : 0 < R.size := by omega
            obtain ⟨x0, r', hr'⟩ : ∃ x0 r', r = x0 :: r' := by
              cases r with
              | nil => simp at h9; omega
              | cons x r' => exact ⟨x, r', rfl⟩
            have hRl : R.data.toList = r := by rw [← HR.out, mkB_list]
            have hR0 : (R[0]'hpos).toNat = x0.toNat := by
              have : (R.data.toList)[0]? = some (R[0]'hpos) := by
                rw [Array.getElem?_toList]; exact Array.getElem?_eq_getElem hpos
              rw [hRl, hr'] at this; cases this; rfl
            by_cases hz : x0.toNat = 0
            · have HV : Hid (takeV (c :: r) = .tuple #[.int .u64 0, .string ⟨#[]⟩, .int .i64 2]) := Lib.hid (takeV_zero (by rw [HM.out]; omega) (by rw [hr']; simp; exact UInt8.toNat_inj.1 (by simpa using hz)))
              rw [hz] at hR0
              clear hr' hbad hD hz hRl
              go_wp2_with fail
              go_returns
              exact ⟨by rw [HV.out]; rfl, HW.out⟩
            · have HV : Hid (takeV (c :: r) = .tuple #[.int .u64 (val (r.take k)), .string D, .int .i64 0]) := Lib.hid (by
                rw [takeV_good hbad (by
                  rintro ⟨_, e⟩
                  rw [hr'] at e; simp at e
                  exact hz (by rw [e]; rfl)), HM.out, hD])
              have hz2 : ((x0.toNat : Int) == 0) = false := by simp; omega
              clear hr' hbad hD hz hRl
              go_wp2_with fail
              go_quiet (fail)
              go_wp2_with fail
              go_returns
              exact ⟨by rw [HV.out]; rfl, HW.out.trans (((Drawn.refl w1).drewN _).below.mono HW.out.size)⟩

def limV (s : List UInt8) (most : Int) : Value := match wtake s with
  | none => .tuple #[.int .i64 0, .string ⟨#[]⟩, .int .i64 2]
  | some (n, r) => if max most 0 < n then .tuple #[.int .i64 0, .string ⟨#[]⟩, .int .i64 10] else .tuple #[.int .i64 n, .string (mkB r), .int .i64 0]
set_option maxRecDepth 100000 in
set_option maxHeartbeats 1000000 in
theorem limited_calls (s : ByteArray) (most : Int) (w : World) (hs : s.size ≤ 9223372036854775807) (hm : most ≤ 9223372036854775807) :
    Calls Tryz.prog 232 #[.string s, .int .i64 most] w fun e w' => e = .returned (limV (toL s) most) ∧ Below w.heap.size w w' := by
  have h1 := wtake_calls s w hs
  unfold takeV at h1
  cases ht : wtake (toL s) with
  | none =>
    have HV : Hid (limV (toL s) most = .tuple #[.int .i64 0, .string ⟨#[]⟩, .int .i64 2]) := Lib.hid (by unfold limV; rw [ht])
    rw [ht] at h1
    have HC := Lib.hid h1
    clear h1 ht
    go_enter Tryz.func232, Tryz.ntmps232
    go_wp2_with fail
    refine HC.out.mono ?_
    rintro e w1 ⟨rfl, hb⟩
    have HB := Lib.hid hb
    clear hb
    go_wp2_with fail
    go_returns
    exact ⟨by rw [HV.out]; rfl, HB.out⟩
  | some p =>
    obtain ⟨n, r⟩ := p
    have hn := (wtake_some ht).2
    obtain ⟨D, hD⟩ : ∃ D, mkB r = D := ⟨_, rfl⟩
    rw [ht] at h1
    simp only [hD] at h1
    have HC := Lib.hid h1
    obtain ⟨M, hM⟩ : ∃ M, max most 0 = M := ⟨_, rfl⟩
    have hM0 : 0 ≤ M := by omega
    have hM1 : M ≤ 9223372036854775807 := by omega
    by_cases hlt : M < n
    · have HV : Hid (limV (toL s) most = .tuple #[.int .i64 0, .string ⟨#[]⟩, .int .i64 10]) := Lib.hid (by unfold limV; rw [ht]; simp only; rw [if_pos (by omega)])
      clear h1 ht hD
      go_enter Tryz.func232, Tryz.ntmps232
      go_wp2_with fail
      refine HC.out.mono ?_
      rintro e w1 ⟨rfl, hb⟩
      have HB := Lib.hid hb
      clear hb
      go_wp2_with fail
      go_returns
      exact ⟨by rw [HV.out]; rfl, HB.out⟩
    · have HV : Hid (limV (toL s) most = .tuple #[.int .i64 n, .string D, .int .i64 0]) := Lib.hid (by unfold limV; rw [ht]; simp only; rw [if_neg (by omega), hD])
      clear h1 ht hD
      go_enter Tryz.func232, Tryz.ntmps232
      go_wp2_with fail
      refine HC.out.mono ?_
      rintro e w1 ⟨rfl, hb⟩
      have HB := Lib.hid hb
      clear hb
      go_wp2_with fail
      go_returns
      exact ⟨by rw [HV.out]; rfl, HB.out⟩

def textV (s : List UInt8) (most : Int) : Value := match wtakeText s most with
  | .error e => .tuple #[.string ⟨#[]⟩, .string ⟨#[]⟩, .int .i64 e]
  | .ok (t, r) => .tuple #[.string (mkB t), .string (mkB r), .int .i64 0]
set_option maxRecDepth 100000 in
set_option maxHeartbeats 1000000 in
theorem taketext_calls (s : ByteArray) (most : Int) (w : World) (hs : s.size ≤ 9223372036854775807) (hm : most ≤ 9223372036854775807) :
    Calls Tryz.prog 233 #[.string s, .int .i64 most] w fun e w' => e = .returned (textV (toL s) most) ∧ Below w.heap.size w w' := by
  have h1 := limited_calls s most w hs hm
  unfold limV at h1
  have bad : ∀ (er : Int), er ≠ 0 → Calls Tryz.prog 232 #[.string s, .int .i64 most] w (fun e w' => e = .returned (.tuple #[.int .i64 0, .string ⟨#[]⟩, .int .i64 er]) ∧ Below w.heap.size w w') → textV (toL s) most = .tuple #[.string ⟨#[]⟩, .string ⟨#[]⟩, .int .i64 er] →
      Calls Tryz.prog 233 #[.string s, .int .i64 most] w fun e w' => e = .returned (textV (toL s) most) ∧ Below w.heap.size w w' := by
    intro er her hc hv
    have HC := Lib.hid hc
    have HV := Lib.hid hv
    have f1 : (er == 0) = false := by simpa using her
    have f2 : (er != 0) = true := by simpa using her
    clear hc hv h1 her
    go_enter Tryz.func233, Tryz.ntmps233
    go_wp2_with fail
    refine HC.out.mono ?_
    rintro e w1 ⟨rfl, hb⟩
    have HB := Lib.hid hb
    clear hb
    go_wp2_with fail
    go_returns
    exact ⟨by rw [HV.out]; rfl, HB.out⟩
  cases ht : wtake (toL s) with
  | none =>
    rw [ht] at h1
    exact bad 2 (by decide) h1 (by unfold textV wtakeText; rw [ht])
  | some p =>
    obtain ⟨n, r⟩ := p
    rw [ht] at h1
    simp only at h1
    by_cases hlt : max most 0 < n
    · rw [if_pos hlt] at h1
      exact bad 10 (by decide) h1 (by unfold textV wtakeText; rw [ht]; simp only; rw [if_pos hlt])
    · rw [if_neg hlt] at h1
      have hn := (wtake_some ht).2
      have hDs : (mkB r).size = r.length := mkB_size r
      by_cases h2 : r.length < n
      · have HV : Hid (textV (toL s) most = .tuple #[.string ⟨#[]⟩, .string ⟨#[]⟩, .int .i64 2]) := Lib.hid (by unfold textV wtakeText; rw [ht]; simp only; rw [if_neg hlt, if_pos h2])
        obtain ⟨D, hD⟩ : ∃ D, mkB r = D := ⟨_, rfl⟩
        rw [hD] at h1 hDs
        have HC := Lib.hid h1
        clear h1 ht hD bad
        go_enter Tryz.func233, Tryz.ntmps233
        go_wp2_with fail
        refine HC.out.mono ?_
        rintro e w1 ⟨rfl, hb⟩
        have HB := Lib.hid hb
        clear hb
        go_wp2_with fail
        go_returns
        exact ⟨by rw [HV.out]; rfl, HB.out⟩
      · have hnr : n ≤ r.length := by omega
        have hD1 : (mkB r).extract 0 n = mkB (r.take n) := by
          rw [← list_mkB ((mkB r).extract 0 n), Lib.extract_data, mkB_list]; simp
        have hD2 : (mkB r).extract n r.length = mkB (r.drop n) := by
          rw [← list_mkB ((mkB r).extract n r.length), Lib.extract_data, mkB_list]
          congr 1
          exact List.take_of_length_le (by simp)
        obtain ⟨D, hD⟩ : ∃ D, mkB r = D := ⟨_, rfl⟩
        obtain ⟨T, hT⟩ : ∃ T, mkB (r.take n) = T := ⟨_, rfl⟩
        obtain ⟨U, hU⟩ : ∃ U, mkB (r.drop n) = U := ⟨_, rfl⟩
        have HV : Hid (textV (toL s) most = .tuple #[.string T, .string U, .int .i64 0]) := Lib.hid (by unfold textV wtakeText; rw [ht]; simp only; rw [if_neg hlt, if_neg h2, ← hT, ← hU])
        rw [hD] at h1 hDs hD1 hD2
        rw [hT] at hD1
        rw [hU] at hD2
        have HC := Lib.hid h1
        have hn0 : (0 : Int) ≤ (n : Int) := by omega
        have hn1 : (n : Int) ≤ (r.length : Int) := by omega
        clear h1 ht hD hT hU bad
        go_enter Tryz.func233, Tryz.ntmps233
        go_wp2_with fail
        refine HC.out.mono ?_
        rintro e w1 ⟨rfl, hb⟩
        have HB := Lib.hid hb
        clear hb
        go_wp2_with fail
        go_quiet (fail)
        go_wp2_with fail
        go_returns
        exact ⟨by rw [HV.out]; rfl, HB.out.trans (((Drawn.refl w1).drewN _).below.mono HB.out.size)⟩
end Go.Proofs.YtckblcfkajpofaaGreatDoor
namespace Go.Proofs.YtckblcfkajpofaaGreatDoor
open Go.RowKit
set_option linter.unusedVariables false
set_option linter.unusedSimpArgs false

theorem wmany_succ (most : Int) (n : Nat) (s : List UInt8) : wmany most (n + 1) s = match wtakeText s most with
    | .error e => .error e
    | .ok (t, r) => match wmany most n r with
      | .error e => .error e
      | .ok (l, q) => .ok (t :: l, q) := rfl
theorem wmany_add (most : Int) : ∀ (a b : Nat) (s : List UInt8), wmany most (a + b) s = match wmany most a s with
    | .error e => .error e
    | .ok (l, q) => match wmany most b q with
      | .error e => .error e
      | .ok (m, p) => .ok (l ++ m, p)
  | 0, b, s => by
    rw [Nat.zero_add]
    show _ = match wmany most b s with
      | Except.error e => Except.error e
      | Except.ok (m, p) => Except.ok ([] ++ m, p)
    cases wmany most b s with
    | error e => rfl
    | ok p => rfl
  | a + 1, b, s => by
    rw [show a + 1 + b = (a + b) + 1 by omega, wmany_succ, wmany_succ]
    cases wtakeText s most with
    | error e => rfl
    | ok p =>
      obtain ⟨t, r⟩ := p
      simp only
      rw [wmany_add most a b r]
      cases wmany most a r with
      | error e => rfl
      | ok p2 =>
        obtain ⟨l, q⟩ := p2
        simp only
        cases wmany most b q with
        | error e => rfl
        | ok p3 => rfl
theorem wmany_one (most : Int) (s : List UInt8) : wmany most 1 s = match wtakeText s most with
    | .error e => .error e
    | .ok (t, r) => .ok ([t], r) := by
  rw [wmany_succ]
  cases wtakeText s most with
  | error e => rfl
  | ok p => rfl
theorem wmany_snoc {most : Int} {k : Nat} {s q r t : List UInt8} {l : List (List UInt8)} (h : wmany most k s = .ok (l, q)) (ht : wtakeText q most = .ok (t, r)) : wmany most (k + 1) s = .ok (l ++ [t], r) := by
  rw [wmany_add, h]; simp only; rw [wmany_one, ht]
theorem wmany_stop {most : Int} {k n : Nat} {s q : List UInt8} {l : List (List UInt8)} {e : Int} (h : wmany most k s = .ok (l, q)) (ht : wtakeText q most = .error e) (hn : k < n) : wmany most n s = .error e := by
  obtain ⟨j, rfl⟩ : ∃ j, n = k + (j + 1) := ⟨n - k - 1, by omega⟩
  rw [wmany_add, h]; simp only
  rw [wmany_succ, ht]
theorem flat_wtext_len (l : List (List UInt8)) : l.length ≤ (l.flatMap wtext).length := by
  induction l with
  | nil => simp
  | cons t l ih =>
    have : 0 < (wtext t).length := by unfold wtext wput; simp
    rw [List.flatMap_cons, List.length_append, List.length_cons]; omega
theorem wmany_len {most : Int} {k : Nat} {s q : List UInt8} {l : List (List UInt8)} (h : wmany most k s = .ok (l, q)) : k + q.length ≤ s.length := by
  obtain ⟨e1, e2, _⟩ := wmany_ok h
  rw [e1, ← e2, List.length_append]
  have := flat_wtext_len l
  omega
theorem wtakeText_err {s : List UInt8} {most e : Int} (h : wtakeText s most = .error e) : e = 2 ∨ e = 10 := by
  unfold wtakeText at h
  cases hs : wtake s with
  | none => rw [hs] at h; cases h; exact .inl rfl
  | some p =>
    rw [hs] at h; simp only at h
    split at h
    · cases h; exact .inr rfl
    · split at h
      · cases h; exact .inl rfl
      · cases h

def exErr {α : Type} : Except Int α → Int
  | .error e => e
  | .ok _ => 0
def exL : Except Int (List (List UInt8)) → List ByteArray
  | .error _ => []
  | .ok l => l.map mkB
set_option maxRecDepth 100000 in
set_option maxHeartbeats 2000000 in
theorem takeall_calls (s : ByteArray) (many most : Int) (w : World) (hs : s.size ≤ 1000000000) (hm : many ≤ 9223372036854775807) (hm2 : most ≤ 9223372036854775807) :
    Calls Tryz.prog 134 #[.string s, .int .i64 many, .int .i64 most] w fun e w' => ∃ v, e = .returned (.tuple #[v, .int .i64 (exErr (wtakeAll (toL s) many most))]) ∧ w'.ownsRow w.heap.size 9 1 v (exL (wtakeAll (toL s) many most)).length (strV (exL (wtakeAll (toL s) many most))) ∧ Below w.heap.size w w' := by
  have h1 := limited_calls s many w (by omega) hm
  obtain ⟨G, hG⟩ : ∃ G, wtakeAll (toL s) many most = G := ⟨_, rfl⟩
  rw [hG]
  have bad : ∀ (er : Int), er ≠ 0 → Calls Tryz.prog 232 #[.string s, .int .i64 many] w (fun e w' => e = .returned (.tuple #[.int .i64 0, .string ⟨#[]⟩, .int .i64 er]) ∧ Below w.heap.size w w') → G = .error er →
      Calls Tryz.prog 134 #[.string s, .int .i64 many, .int .i64 most] w fun e w' => ∃ v, e = .returned (.tuple #[v, .int .i64 (exErr G)]) ∧ w'.ownsRow w.heap.size 9 1 v (exL G).length (strV (exL G)) ∧ Below w.heap.size w w' := by
    intro er her hc hv
    have HC := Lib.hid hc
    subst hv
    have f2 : (er != 0) = true := by simpa using her
    clear hc h1 her hG
    go_enter Tryz.func134, Tryz.ntmps134
    go_wp2_with fail
    refine HC.out.mono ?_
    rintro e w1 ⟨rfl, hb⟩
    have HB := Lib.hid hb
    clear hb
    go_wp2_with fail
    go_returns
    exact ⟨_, rfl, own_nil _ _ _ _, HB.out⟩
  unfold limV at h1
  unfold wtakeAll at hG
  cases ht : wtake (toL s) with
  | none =>
    rw [ht] at h1 hG
    exact bad 2 (by decide) h1 hG.symm
  | some p =>
    obtain ⟨n, r⟩ := p
    rw [ht] at h1 hG
    simp only at h1 hG
    by_cases hlt : max many 0 < n
    · rw [if_pos hlt] at h1 hG
      exact bad 10 (by decide) h1 hG.symm
    · rw [if_neg hlt] at h1 hG
      have hrl : r.length < s.size := by have := wtake_len ht; have h2 : (toL s).length = s.size := list_size s; omega
      have hn63 : (n : Int) ≤ 9223372036854775807 := by omega
      have HC := Lib.hid h1
      have HG := Lib.hid hG
      have hms := mkB_size r
      clear h1 hG bad ht
      go_enter Tryz.func134, Tryz.ntmps134
      go_wp2_with fail
      refine HC.out.mono ?_
      rintro e w1 ⟨rfl, hb⟩
      have HB := Lib.hid hb
      clear hb
      clear hms
      go_wp2_with fail
      go_loopw [9, 10, 11, 12, 24] (fun q er o t i wr => ∃ (k : Nat) (l : List (List UInt8)) (rest : List UInt8), k ≤ n ∧ i = .int .i64 k ∧ q = .string (mkB rest) ∧ er = .int .i64 0 ∧ Hid (wmany most k r = .ok (l, rest)) ∧ Hid (wr.ownsRow w.heap.size 9 1 o (l.map mkB).length (strV (l.map mkB)) ∧ Below w.heap.size w wr)) (fun _ _ _ _ i _ => n - (intOf i).toNat)
      case atStart => exact ⟨0, [], r, Nat.zero_le _, rfl, rfl, rfl, rfl, own_nil _ _ _ _, HB.out⟩
      case round =>
        obtain ⟨k, l, rest, hk, rfl, rfl, rfl, HM, HO⟩ := hrel
        have hkl := wmany_len HM.out
        by_cases hlt2 : k < n
        · have h2 := taketext_calls (mkB rest) most wr (by rw [mkB_size]; omega) hm2
          rw [show toL (mkB rest) = rest from mkB_list rest] at h2
          unfold textV at h2
          cases ht2 : wtakeText rest most with
          | error er =>
            rw [ht2] at h2
            have HT := Lib.hid h2
            have her := wtakeText_err ht2
            have f2 : (er != 0) = true := by rcases her with rfl | rfl <;> rfl
            have HE : Hid (G = .error er) := Lib.hid (by have := HG.out; rw [wmany_stop HM.out ht2 hlt2] at this; exact this.symm)
            clear h2 ht2 her
            go_wp2_with fail
            refine HT.out.mono ?_
            rintro e w2 ⟨rfl, hb⟩
            have HB2 := Lib.hid (HO.out.2.trans (hb.mono HO.out.2.size))
            clear hb
            go_wp2_with fail
            go_returns
            rw [HE.out]
            exact ⟨_, rfl, own_nil _ _ _ _, HB2.out⟩
          | ok p =>
            obtain ⟨t, q⟩ := p
            rw [ht2] at h2
            have HT := Lib.hid h2
            have HN := Lib.hid (wmany_snoc HM.out ht2)
            have hll : l.length = k := (wmany_ok HM.out).2.1
            have hl9 : (l.map mkB).length ≤ 1000000000 := by rw [List.length_map, hll]; omega
            clear h2 ht2 hll
            go_wp2_with fail
            refine HT.out.mono ?_
            rintro e w2 ⟨rfl, hb⟩
            have hown := own_below HO.out.1 hb
            obtain ⟨p', w3, hrun, ho3, hk3⟩ := append_str hown (mkB t) hl9 (Nat.le_trans HO.out.2.size hb.size)
            have HX : Hid (w3.ownsRow w.heap.size 9 1 p' ((l ++ [t]).map mkB).length (strV ((l ++ [t]).map mkB)) ∧ Below w.heap.size w w3) := by
              rw [List.map_append]
              exact ⟨ho3, below_own (HO.out.2.trans (hb.mono HO.out.2.size)) hown hk3⟩
            clear hb hown ho3 hk3
            go_wp2_with (at_builtin; refine wp_append_run rfl _ _ _ rfl rfl rfl hrun ?_)
            clear hrun
            go_wp2_with fail
            go_roundw
            case rel => exact ⟨k + 1, _, _, by omega, by go_num, rfl, rfl, HN, HX⟩
            case measure => simp [intOf]; omega
        · obtain rfl : k = n := by omega
          have hg := HG.out
          rw [HM.out] at hg
          simp only at hg
          by_cases hq : rest = []
          · rw [if_pos hq] at hg
            have HE := Lib.hid hg
            have h3 : (mkB rest).toList = [] := by rw [ByteArray.toList_eq, mkB_list]; exact hq
            clear hg hq
            go_wp2_with fail
            go_returns
            rw [← HE.out]
            exact ⟨_, rfl, HO.out.1, HO.out.2⟩
          · rw [if_neg hq] at hg
            have HE := Lib.hid hg
            have h3 : (mkB rest).toList.isEmpty = false := by
              rw [ByteArray.toList_eq, mkB_list]
              cases rest with
              | nil => exact absurd rfl hq
              | cons x l => rfl
            clear hg hq
            go_wp2_with fail
            go_returns
            rw [← HE.out]
            exact ⟨_, rfl, own_nil _ _ _ _, HO.out.2⟩
end Go.Proofs.YtckblcfkajpofaaGreatDoor
