/- meta: kind, what is looked for in rows, find. meta: find. meta: box, body. -/
import Derived.Test.YtckblcfkajpofaaGreatDoorZA8
import Derived.Test.YtckblcfkajpofaaGreatDoorZA4
namespace Go.Proofs.YtckblcfkajpofaaGreatDoor
open Go.RowKit
set_option linter.unusedVariables false
set_option linter.unusedSimpArgs false

theorem beq_u8 (a b : UInt8) : ((a.toNat : Int) == (b.toNat : Int)) = (a == b) := by
  rw [Bool.eq_iff_iff, beq_iff_eq, beq_iff_eq]
  exact ⟨fun e => UInt8.toNat_inj.1 (by omega), fun e => by rw [e]⟩
theorem mkind_calls (t : ByteArray) (k : UInt8) (w : World) (ht : t.size ≤ 9223372036854775807) : Calls Tryz.prog 166 #[.string t, .int .u8 (k.toNat : Int)] w fun e w' => e = .returned (.bool (kindL (toL t) == k)) ∧ Below w.heap.size w w' := by
  have H := Lib.hid (kind_calls t w ht)
  have hq := beq_u8 (kindL (toL t)) k
  go_enter Tryz.func166, Tryz.ntmps166
  go_wp2_with fail
  refine H.out.mono ?_
  rintro e w1 ⟨rfl, hb⟩
  have HB := Lib.hid hb
  clear hb
  go_wp2_with fail
  go_ret
  exact ⟨rfl, HB.out⟩
/-- no term? -/
theorem build1_calls (t : ByteArray) (w : World) (ht : t.size ≤ 9223372036854775807) : Calls Tryz.prog 150 #[.string t] w fun e w' => e = .returned (.bool (!rightT (toL t))) ∧ Below w.heap.size w w' := by
  have h := kind_calls t w ht
  have hq : (((kindL (toL t)).toNat : Int) == 0) = !rightT (toL t) := by
    rw [show (0 : Int) = ((0 : UInt8).toNat : Int) from rfl, beq_u8, Bool.eq_iff_iff, beq_iff_eq, kindL_right]; simp
  obtain ⟨n, hn⟩ : ∃ n, ((kindL (toL t)).toNat : Int) = n := ⟨_, rfl⟩
  rw [hn] at h hq
  have H := Lib.hid h
  clear h hn
  go_enter Tryz.func150, Tryz.ntmps150
  go_wp2_with fail
  refine H.out.mono ?_
  rintro e w1 ⟨rfl, hb⟩
  have HB := Lib.hid hb
  clear hb
  go_wp2_with fail
  go_ret
  exact ⟨rfl, HB.out⟩

/-! ### the first one in a row -/
def idxI {α : Type} (p : α → Bool) (l : List α) : Int := match l.findIdx? p with
  | some i => i
  | none => -1
theorem any_take_succ {α : Type} {p : α → Bool} {l : List α} {k : Nat} {x : α} (h : l[k]? = some x) : (l.take (k + 1)).any p = ((l.take k).any p || p x) := by rw [take_succ_get2 h]; simp
theorem idx_at {α : Type} {p : α → Bool} {l : List α} {k : Nat} {x : α} (h : l[k]? = some x) (h0 : (l.take k).any p = false) (hp : p x = true) : idxI p l = k := by
  have : l.findIdx? p = some k := by
    rw [List.findIdx?_eq_some_iff_getElem]
    obtain ⟨hlt, hx⟩ := List.getElem?_eq_some_iff.1 h
    refine ⟨hlt, by rw [hx]; exact hp, fun j hj => ?_⟩
    have h1 := List.any_eq_false.1 h0 l[j] (by
      rw [List.mem_iff_getElem?]
      exact ⟨j, by rw [List.getElem?_take_of_lt hj]; exact List.getElem?_eq_getElem _⟩)
    exact h1
  unfold idxI; rw [this]
theorem idx_none {α : Type} {p : α → Bool} {l : List α} (h : l.any p = false) : idxI p l = -1 := by
  have : l.findIdx? p = none := by
    rw [List.findIdx?_eq_none_iff]
    intro x hx
    exact Bool.eq_false_iff.2 (List.any_eq_false.1 h x hx)
  unfold idxI; rw [this]
theorem idx_neg {α : Type} (p : α → Bool) (l : List α) : decide (0 ≤ idxI p l) = l.any p := by
  unfold idxI
  cases h : l.findIdx? p with
  | none =>
    have := List.findIdx?_eq_none_iff.1 h
    have h2 : l.any p = false := List.any_eq_false.2 fun x hx => by rw [this x hx]; simp
    rw [h2]; rfl
  | some i =>
    obtain ⟨hlt, hp, _⟩ := List.findIdx?_eq_some_iff_getElem.1 h
    have h2 : l.any p = true := List.any_eq_true.2 ⟨_, List.getElem_mem hlt, hp⟩
    rw [h2]; simp
theorem idx_lt {α : Type} (p : α → Bool) (l : List α) : idxI p l < l.length := by
  unfold idxI
  cases h : l.findIdx? p with
  | none => simp; omega
  | some i =>
    obtain ⟨hlt, _⟩ := List.findIdx?_eq_some_iff_getElem.1 h
    simpa using hlt
/-- two texts -/
def twoV (x : ByteArray × ByteArray) : List Value := [.string x.1, .string x.2]
theorem rowsOf.cell2 {w : World} {v : Value} {l : List (ByteArray × ByteArray)} (h : rowsOf 2 twoV w v l) {i : Nat} {x : ByteArray × ByteArray} (hx : l[i]? = some x) : ∃ b off c, v = .slice (some ⟨b, off, none⟩) l.length c ∧ l.length ≤ c ∧ l.length ≤ 9223372036854775807 ∧ w.cell? ⟨b, off + i * 2, none⟩ = some (.string x.1) ∧ w.cell? ⟨b, off + i * 2 + 1, none⟩ = some (.string x.2) := by
  obtain ⟨A, c, rfl, h1, h2, h3⟩ := h
  obtain ⟨b, off, rfl, hc⟩ := h3 (by have := (List.getElem?_eq_some_iff.1 hx).1; omega)
  exact ⟨b, off, c, rfl, h1, h2, hc i x hx 0 _ rfl, hc i x hx 1 _ rfl⟩
theorem rowsOf.form {α : Type} {size : Nat} {f : α → List Value} {w : World} {v : Value} {l : List α} (h : rowsOf size f w v l) : ∃ A c, v = .slice A l.length c ∧ l.length ≤ c ∧ l.length ≤ 9223372036854775807 := by
  obtain ⟨A, c, rfl, h1, h2, h3⟩ := h; exact ⟨A, c, rfl, h1, h2⟩
theorem beq_str (a b : ByteArray) : (a.toList == b.toList) = decide (a = b) := by
  rw [Bool.eq_iff_iff, beq_iff_eq, decide_eq_true_eq]
  exact ⟨blist_inj, fun e => by rw [e]⟩
theorem find1_calls (x : ByteArray × ByteArray) (s : ByteArray) (b : Nat) (w : World) (hc : w.cell? ⟨b, 0, none⟩ = some (.string s)) : Calls Tryz.prog 245 #[.agg #[.string x.1, .string x.2], .pointer (some ⟨b, 0, none⟩)] w fun e w' => e = .returned (.bool (decide (x.1 = s))) ∧ Below w.heap.size w w' := by
  obtain ⟨u, v⟩ := x
  have hq := beq_str u s
  have hbl : b < w.heap.size := World.block_lt_of_cell? w _ hc
  go_enter Tryz.func245, Tryz.ntmps245
  go_wp2
  go_ret
  exact ⟨by first | rfl | (rw [← hq]; rfl), (Below.refl _ w).alloc (Nat.le_refl _) _⟩
theorem open1_calls (x : ByteArray × ByteArray) (s : ByteArray) (b : Nat) (w : World) (hc : w.cell? ⟨b, 0, none⟩ = some (.string s)) : Calls Tryz.prog 177 #[.agg #[.string x.1, .string x.2], .pointer (some ⟨b, 0, none⟩)] w fun e w' => e = .returned (.bool (decide (x.1 = s))) ∧ Below w.heap.size w w' := by
  obtain ⟨u, v⟩ := x
  have hq := beq_str u s
  have hbl : b < w.heap.size := World.block_lt_of_cell? w _ hc
  go_enter Tryz.func177, Tryz.ntmps177
  go_wp2
  go_ret
  exact ⟨by first | rfl | (rw [← hq]; rfl), (Below.refl _ w).alloc (Nat.le_refl _) _⟩
set_option maxRecDepth 100000 in
set_option maxHeartbeats 1000000 in
theorem idxKnown_calls (w : World) (v : Value) (l : List (ByteArray × ByteArray)) (s : ByteArray) (b : Nat) (hv : rowsOf 2 twoV w v l) (hc : w.cell? ⟨b, 0, none⟩ = some (.string s)) :
    Calls Tryz.prog 244 #[v, .func (.func 245) #[] #[.pointer (some ⟨b, 0, none⟩)]] w fun e w' => e = .returned (.int .i64 (idxI (fun x => decide (x.1 = s)) l)) ∧ Below w.heap.size w w' := by
  have HV := Lib.hid hv
  have HC := Lib.hid hc
  obtain ⟨A, c, rfl, h1, h2⟩ := hv.form
  clear hv hc
  go_enter Tryz.func244, Tryz.ntmps244
  go_wp2_with fail
  go_loopw [5, 8] (fun j i wr => ∃ k : Nat, k ≤ l.length ∧ i = .int .i64 k ∧ Hid ((l.take k).any (fun x => decide (x.1 = s)) = false ∧ Below w.heap.size w wr)) (fun _ i _ => l.length - (intOf i).toNat)
  case atStart => exact ⟨0, Nat.zero_le _, rfl, by simp, Below.refl _ _⟩
  case round =>
    obtain ⟨k, hk, rfl, HO⟩ := hrel
    by_cases hlt : k < l.length
    · obtain ⟨x, hx⟩ : ∃ x, l[k]? = some x := ⟨_, List.getElem?_eq_getElem hlt⟩
      obtain ⟨bb, off, c', hv', hcc, hll, c0, c1⟩ := (HV.out.below HO.out.2).cell2 hx
      cases hv'
      have hp := find1_calls x s b wr ((Keep.of_below HO.out.2 : Keep (fun _ => False) w wr).cell HC.out fun e => e)
      have HX := Lib.hid hx
      cases hd : decide (x.1 = s) with
      | true =>
        rw [hd] at hp
        have HP := Lib.hid hp
        have HE := Lib.hid (idx_at hx HO.out.1 hd)
        clear hx hp hd
        go_wp2_with fail
        refine HP.out.mono ?_
        rintro e w2 ⟨rfl, hb⟩
        have HB2 := Lib.hid (HO.out.2.trans (hb.mono HO.out.2.size))
        clear hb
        go_wp2_with fail
        go_ret
        exact ⟨by rw [HE.out]; rfl, HB2.out⟩
      | false =>
        rw [hd] at hp
        have HP := Lib.hid hp
        have HN : Hid ((l.take (k + 1)).any (fun x => decide (x.1 = s)) = false) := Lib.hid (by rw [any_take_succ hx, HO.out.1, hd]; rfl)
        clear hx hp hd
        go_wp2_with fail
        refine HP.out.mono ?_
        rintro e w2 ⟨rfl, hb⟩
        have HB2 := Lib.hid (HO.out.2.trans (hb.mono HO.out.2.size))
        clear hb
        go_wp2_with fail
        go_roundw
        case rel => exact ⟨k + 1, by omega, by go_num, HN.out, HB2.out⟩
        case measure => simp [intOf]; omega
    · obtain rfl : k = l.length := by omega
      have HE : Hid (idxI (fun x : ByteArray × ByteArray => decide (x.1 = s)) l = -1) := Lib.hid (idx_none (by have := HO.out.1; rwa [List.take_length] at this))
      go_wp2_with fail
      go_ret
      exact ⟨by rw [HE.out]; rfl, HO.out.2⟩
set_option maxRecDepth 100000 in
set_option maxHeartbeats 1000000 in
theorem idxBlock_calls (w : World) (v : Value) (l : List (ByteArray × ByteArray)) (s : ByteArray) (b : Nat) (hv : rowsOf 2 twoV w v l) (hc : w.cell? ⟨b, 0, none⟩ = some (.string s)) :
    Calls Tryz.prog 176 #[v, .func (.func 177) #[] #[.pointer (some ⟨b, 0, none⟩)]] w fun e w' => e = .returned (.int .i64 (idxI (fun x => decide (x.1 = s)) l)) ∧ Below w.heap.size w w' := by
  have HV := Lib.hid hv
  have HC := Lib.hid hc
  obtain ⟨A, c, rfl, h1, h2⟩ := hv.form
  clear hv hc
  go_enter Tryz.func176, Tryz.ntmps176
  go_wp2_with fail
  go_loopw [5, 8] (fun j i wr => ∃ k : Nat, k ≤ l.length ∧ i = .int .i64 k ∧ Hid ((l.take k).any (fun x => decide (x.1 = s)) = false ∧ Below w.heap.size w wr)) (fun _ i _ => l.length - (intOf i).toNat)
  case atStart => exact ⟨0, Nat.zero_le _, rfl, by simp, Below.refl _ _⟩
  case round =>
    obtain ⟨k, hk, rfl, HO⟩ := hrel
    by_cases hlt : k < l.length
    · obtain ⟨x, hx⟩ : ∃ x, l[k]? = some x := ⟨_, List.getElem?_eq_getElem hlt⟩
      obtain ⟨bb, off, c', hv', hcc, hll, c0, c1⟩ := (HV.out.below HO.out.2).cell2 hx
      cases hv'
      have hp := open1_calls x s b wr ((Keep.of_below HO.out.2 : Keep (fun _ => False) w wr).cell HC.out fun e => e)
      have HX := Lib.hid hx
      cases hd : decide (x.1 = s) with
      | true =>
        rw [hd] at hp
        have HP := Lib.hid hp
        have HE := Lib.hid (idx_at hx HO.out.1 hd)
        clear hx hp hd
        go_wp2_with fail
        refine HP.out.mono ?_
        rintro e w2 ⟨rfl, hb⟩
        have HB2 := Lib.hid (HO.out.2.trans (hb.mono HO.out.2.size))
        clear hb
        go_wp2_with fail
        go_ret
        exact ⟨by rw [HE.out]; rfl, HB2.out⟩
      | false =>
        rw [hd] at hp
        have HP := Lib.hid hp
        have HN : Hid ((l.take (k + 1)).any (fun x => decide (x.1 = s)) = false) := Lib.hid (by rw [any_take_succ hx, HO.out.1, hd]; rfl)
        clear hx hp hd
        go_wp2_with fail
        refine HP.out.mono ?_
        rintro e w2 ⟨rfl, hb⟩
        have HB2 := Lib.hid (HO.out.2.trans (hb.mono HO.out.2.size))
        clear hb
        go_wp2_with fail
        go_roundw
        case rel => exact ⟨k + 1, by omega, by go_num, HN.out, HB2.out⟩
        case measure => simp [intOf]; omega
    · obtain rfl : k = l.length := by omega
      have HE : Hid (idxI (fun x : ByteArray × ByteArray => decide (x.1 = s)) l = -1) := Lib.hid (idx_none (by have := HO.out.1; rwa [List.take_length] at this))
      go_wp2_with fail
      go_ret
      exact ⟨by rw [HE.out]; rfl, HO.out.2⟩
set_option maxRecDepth 100000 in
set_option maxHeartbeats 1000000 in
theorem idxStr_calls (K : FuncId) (hK : ∀ args w, (callFunc K args).run Tryz.prog w = .ok (.enter K args) w) (p : ByteArray → Bool) (w : World) (v : Value) (l : List ByteArray) (hv : strs w v l)
    (hp : ∀ x ∈ l, ∀ w', Below w.heap.size w w' → Calls Tryz.prog K #[.string x] w' fun e w'' => e = .returned (.bool (p x)) ∧ Below w'.heap.size w' w'') :
    Calls Tryz.prog 237 #[v, .func (.func K) #[] #[]] w fun e w' => e = .returned (.int .i64 (idxI p l)) ∧ Below w.heap.size w w' := by
  have HV := Lib.hid hv
  have HP0 := Lib.hid hp
  obtain ⟨A, c, rfl, h1, h2⟩ := hv.form
  clear hv hp
  go_enter Tryz.func237, Tryz.ntmps237
  go_wp2_with fail
  go_loopw [5, 8] (fun j i wr => ∃ k : Nat, k ≤ l.length ∧ i = .int .i64 k ∧ Hid ((l.take k).any p = false ∧ Below w.heap.size w wr)) (fun _ i _ => l.length - (intOf i).toNat)
  case atStart => exact ⟨0, Nat.zero_le _, rfl, by simp, Below.refl _ _⟩
  case round =>
    obtain ⟨k, hk, rfl, HO⟩ := hrel
    by_cases hlt : k < l.length
    · obtain ⟨x, hx⟩ : ∃ x, l[k]? = some x := ⟨_, List.getElem?_eq_getElem hlt⟩
      obtain ⟨bb, off, c', hv', hcc, hll, c0⟩ := (HV.out.below HO.out.2).cell hx
      cases hv'
      have hp := HP0.out x (List.mem_of_getElem? hx) wr HO.out.2
      cases hd : p x with
      | true =>
        rw [hd] at hp
        have HP := Lib.hid hp
        have HE := Lib.hid (idx_at hx HO.out.1 hd)
        clear hx hp hd
        go_wp2_with fail
        refine HP.out.mono ?_
        rintro e w2 ⟨rfl, hb⟩
        have HB2 := Lib.hid (HO.out.2.trans (hb.mono HO.out.2.size))
        clear hb
        go_wp2_with fail
        go_ret
        exact ⟨by rw [HE.out]; rfl, HB2.out⟩
      | false =>
        rw [hd] at hp
        have HP := Lib.hid hp
        have HN : Hid ((l.take (k + 1)).any p = false) := Lib.hid (by rw [any_take_succ hx, HO.out.1, hd]; rfl)
        clear hx hp hd
        go_wp2_with fail
        refine HP.out.mono ?_
        rintro e w2 ⟨rfl, hb⟩
        have HB2 := Lib.hid (HO.out.2.trans (hb.mono HO.out.2.size))
        clear hb
        go_wp2_with fail
        go_roundw
        case rel => exact ⟨k + 1, by omega, by go_num, HN.out, HB2.out⟩
        case measure => simp [intOf]; omega
    · obtain rfl : k = l.length := by omega
      have HE : Hid (idxI p l = -1) := Lib.hid (idx_none (by have := HO.out.1; rwa [List.take_length] at this))
      go_wp2_with fail
      go_ret
      exact ⟨by rw [HE.out]; rfl, HO.out.2⟩
theorem hasStr_calls (K : FuncId) (hK : ∀ args w, (callFunc K args).run Tryz.prog w = .ok (.enter K args) w) (p : ByteArray → Bool) (w : World) (v : Value) (l : List ByteArray) (hv : strs w v l)
    (hp : ∀ x ∈ l, ∀ w', Below w.heap.size w w' → Calls Tryz.prog K #[.string x] w' fun e w'' => e = .returned (.bool (p x)) ∧ Below w'.heap.size w' w'') :
    Calls Tryz.prog 144 #[v, .func (.func K) #[] #[]] w fun e w' => e = .returned (.bool (l.any p)) ∧ Below w.heap.size w w' := by
  have hi := idxStr_calls K hK p w v l hv hp
  have hq := idx_neg p l
  have hlo : -1 ≤ idxI p l := by unfold idxI; split <;> omega
  obtain ⟨n, hn⟩ : ∃ n, idxI p l = n := ⟨_, rfl⟩
  rw [hn] at hi hq hlo
  have HI := Lib.hid hi
  obtain ⟨b, hb⟩ : ∃ b, l.any p = b := ⟨_, rfl⟩
  rw [hb] at hq ⊢
  obtain ⟨A, c, rfl, h1, h2⟩ := hv.form
  clear hi hn hv hp hb
  go_enter Tryz.func144, Tryz.ntmps144
  go_wp2_with fail
  refine HI.out.mono ?_
  rintro e w1 ⟨rfl, hb⟩
  have HB := Lib.hid hb
  clear hb
  go_wp2_with fail
  go_ret
  exact ⟨by first | rfl | (rw [← hq]; rfl), HB.out⟩
theorem enters_build1 : ∀ args w, (callFunc 150 args).run Tryz.prog w = .ok (.enter 150 args) w := enters_of Tryz.func150 (by kernel_rfl) rfl
end Go.Proofs.YtckblcfkajpofaaGreatDoor
namespace Go.Proofs.YtckblcfkajpofaaGreatDoor
open Go.RowKit
set_option linter.unusedVariables false
set_option linter.unusedSimpArgs false

/-! ### one by one, till one errs -/
def mapE {α β : Type} (f : α → Except Int β) : List α → Except Int (List β)
  | [] => .ok []
  | x :: l => match f x with
    | .error e => .error e
    | .ok y => match mapE f l with
      | .error e => .error e
      | .ok m => .ok (y :: m)
theorem mapE_cons {α β : Type} (f : α → Except Int β) (x : α) (l : List α) : mapE f (x :: l) = match f x with
    | .error e => .error e
    | .ok y => match mapE f l with
      | .error e => .error e
      | .ok m => .ok (y :: m) := rfl
theorem mapE_app {α β : Type} (f : α → Except Int β) : ∀ l k : List α, mapE f (l ++ k) = match mapE f l with
    | .error e => .error e
    | .ok m => match mapE f k with
      | .error e => .error e
      | .ok n => .ok (m ++ n)
  | [], k => by
    show _ = match mapE f k with
      | Except.error e => Except.error e
      | Except.ok n => Except.ok ([] ++ n)
    rw [List.nil_append]
    cases mapE f k <;> rfl
  | x :: l, k => by
    rw [List.cons_append, mapE_cons, mapE_cons]
    cases f x with
    | error e => rfl
    | ok y =>
      simp only
      rw [mapE_app f l k]
      cases mapE f l with
      | error e => rfl
      | ok m =>
        simp only
        cases mapE f k <;> rfl
theorem mapE_snoc {α β : Type} {f : α → Except Int β} {l : List α} {k : Nat} {x : α} {y : β} {m : List β} (h : mapE f (l.take k) = .ok m) (hx : l[k]? = some x) (hy : f x = .ok y) : mapE f (l.take (k + 1)) = .ok (m ++ [y]) := by
  rw [take_succ_get2 hx, mapE_app, h]; simp only; rw [mapE_cons, hy]; rfl
theorem mapE_stop {α β : Type} {f : α → Except Int β} {l : List α} {k : Nat} {x : α} {e : Int} {m : List β} (h : mapE f (l.take k) = .ok m) (hx : l[k]? = some x) (hy : f x = .error e) : mapE f l = .error e := by
  have hlt := (List.getElem?_eq_some_iff.1 hx).1
  have : l = l.take k ++ (x :: l.drop (k + 1)) := by
    rw [← (List.getElem?_eq_some_iff.1 hx).2, ← List.drop_eq_getElem_cons hlt, List.take_append_drop]
  rw [this, mapE_app, h]; simp only; rw [mapE_cons, hy]
theorem mapE_len {α β : Type} {f : α → Except Int β} : ∀ {l : List α} {m : List β}, mapE f l = .ok m → m.length = l.length
  | [], m, h => by cases h; rfl
  | x :: l, m, h => by
    rw [mapE_cons] at h
    cases hx : f x with
    | error e => rw [hx] at h; cases h
    | ok y =>
      rw [hx] at h; simp only at h
      cases hl : mapE f l with
      | error e => rw [hl] at h; cases h
      | ok k => rw [hl] at h; cases h; simp [mapE_len hl]
theorem mapE_get {α β : Type} {f : α → Except Int β} : ∀ {l : List α} {m : List β} {i : Nat} {x : α}, mapE f l = .ok m → l[i]? = some x → ∃ y, m[i]? = some y ∧ f x = .ok y
  | [], m, i, x, h, hx => by simp at hx
  | a :: l, m, i, x, h, hx => by
    rw [mapE_cons] at h
    cases ha : f a with
    | error e => rw [ha] at h; cases h
    | ok y =>
      rw [ha] at h; simp only at h
      cases hl : mapE f l with
      | error e => rw [hl] at h; cases h
      | ok k =>
        rw [hl] at h; cases h
        cases i with
        | zero => simp at hx; subst hx; exact ⟨y, rfl, ha⟩
        | succ i =>
          obtain ⟨z, h1, h2⟩ := mapE_get (i := i) hl (by simpa using hx)
          exact ⟨z, by simpa using h1, h2⟩

abbrev Knowns := List (ByteArray × ByteArray)
def pubOf (kn : Knowns) (s : ByteArray) : Except Int ByteArray := match kn.find? fun x => decide (x.1 = s) with
  | none => .error 4
  | some x => if kindL (toL x.2) = 117 then .ok x.2 else .error 1
def exLB : Except Int (List ByteArray) → List ByteArray
  | .error _ => []
  | .ok l => l
theorem idx_find {α : Type} {p : α → Bool} {l : List α} : (idxI p l = -1 ∧ l.find? p = none) ∨ ∃ (i : Nat) (x : α), idxI p l = i ∧ l[i]? = some x ∧ l.find? p = some x := by
  unfold idxI
  cases h : l.findIdx? p with
  | none =>
    refine .inl ⟨rfl, ?_⟩
    rw [List.find?_eq_none]
    intro x hx
    rw [List.findIdx?_eq_none_iff.1 h x hx]; simp
  | some i =>
    obtain ⟨hlt, hp, hb⟩ := List.findIdx?_eq_some_iff_getElem.1 h
    refine .inr ⟨i, l[i], rfl, List.getElem?_eq_getElem hlt, ?_⟩
    rw [List.find?_eq_some_iff_getElem]
    exact ⟨hp, i, hlt, rfl, fun j hj => by simpa using hb j hj⟩
set_option maxRecDepth 100000 in
set_option maxHeartbeats 2000000 in
theorem find_calls (w : World) (vn vk : Value) (l : List ByteArray) (kn : Knowns) (hn : strs w vn l) (hk : rowsOf 2 twoV w vk kn) (hl : l.length ≤ 1000000) (hsz : ∀ x ∈ kn, x.2.size ≤ 9223372036854775807) :
    Calls Tryz.prog 153 #[vn, vk] w fun e w' => ∃ v, e = .returned (.tuple #[v, .int .i64 (exErr (mapE (pubOf kn) l))]) ∧ w'.ownsRow w.heap.size 9 1 v (exLB (mapE (pubOf kn) l)).length (strV (exLB (mapE (pubOf kn) l))) ∧ Below w.heap.size w w' := by
  obtain ⟨G, hG⟩ : ∃ G, mapE (pubOf kn) l = G := ⟨_, rfl⟩
  rw [hG]
  have HG := Lib.hid hG
  have HN := Lib.hid hn
  have HK := Lib.hid hk
  have HSZ := Lib.hid hsz
  obtain ⟨A, c, rfl, a1, a2⟩ := hn.form
  obtain ⟨A2, c2, rfl, b1, b2⟩ := hk.form
  clear hn hk hsz hG
  go_enter Tryz.func153, Tryz.ntmps153
  go_wp2_with fail
  go_loopw [6, 12] (fun o i wr => ∃ (k : Nat) (m : List ByteArray), k ≤ l.length ∧ i = .int .i64 k ∧ Hid (mapE (pubOf kn) (l.take k) = .ok m) ∧ Hid (wr.ownsRow w.heap.size 9 1 o m.length (strV m) ∧ Below w.heap.size w wr)) (fun _ i _ => l.length - (intOf i).toNat)
  case atStart => exact ⟨0, [], Nat.zero_le _, rfl, rfl, own_nil _ _ _ _, Below.refl _ _⟩
  case round =>
    obtain ⟨k, m, hk, rfl, HM, HO⟩ := hrel
    by_cases hlt : k < l.length
    · obtain ⟨x, hx⟩ : ∃ x, l[k]? = some x := ⟨_, List.getElem?_eq_getElem hlt⟩
      obtain ⟨b, off, c', hv', hcc, hll, hcell⟩ := (HN.out.below HO.out.2).cell hx
      cases hv'
      obtain ⟨W, hW⟩ : ∃ W, wr.alloc (.cells #[.string x] 9) = W := ⟨_, rfl⟩
      have hbW : Below wr.heap.size wr W := by rw [← hW]; exact (Below.refl _ wr).alloc (Nat.le_refl _) _
      have hbW2 : Below w.heap.size w W := HO.out.2.trans (hbW.mono HO.out.2.size)
      have hcW : W.cell? ⟨wr.heap.size, 0, none⟩ = some (.string x) := by rw [← hW]; exact cell_one_new wr _ _ 0 _ rfl
      have hidx := idxKnown_calls W _ kn x wr.heap.size (HK.out.below hbW2) hcW
      have HX := Lib.hid hx
      rcases idx_find (p := fun y : ByteArray × ByteArray => decide (y.1 = x)) (l := kn) with ⟨h1, h2⟩ | ⟨i, y, h1, hy, h2⟩
      · rw [h1] at hidx
        have HI := Lib.hid hidx
        have HE : Hid (G = .error 4) := Lib.hid (by rw [← HG.out]; exact mapE_stop HM.out hx (by unfold pubOf; rw [h2]))
        have HBW := Lib.hid hbW2
        clear hx h1 h2 hidx hbW hbW2
        go_wp2_with fail
        refine HI.out.mono ?_
        rintro e w1 ⟨rfl, hb⟩
        have HB := Lib.hid (HBW.out.trans (hb.mono HBW.out.size))
        clear hb hW
        go_wp2_with fail
        go_ret2
        rw [HE.out]
        exact ⟨_, rfl, own_nil _ _ _ _, HB.out⟩
      · rw [h1] at hidx
        have HI := Lib.hid hidx
        have HBW := Lib.hid hbW2
        have HY := Lib.hid hy
        have hil := (List.getElem?_eq_some_iff.1 hy).1
        have hy2 := HSZ.out y (List.mem_of_getElem? hy)
        have hi0 : (0 : Int) ≤ (i : Int) := by omega
        have hi1 : (i : Int) < (kn.length : Int) := by omega
        have hpo : pubOf kn x = if kindL (toL y.2) = 117 then .ok y.2 else .error 1 := by unfold pubOf; rw [h2]
        have HWb := Lib.hid hbW
        clear hx h1 h2 hidx hbW hbW2 hy
        go_wp2_with fail
        refine HI.out.mono ?_
        rintro e w1 ⟨rfl, hb⟩
        have hb1 := HBW.out.trans (hb.mono HBW.out.size)
        have HB := Lib.hid hb1
        have hb1r := HWb.out.trans (hb.mono HWb.out.size)
        have HBR := Lib.hid hb1r
        obtain ⟨bk, ok, ck, hvk, _, _, d0, d1⟩ := (HK.out.below hb1).cell2 HY.out
        cases hvk
        have hkd := mkind_calls y.2 117 w1 hy2
        cases hq : (kindL (toL y.2) == 117) with
        | false =>
          rw [hq] at hkd
          have HKD := Lib.hid hkd
          have hne : kindL (toL y.2) ≠ 117 := by simpa using hq
          rw [if_neg hne] at hpo
          have HE : Hid (G = .error 1) := Lib.hid (by rw [← HG.out]; exact mapE_stop HM.out HX.out hpo)
          clear hb hW hkd hq hne hpo hb1 hb1r
          go_wp2_with fail
          refine HKD.out.mono ?_
          rintro e w2 ⟨rfl, hb⟩
          have HB2 := Lib.hid (HB.out.trans (hb.mono HB.out.size))
          clear hb
          go_wp2_with fail
          go_ret2
          rw [HE.out]
          exact ⟨_, rfl, own_nil _ _ _ _, HB2.out⟩
        | true =>
          rw [hq] at hkd
          have HKD := Lib.hid hkd
          have heq : kindL (toL y.2) = 117 := by simpa using hq
          rw [if_pos heq] at hpo
          have HN2 := Lib.hid (mapE_snoc HM.out HX.out hpo)
          have hml : m.length ≤ 1000000 := by have := mapE_len HM.out; rw [List.length_take] at this; omega
          clear hb hW hkd hq heq hpo hb1 hb1r
          go_wp2_with fail
          refine HKD.out.mono ?_
          rintro e w2 ⟨rfl, hb⟩
          have hb2 := HB.out.trans (hb.mono HB.out.size)
          have hb2r := HBR.out.trans (hb.mono HBR.out.size)
          have hown := own_below HO.out.1 hb2r
          obtain ⟨bk', ok', ck', hvk', _, _, e0, e1⟩ := (HK.out.below hb2).cell2 HY.out
          cases hvk'
          obtain ⟨p', w3, hrun, ho3, hk3⟩ := append_str hown y.2 (by omega) hb2.size
          have HNX : Hid (w3.ownsRow w.heap.size 9 1 p' (m ++ [y.2]).length (strV (m ++ [y.2])) ∧ Below w.heap.size w w3) := Lib.hid ⟨ho3, below_own hb2 hown hk3⟩
          clear hb hb2 hb2r hown ho3 hk3 d0 d1
          go_wp2_with (at_builtin; refine wp_append_run rfl _ _ _ rfl rfl rfl hrun ?_)
          clear hrun
          go_wp2_with fail
          go_roundw
          case rel => exact ⟨k + 1, m ++ [y.2], by omega, by go_num, HN2, HNX⟩
          case measure => simp [intOf]; omega
    · obtain rfl : k = l.length := by omega
      have HE : Hid (G = .ok m) := Lib.hid (by rw [← HG.out]; have := HM.out; rwa [List.take_length] at this)
      go_wp2_with fail
      go_ret2
      rw [HE.out]
      exact ⟨_, rfl, HO.out.1, HO.out.2⟩
end Go.Proofs.YtckblcfkajpofaaGreatDoor
namespace Go.Proofs.YtckblcfkajpofaaGreatDoor
open Go.RowKit
set_option linter.unusedVariables false
set_option linter.unusedSimpArgs false

def boxR (r : Rt) (user root signer pub : ByteArray) : Except Int (List UInt8) := match stateT (toL root) r.epoch with
  | .error e => .error e
  | .ok t => match ofTwo 112 t (if r.can user true then toL signer else [116, 0]) with
    | .error e => .error e
    | .ok p => boxT (toL pub) p
theorem ofText_nil : ofText [] = .ok [116, 0] := by
  have h1 : wtext [] = [0] := by unfold wtext wput; rw [List.length_nil, digs_zero]; rfl
  unfold ofText
  rw [h1, if_neg (by decide)]
theorem backT_ok {s t : List UInt8} {n : Int} (h : backT s n = .ok t) : rightT t = true := by
  unfold backT at h
  split at h
  · cases h
  · rename_i hc
    have hr : rightT s = true := by
      cases hs : rightT s with
      | true => rfl
      | false => exact absurd (Or.inl hs) hc
    have : ∀ (k : Nat) (u : List UInt8), rightT u = true → hashN k u = .ok t → rightT t = true := by
      intro k
      induction k with
      | zero => intro u hu h; cases h; exact hu
      | succ k ih =>
        intro u hu h
        rw [hashN_succ] at h
        cases ho : ofOne 104 u with
        | error e => rw [ho] at h; cases h
        | ok q => rw [ho] at h; exact ih q (ofOne_ok ho).2.1 h
    exact this _ s hr h
theorem stateT_ok {s t : List UInt8} {n : Int} (h : stateT s n = .ok t) : rightT t = true ∧ rightT s = true ∧ 0 ≤ n ∧ n < 8 := by
  unfold stateT at h
  split at h
  · cases h
  · rename_i h1
    split at h
    · cases h
    · rename_i h2
      exact ⟨backT_ok h, by simpa using h1, by omega, by omega⟩
theorem ofTwo_okM {k : UInt8} {a b t : List UInt8} (h : ofTwo k a b = .ok t) : rightT a = true ∧ rightT b = true ∧ rightT t = true ∧ t = k :: (a ++ b) := by
  unfold ofTwo made at h
  split at h
  · rename_i h1
    rw [Bool.and_eq_true] at h1
    split at h
    · rename_i h2; cases h; exact ⟨h1.1, h1.2, h2, rfl⟩
    · cases h
  · cases h
theorem ofTwo_errM {k : UInt8} {a b : List UInt8} {e : Int} (h : ofTwo k a b = .error e) : e = 1 ∨ e = 10 := by
  unfold ofTwo made at h
  split at h
  · split at h
    · cases h
    · cases h; exact .inr rfl
  · cases h; exact .inl rfl
theorem stateT_err {s : List UInt8} {n e : Int} (h : stateT s n = .error e) : e ≠ 0 := by
  unfold stateT at h
  split at h
  · cases h; decide
  · split at h
    · cases h; decide
    · unfold backT at h
      split at h
      · cases h; decide
      · have : ∀ (k : Nat) (u : List UInt8), hashN k u = .error e → e ≠ 0 := by
          intro k
          induction k with
          | zero => intro u h; cases h
          | succ k ih =>
            intro u h
            rw [hashN_succ] at h
            cases ho : ofOne 104 u with
            | error e' =>
              rw [ho] at h; cases h
              rcases ofOne_err ho with rfl | rfl <;> decide
            | ok q => rw [ho] at h; exact ih q h
        exact this _ _ h
set_option maxRecDepth 100000 in
set_option maxHeartbeats 2000000 in
theorem box_r_calls (w : World) (r : Rt) (vr vw : Value) (user root signer pub : ByteArray) (hl : Lists w r vr vw) (hT : Tabs w) (hw : r.wf) (h1 : user.size ≤ 9223372036854775807) (h2 : root.size ≤ 9223372036854775807) (h3 : signer.size ≤ 9223372036854775807) (h4 : pub.size ≤ 9223372036854775807) :
    Calls Tryz.prog 155 #[agR r vr vw, .string user, .string root, .string signer, .string pub] w fun e w' => e = .returned (exV (boxR r user root signer pub)) ∧ Below w.heap.size w w' := by
  have HX := Lib.hid (rt_box hl hT)
  obtain ⟨A, ca, rfl, a1, a2, _⟩ := hl.rd
  obtain ⟨C, cb, rfl, b1, b2, _⟩ := hl.wr
  have hCan := fun w' (h : RtAt w w' w.heap.size r (.slice A r.rd.length ca) (.slice C r.wr.length cb)) => can_calls w' r _ _ user true h.lists h.tabs hw
  have hTx := fun w' => oftext_calls ⟨#[]⟩ w' (by decide)
  rw [show toL ⟨#[]⟩ = [] from rfl, ofText_nil] at hTx
  have hSt := fun w' => state_calls root r.epoch w' h2 hw.lo hw.hi
  obtain ⟨ow, fi, ep, rd, wr'⟩ := r
  dsimp only [rtCells, agR] at HX hCan hSt ⊢
  obtain ⟨G, hG⟩ : ∃ G, exV (boxR ⟨ow, fi, ep, rd, wr'⟩ user root signer pub) = G := ⟨_, rfl⟩
  rw [hG]
  have HG := Lib.hid hG
  have HTx := Lib.hid hTx
  clear hG hl hT hTx
  -- what stands in second
  have key : ∀ (sec : ByteArray) (b : Bool), Rt.can ⟨ow, fi, ep, rd, wr'⟩ user true = b → sec = (if b then signer else mkB [116, 0]) → sec.size ≤ 9223372036854775807 →
      Calls Tryz.prog 155 #[.agg #[.string ow, .string fi, .int .i64 ep, .slice A rd.length ca, .slice C wr'.length cb], .string user, .string root, .string signer, .string pub] w fun e w' => e = .returned G ∧ Below w.heap.size w w' := by
    intro sec b hb hsec hsz
    have HCan := Lib.hid hCan
    have hsl : toL sec = if Rt.can ⟨ow, fi, ep, rd, wr'⟩ user true then toL signer else [116, 0] := by
      rw [hb, hsec]; cases b <;> rfl
    cases hst : stateT (toL root) ep with
    | error er =>
      rw [hst] at hSt
      have HSt := Lib.hid hSt
      have HE : Hid (G = .tuple #[.string ⟨#[]⟩, .int .i64 er]) := Lib.hid (by rw [← HG.out]; unfold boxR; simp only; rw [hst]; rfl)
      have f1 : (er == 0) = false := by simpa using stateT_err hst
      simp only [hb] at HCan
      simp only [exV] at HSt
      clear hSt hst hCan hsl
      cases b with
      | true =>
        simp only [if_true] at hsec
        subst hsec
        go_enter Tryz.func155, Tryz.ntmps155
        go_wp2_with fail
        refine (HTx.out _).mono ?_
        rintro e w1 ⟨rfl, hbl⟩
        have X1 := Lib.hid (HX.out.next hbl)
        clear hbl
        simp only [exV]
        obtain ⟨c0, c1, c2, c3, c4⟩ := X1.out.cells5
        go_wp2_with fail
        refine (HCan.out _ X1.out).mono ?_
        rintro e w2 ⟨rfl, hbl⟩
        have X2 := Lib.hid (X1.out.next hbl)
        clear hbl c0 c1 c2 c3 c4
        obtain ⟨c0, c1, c2, c3, c4⟩ := X2.out.cells5
        go_wp2_with fail
        refine (HSt.out _).mono ?_
        rintro e w3 ⟨rfl, hbl⟩
        have B3 := Lib.hid (X2.out.below.trans (hbl.mono X2.out.below.size))
        clear hbl c0 c1 c2 c3 c4
        go_wp2_with fail
        go_ret2
        exact ⟨by rw [HE.out]; rfl, B3.out⟩
      | false =>
        simp only [Bool.false_eq_true, if_false] at hsec
        subst hsec
        go_enter Tryz.func155, Tryz.ntmps155
        go_wp2_with fail
        refine (HTx.out _).mono ?_
        rintro e w1 ⟨rfl, hbl⟩
        have X1 := Lib.hid (HX.out.next hbl)
        clear hbl
        simp only [exV]
        obtain ⟨c0, c1, c2, c3, c4⟩ := X1.out.cells5
        go_wp2_with fail
        refine (HCan.out _ X1.out).mono ?_
        rintro e w2 ⟨rfl, hbl⟩
        have X2 := Lib.hid (X1.out.next hbl)
        clear hbl c0 c1 c2 c3 c4
        obtain ⟨c0, c1, c2, c3, c4⟩ := X2.out.cells5
        go_wp2_with fail
        refine (HSt.out _).mono ?_
        rintro e w3 ⟨rfl, hbl⟩
        have B3 := Lib.hid (X2.out.below.trans (hbl.mono X2.out.below.size))
        clear hbl c0 c1 c2 c3 c4
        go_wp2_with fail
        go_ret2
        exact ⟨by rw [HE.out]; rfl, B3.out⟩
    | ok t =>
      rw [hst] at hSt
      have HSt := Lib.hid hSt
      have htr := (stateT_ok hst).1
      have hts : (mkB t).size ≤ 9223372036854775807 := by rw [mkB_size]; have := right_len htr; omega
      have hOf := fun w' => ofpair_calls (mkB t) sec w' hts hsz
      rw [show toL (mkB t) = t from mkB_list t, hsl] at hOf
      obtain ⟨T, hT⟩ : ∃ T, mkB t = T := ⟨_, rfl⟩
      simp only [exV, hT] at HSt
      rw [hT] at hts
      simp only [hT] at hOf
      have hG2 : boxR ⟨ow, fi, ep, rd, wr'⟩ user root signer pub = match ofTwo 112 t (if Rt.can ⟨ow, fi, ep, rd, wr'⟩ user true then toL signer else [116, 0]) with
        | .error e => .error e
        | .ok p => boxT (toL pub) p := by unfold boxR; simp only; rw [hst]
      cases ho : ofTwo 112 t (if Rt.can ⟨ow, fi, ep, rd, wr'⟩ user true then toL signer else [116, 0]) with
      | error er =>
        rw [ho] at hOf hG2
        have HE : Hid (G = .tuple #[.string ⟨#[]⟩, .int .i64 er]) := Lib.hid (by rw [← HG.out, hG2]; rfl)
        have f1 : (er == 0) = false := by rcases ofTwo_errM ho with rfl | rfl <;> rfl
        simp only [exV] at hOf
        have HOf := Lib.hid hOf
        simp only [hb] at HCan
        clear hSt hst hCan hsl ho hG2 hOf htr hT
        cases b with
        | true =>
          simp only [if_true] at hsec
          subst hsec
          go_enter Tryz.func155, Tryz.ntmps155
          go_wp2_with fail
          refine (HTx.out _).mono ?_
          rintro e w1 ⟨rfl, hbl⟩
          have X1 := Lib.hid (HX.out.next hbl)
          clear hbl
          simp only [exV]
          obtain ⟨c0, c1, c2, c3, c4⟩ := X1.out.cells5
          go_wp2_with fail
          refine (HCan.out _ X1.out).mono ?_
          rintro e w2 ⟨rfl, hbl⟩
          have X2 := Lib.hid (X1.out.next hbl)
          clear hbl c0 c1 c2 c3 c4
          obtain ⟨c0, c1, c2, c3, c4⟩ := X2.out.cells5
          go_wp2_with fail
          refine (HSt.out _).mono ?_
          rintro e w3 ⟨rfl, hbl⟩
          have B3 := Lib.hid (X2.out.below.trans (hbl.mono X2.out.below.size))
          clear hbl c0 c1 c2 c3 c4
          go_wp2_with fail
          refine (HOf.out _).mono ?_
          rintro e w4 ⟨rfl, hbl⟩
          have B4 := Lib.hid (B3.out.trans (hbl.mono B3.out.size))
          clear hbl
          go_wp2_with fail
          go_ret2
          exact ⟨by rw [HE.out]; rfl, B4.out⟩
        | false =>
          simp only [Bool.false_eq_true, if_false] at hsec
          subst hsec
          go_enter Tryz.func155, Tryz.ntmps155
          go_wp2_with fail
          refine (HTx.out _).mono ?_
          rintro e w1 ⟨rfl, hbl⟩
          have X1 := Lib.hid (HX.out.next hbl)
          clear hbl
          simp only [exV]
          obtain ⟨c0, c1, c2, c3, c4⟩ := X1.out.cells5
          go_wp2_with fail
          refine (HCan.out _ X1.out).mono ?_
          rintro e w2 ⟨rfl, hbl⟩
          have X2 := Lib.hid (X1.out.next hbl)
          clear hbl c0 c1 c2 c3 c4
          obtain ⟨c0, c1, c2, c3, c4⟩ := X2.out.cells5
          go_wp2_with fail
          refine (HSt.out _).mono ?_
          rintro e w3 ⟨rfl, hbl⟩
          have B3 := Lib.hid (X2.out.below.trans (hbl.mono X2.out.below.size))
          clear hbl c0 c1 c2 c3 c4
          go_wp2_with fail
          refine (HOf.out _).mono ?_
          rintro e w4 ⟨rfl, hbl⟩
          have B4 := Lib.hid (B3.out.trans (hbl.mono B3.out.size))
          clear hbl
          go_wp2_with fail
          go_ret2
          exact ⟨by rw [HE.out]; rfl, B4.out⟩
      | ok p =>
        rw [ho] at hOf hG2
        have hpr := (ofTwo_okM ho).2.2.1
        have hps : (mkB p).size ≤ 9223372036854775807 := by rw [mkB_size]; have := right_len hpr; omega
        have hBx := fun w' => box_calls pub (mkB p) w' h4 hps
        rw [show toL (mkB p) = p from mkB_list p] at hBx
        simp only [exV] at hOf
        obtain ⟨PP, hPP⟩ : ∃ PP, mkB p = PP := ⟨_, rfl⟩
        simp only [hPP] at hOf hBx
        obtain ⟨rs, rn, hsn⟩ := exV_form (boxT (toL pub) p)
        have HE : Hid (G = .tuple #[.string rs, .int .i64 rn]) := Lib.hid (by rw [← HG.out, hG2, ← hsn])
        simp only [hsn] at hBx
        have HOf := Lib.hid hOf
        have HBx := Lib.hid hBx
        simp only [hb] at HCan
        clear hSt hst hCan hsl ho hG2 hOf htr hT hBx hsn hPP hpr hps
        cases b with
        | true =>
          simp only [if_true] at hsec
          subst hsec
          go_enter Tryz.func155, Tryz.ntmps155
          go_wp2_with fail
          refine (HTx.out _).mono ?_
          rintro e w1 ⟨rfl, hbl⟩
          have X1 := Lib.hid (HX.out.next hbl)
          clear hbl
          simp only [exV]
          obtain ⟨c0, c1, c2, c3, c4⟩ := X1.out.cells5
          go_wp2_with fail
          refine (HCan.out _ X1.out).mono ?_
          rintro e w2 ⟨rfl, hbl⟩
          have X2 := Lib.hid (X1.out.next hbl)
          clear hbl c0 c1 c2 c3 c4
          obtain ⟨c0, c1, c2, c3, c4⟩ := X2.out.cells5
          go_wp2_with fail
          refine (HSt.out _).mono ?_
          rintro e w3 ⟨rfl, hbl⟩
          have B3 := Lib.hid (X2.out.below.trans (hbl.mono X2.out.below.size))
          clear hbl c0 c1 c2 c3 c4
          go_wp2_with fail
          refine (HOf.out _).mono ?_
          rintro e w4 ⟨rfl, hbl⟩
          have B4 := Lib.hid (B3.out.trans (hbl.mono B3.out.size))
          clear hbl
          go_wp2_with fail
          refine (HBx.out _).mono ?_
          rintro e w5 ⟨rfl, hbl⟩
          have B5 := Lib.hid (B4.out.trans (hbl.mono B4.out.size))
          clear hbl
          go_wp2_with fail
          go_ret2
          exact ⟨by rw [HE.out]; rfl, B5.out⟩
        | false =>
          simp only [Bool.false_eq_true, if_false] at hsec
          subst hsec
          go_enter Tryz.func155, Tryz.ntmps155
          go_wp2_with fail
          refine (HTx.out _).mono ?_
          rintro e w1 ⟨rfl, hbl⟩
          have X1 := Lib.hid (HX.out.next hbl)
          clear hbl
          simp only [exV]
          obtain ⟨c0, c1, c2, c3, c4⟩ := X1.out.cells5
          go_wp2_with fail
          refine (HCan.out _ X1.out).mono ?_
          rintro e w2 ⟨rfl, hbl⟩
          have X2 := Lib.hid (X1.out.next hbl)
          clear hbl c0 c1 c2 c3 c4
          obtain ⟨c0, c1, c2, c3, c4⟩ := X2.out.cells5
          go_wp2_with fail
          refine (HSt.out _).mono ?_
          rintro e w3 ⟨rfl, hbl⟩
          have B3 := Lib.hid (X2.out.below.trans (hbl.mono X2.out.below.size))
          clear hbl c0 c1 c2 c3 c4
          go_wp2_with fail
          refine (HOf.out _).mono ?_
          rintro e w4 ⟨rfl, hbl⟩
          have B4 := Lib.hid (B3.out.trans (hbl.mono B3.out.size))
          clear hbl
          go_wp2_with fail
          refine (HBx.out _).mono ?_
          rintro e w5 ⟨rfl, hbl⟩
          have B5 := Lib.hid (B4.out.trans (hbl.mono B4.out.size))
          clear hbl
          go_wp2_with fail
          go_ret2
          exact ⟨by rw [HE.out]; rfl, B5.out⟩
  refine key (if Rt.can ⟨ow, fi, ep, rd, wr'⟩ user true then signer else mkB [116, 0]) (Rt.can ⟨ow, fi, ep, rd, wr'⟩ user true) rfl rfl ?_
  split
  · exact h3
  · rw [mkB_size]; decide
end Go.Proofs.YtckblcfkajpofaaGreatDoor
