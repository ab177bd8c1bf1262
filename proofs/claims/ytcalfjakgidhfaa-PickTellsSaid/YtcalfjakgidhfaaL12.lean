/- The helpers of chapter 12's laws: pick, same, light, key. -/
import Derived.Test.YtcalfjakgidhfaaClone
import Derived.Deep.LoopGhost
import Derived.IntWalk
namespace Go.Proofs.Ytcalfjakgidhfaa
open Go.RowKit
set_option linter.unusedVariables false
set_option linter.unusedSimpArgs false

def pickZ (c n : Int) : Int := if c < 0 then (-(c + 1)) % n else c % n
theorem pickZ_lt (c : Int) {n : Int} (h : 1 ≤ n) : 0 ≤ pickZ c n ∧ pickZ c n < n := by
  unfold pickZ; split <;> exact ⟨Int.emod_nonneg _ (by omega), Int.emod_lt_of_pos _ (by omega)⟩

set_option maxHeartbeats 400000 in
theorem pick_calls (c n : Int) (w : World) (h : -9223372036854775808 ≤ c) (h' : c ≤ 9223372036854775807) (hn : 1 ≤ n) (hn' : n ≤ 1000) :
    Calls Try.prog 17 #[.int .i64 c, .int .i64 n] w fun e w' => e = .returned (.int .i64 (pickZ c n)) ∧ w = w' := by
  by_cases hc : c < 0
  · have e : pickZ c n = -((c + 1).tmod n) := by rw [pickZ, if_pos hc, ← Int.neg_tmod, Int.tmod_eq_emod_of_nonneg (by omega)]
    rw [e]; clear e
    go_enter Try.func17, Try.ntmps17
    go_wp2
    go_ret
    exact ⟨rfl, rfl⟩
  · have e : pickZ c n = c % n := by rw [pickZ, if_neg hc]
    rw [e]; clear e
    have hc' : 0 ≤ c := by omega
    go_enter Try.func17, Try.ntmps17
    go_wp2
    go_ret
    exact ⟨rfl, rfl⟩

theorem take_succ_get {α : Type} {l : List α} {i : Nat} {x : α} (h : l[i]? = some x) : l.take (i + 1) = l.take i ++ [x] := by
  rw [List.take_add_one, h]; rfl

theorem size_list {s : ByteArray} : s.toList.length = s.size := by rw [ByteArray.toList_eq, Array.length_toList]; rfl
theorem list_inj {a b : ByteArray} (h : a.toList = b.toList) : a = b := by
  rw [ByteArray.toList_eq, ByteArray.toList_eq] at h
  cases a; cases b; simp at h; rw [h]

set_option maxHeartbeats 400000 in
theorem same_calls (w : World) (v u : Value) (l m : List ByteArray) (hv : strs w v l) (hu : strs w u m) :
    Calls Try.prog 21 #[v, u] w fun e w' => e = .returned (.bool (decide (l = m))) ∧ Drawn w w' := by
  obtain ⟨A, c, rfl, h1, h2, h3⟩ := hv
  obtain ⟨B, d, rfl, g1, g2, g3⟩ := hu
  by_cases hl : l.length = m.length
  · have hl1 : ((l.length : Int) != m.length) = false := by simp; omega
    have hl2 : (l.length != m.length) = false := by simp [hl]
    have HL := Lib.hid hl
    clear hl
    go_enter Try.func21, Try.ntmps21
    go_wp2
    go_loopw [5] (fun i wr => ∃ k : Nat, k ≤ l.length ∧ i = .int .i64 k ∧ l.take k = m.take k ∧ Drawn w wr) (fun i _ => l.length - (intOf i).toNat)
    case atStart => exact ⟨0, Nat.zero_le _, rfl, rfl, Drawn.refl w⟩
    case round =>
      obtain ⟨k, hk, rfl, ht, ⟨n, rfl⟩⟩ := hrel
      have HT := Lib.hid ht
      clear ht
      by_cases hlt : k < l.length
      · obtain ⟨x, hx⟩ : ∃ x, l[k]? = some x := ⟨_, List.getElem?_eq_getElem hlt⟩
        obtain ⟨y, hy⟩ : ∃ y, m[k]? = some y := ⟨_, List.getElem?_eq_getElem (by have := HL.out; omega)⟩
        obtain ⟨b, off, rfl, hc⟩ := h3 (by omega)
        obtain ⟨b', off', rfl, hc'⟩ := g3 (by have := HL.out; omega)
        have c1 := hc k x hx
        have c2 := hc' k y hy
        have hlt' : k < m.length := by have := HL.out; omega
        have HX := Lib.hid hx
        have HY := Lib.hid hy
        clear hc hc' h3 g3 hx hy
        by_cases hxy : x = y
        · have e1 : (x.toList == y.toList) = true := by rw [hxy]; simp
          have e2 : (x.toList != y.toList) = false := by rw [hxy]; simp
          have HE := Lib.hid hxy
          clear hxy
          go_wp2
          go_quiet (fail)
          go_wp2
          go_roundw
          case rel => exact ⟨k + 1, by omega, by go_num, by rw [take_succ_get HX.out, take_succ_get HY.out, HT.out, HE.out], _, rfl⟩
          case measure => simp [intOf]; omega
        · have e1 : (x.toList == y.toList) = false := by simp; exact fun e => hxy (list_inj e)
          have e2 : (x.toList != y.toList) = true := by simp; exact fun e => hxy (list_inj e)
          have E3 : Hid (decide (l = m) = false) := Lib.hid (by
            simp; intro e; apply hxy; have a := HX.out; rw [e, HY.out] at a; cases a; rfl)
          clear hxy
          go_wp2
          go_quiet (fail)
          go_wp2
          go_ret
          exact ⟨by rw [E3.out]; rfl, by first | exact ⟨_, rfl⟩ | exact Drawn.drewN ⟨_, rfl⟩ _⟩
      · have E3 : Hid (decide (l = m) = true) := Lib.hid (by
          have a := HT.out
          rw [List.take_of_length_le (by omega), List.take_of_length_le (by have := HL.out; omega)] at a
          simp [a])
        go_wp2
        go_ret
        exact ⟨by rw [E3.out]; rfl, by first | exact ⟨_, rfl⟩ | exact Drawn.drewN ⟨_, rfl⟩ _⟩
  · have hl1 : ((l.length : Int) != m.length) = true := by simp; omega
    have hl2 : (l.length != m.length) = true := by simp [hl]
    have E3 : Hid (decide (l = m) = false) := Lib.hid (by simp; intro e; exact hl (by rw [e]))
    clear hl
    go_enter Try.func21, Try.ntmps21
    go_wp2
    go_ret
    exact ⟨by rw [E3.out]; rfl, Drawn.refl w⟩

structure ActV where
  op : Int
  k : Int
  key : ByteArray
  blob : ByteArray
def actV (a : ActV) : List Value := [.int .i64 a.op, .int .i64 a.k, .string a.key, .string a.blob]
def actSum (l : List ActV) : Nat := (l.map fun a => a.key.size + a.blob.size).sum
def ActV.wf (a : ActV) : Prop := (-9223372036854775808 ≤ a.op ∧ a.op ≤ 9223372036854775807) ∧ (-9223372036854775808 ≤ a.k ∧ a.k ≤ 9223372036854775807) ∧ a.key.size ≤ 140737488351232 ∧ a.blob.size ≤ 140737488351232

theorem actSum_le {l : List ActV} (h : ∀ a ∈ l, a.wf) : actSum l ≤ l.length * 281474976702464 := by
  induction l with
  | nil => simp [actSum]
  | cons x l ih =>
    have := ih fun a ha => h a (List.mem_cons_of_mem _ ha)
    have hx := h x List.mem_cons_self
    simp only [actSum, List.map_cons, List.sum_cons, List.length_cons] at this ⊢
    have h1 := hx.2.2.1; have h2 := hx.2.2.2; omega
theorem actSum_take {l : List ActV} {k : Nat} {a : ActV} (h : l[k]? = some a) : actSum (l.take (k + 1)) = actSum (l.take k) + (a.key.size + a.blob.size) := by
  rw [take_succ_get h]; simp [actSum]

def lightB (l : List ActV) : Bool := decide (l.length ≤ 100) && decide (actSum l ≤ 90000)

set_option maxHeartbeats 800000 in
theorem light_calls (w : World) (v : Value) (l : List ActV) (hv : rowsOf 4 actV w v l) (hw : ∀ a ∈ l, a.wf) :
    Calls Try.prog 14 #[v] w fun e w' => e = .returned (.bool (lightB l)) ∧ Drawn w w' := by
  obtain ⟨A, c, rfl, h1, h2, h3⟩ := hv
  have HW := Lib.hid hw
  clear hw
  go_enter Try.func14, Try.ntmps14
  go_wp2
  go_loopw [3, 4] (fun s i wr => ∃ k : Nat, ∃ t : Int, k ≤ l.length ∧ i = .int .i64 k ∧ s = .int .i64 t ∧ Hid (k ≤ 100 → t = actSum (l.take k)) ∧ Drawn w wr) (fun _ i _ => l.length - (intOf i).toNat)
  case atStart => exact ⟨0, 0, Nat.zero_le _, rfl, rfl, fun _ => rfl, Drawn.refl w⟩
  case round =>
    obtain ⟨k, t, hk, rfl, rfl, HT, ⟨n, rfl⟩⟩ := hrel
    by_cases hlt : k < l.length
    · obtain ⟨x, hx⟩ : ∃ x, l[k]? = some x := ⟨_, List.getElem?_eq_getElem hlt⟩
      obtain ⟨b, off, rfl, hc⟩ := h3 (by omega)
      have c2 := hc k x hx 2 _ rfl
      have c3 := hc k x hx 3 _ rfl
      have HX := Lib.hid hx
      clear hc h3 hx
      go_wp2
      go_quiet (fail)
      go_wp2
      go_roundw
      case rel =>
        refine ⟨k + 1, _, by omega, by go_num, rfl, fun hk1 => ?_, _, rfl⟩
        have ht := HT.out (by omega)
        have h5 := (HW.out x (List.mem_of_getElem? HX.out)).2.2
        have h6 := actSum_le (l := l.take k) fun a ha => HW.out a (List.mem_of_mem_take ha)
        have h7 : (l.take k).length ≤ 100 := by have := List.length_take_le k l; omega
        have h8 := h5.1; have h9 := h5.2
        rw [actSum_take HX.out, ht]
        have h10 : (actSum (l.take k) : Int) ≤ 100 * 281474976702464 := by
          have : actSum (l.take k) ≤ 100 * 281474976702464 := Nat.le_trans h6 (Nat.mul_le_mul_right _ h7)
          omega
        rw [IntWalk.wrap64_in ((actSum (l.take k) : Int) + x.key.size) ⟨by omega, by omega⟩, IntWalk.wrap64_in _ ⟨by omega, by omega⟩]
        omega
      case measure => simp [intOf]; omega
    · have hkl : k = l.length := by omega
      have E : Hid (l.length ≤ 100 → lightB l = decide (t ≤ 90000)) := fun h100 => by
        have ht := HT.out (by omega)
        rw [hkl, List.take_length] at ht
        rw [ht, lightB]; simp [h100]; omega
      have E' : Hid (¬ l.length ≤ 100 → lightB l = false) := fun h100 => by rw [lightB]; simp [h100]
      clear hkl
      by_cases h100 : l.length ≤ 100
      · have e1 : decide ((l.length : Int) ≤ 100) = true := by simp; omega
        go_wp2
        go_ret
        exact ⟨by rw [E.out (by omega)]; rfl, _, rfl⟩
      · have e1 : decide ((l.length : Int) ≤ 100) = false := by simp; omega
        go_wp2
        go_ret
        exact ⟨by rw [E'.out (by omega)]; rfl, _, rfl⟩

def keyList : List ByteArray := [⟨#[97]⟩, ⟨#[97, 98]⟩, ⟨#[98]⟩, ⟨#[97, 47, 120]⟩, ⟨#[255]⟩]
def keyOf (k : Int) (key : ByteArray) : ByteArray := if pickZ k 6 < 5 then keyList.getD (pickZ k 6).toNat ByteArray.empty else key

set_option maxHeartbeats 800000 in
theorem key_calls (op k : Int) (key blob : ByteArray) (w : World) (h : -9223372036854775808 ≤ k) (h' : k ≤ 9223372036854775807) :
    Calls Try.prog 16 #[.agg #[.int .i64 op, .int .i64 k, .string key, .string blob]] w fun e w' => e = .returned (.string (keyOf k key)) ∧ Below w.heap.size w w' := by
  have hp := pickZ_lt k (n := 6) (by omega)
  obtain ⟨p, hpp⟩ : ∃ p, pickZ k 6 = p := ⟨_, rfl⟩
  rw [hpp] at hp
  obtain ⟨hp0, hp1⟩ := hp
  have E : Hid (keyOf k key = if p < 5 then keyList.getD p.toNat ByteArray.empty else key) := Lib.hid (by rw [keyOf, hpp])
  have HP := Lib.hid hpp
  clear hpp
  have hc : p = 0 ∨ p = 1 ∨ p = 2 ∨ p = 3 ∨ p = 4 ∨ p = 5 := by omega
  clear hp0 hp1
  rcases hc with rfl | rfl | rfl | rfl | rfl | rfl
  all_goals
    go_enter Try.func16, Try.ntmps16
    go_wp2_with (go_at_call 17; refine (pick_calls k 6 _ h h' (by omega) (by omega)).mono ?_; rintro e w' ⟨rfl, rfl⟩; rw [HP.out])
    go_ret
    exact ⟨by rw [E.out]; rfl, ((Below.refl _ _).alloc (Nat.le_refl _) _).alloc (by simp) _⟩
end Go.Proofs.Ytcalfjakgidhfaa
