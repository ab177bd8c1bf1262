/- pick: what a choice answers. -/
import Derived.Test.YtcalfjakgidhfaaL12
import Derived.Test.YtcalfjakgidhfaaL12b
import Derived.Laws.EntriesVeiled
import Derived.Handy
namespace Go.Proofs.Ytcalfjakgidhfaa
open Go.RowKit
set_option linter.unusedVariables false
set_option linter.unusedSimpArgs false

structure Ch where
  kind : Int
  back : Int
  key : ByteArray
  bytes : ByteArray
def chV (c : Ch) : List Value := [.int .u8 c.kind, .int .i64 c.back, .string c.key, .string c.bytes]

theorem none_calls (v : Value) (key : ByteArray) (w : World) : Calls Try.prog 52 #[v, .string key] w fun e w' => e = .returned (.tuple #[.string ByteArray.empty, .int .i64 4]) ∧ w = w' := by
  go_enter Try.func52, Try.ntmps52
  go_wp2
  go_ret2
  exact ⟨rfl, rfl⟩

theorem honest_calls {w : World} {v : Value} {S : St} {F : Nat → Prop} (h : IsStore w v S F) (key : ByteArray) : Calls Try.prog 55 #[v, .string key] w fun e w' => e = .returned (.tuple #[.string (S.get key), .int .i64 (S.getErr key)]) ∧ w = w' := by
  go_enter Try.func55, Try.ntmps55
  go_wp2_with fail
  refine (store_get h key).mono ?_
  rintro e w1 ⟨rfl, rfl⟩
  go_wp2_with fail
  go_ret2
  exact ⟨rfl, rfl⟩

/-- what a choice answers of a key -/
def St.ans (S : St) (c : Ch) (key : ByteArray) : ByteArray × Int :=
  if c.kind = 115 then (if c.back < 0 ∨ ((S.versions key).length : Int) ≤ c.back then (ByteArray.empty, 4) else ((S.versions key).getD ((S.versions key).length - 1 - c.back.toNat) ByteArray.empty, 0))
  else if c.kind = 100 then (ByteArray.empty, 4) else if c.kind = 120 then (S.get c.key, S.getErr c.key)
  else if c.kind = 98 then (if 40000 < (c.bytes.size : Int) then (ByteArray.empty, 10) else (c.bytes, 0)) else (S.get key, S.getErr key)
def ansF (k : Int) (b : Nat) : Value :=
  if k = 115 then .func (.func 51) #[] #[.pointer (some ⟨b, 0, none⟩)] else if k = 100 then .func (.func 52) #[] #[]
  else if k = 120 then .func (.func 53) #[] #[.pointer (some ⟨b, 0, none⟩)] else if k = 98 then .func (.func 54) #[] #[.pointer (some ⟨b, 0, none⟩)] else .func (.func 55) #[] #[]
def chO (c : Ch) : Obj := .cells #[.int .u8 c.kind, .int .i64 c.back, .string c.key, .string c.bytes] 49 (0, 0)

theorem answers_calls (w : World) (c : Ch) : Calls Try.prog 42 #[.agg #[.int .u8 c.kind, .int .i64 c.back, .string c.key, .string c.bytes]] w fun e w' => e = .returned (.agg #[ansF c.kind w.heap.size]) ∧ w'.heap[w.heap.size]? = some (chO c) ∧ Below w.heap.size w w' := by
  obtain ⟨kind, back, key, bytes⟩ := c
  have hf : ∀ o : Obj, ((w.alloc (chO ⟨kind, back, key, bytes⟩)).alloc o).heap[w.heap.size]? = some (chO ⟨kind, back, key, bytes⟩) ∧ Below w.heap.size w ((w.alloc (chO ⟨kind, back, key, bytes⟩)).alloc o) := fun o =>
    ⟨((MapKept.heap_alloc (w.alloc _) o).2 _ (by rw [size_alloc]; omega)).trans (MapKept.heap_alloc w _).1, ((Below.refl _ _).alloc (Nat.le_refl _) _).alloc (by simp) _⟩
  have HF := Lib.hid hf
  clear hf
  dsimp only
  by_cases h1 : kind = 115
  · subst h1
    go_enter Try.func42, Try.ntmps42
    go_wp2_with fail
    go_returns
    exact ⟨rfl, HF.out _⟩
  · by_cases h2 : kind = 100
    · subst h2
      go_enter Try.func42, Try.ntmps42
      go_wp2_with fail
      go_returns
      exact ⟨rfl, HF.out _⟩
    · by_cases h3 : kind = 120
      · subst h3
        go_enter Try.func42, Try.ntmps42
        go_wp2_with fail
        go_returns
        exact ⟨rfl, HF.out _⟩
      · by_cases h4 : kind = 98
        · subst h4
          go_enter Try.func42, Try.ntmps42
          go_wp2_with fail
          go_returns
          exact ⟨rfl, HF.out _⟩
        · have e : ∀ b, ansF kind b = .func (.func 55) #[] #[] := fun b => by unfold ansF; rw [if_neg h1, if_neg h2, if_neg h3, if_neg h4]
          rw [e]; clear e
          go_enter Try.func42, Try.ntmps42
          go_wp2_with fail
          go_returns
          exact ⟨rfl, HF.out _⟩

theorem ans2_calls {w : World} {v : Value} {S : St} {F : Nat → Prop} (h : IsStore w v S F) (u : Value) {b : Nat} {c : Ch} (hc : w.heap[b]? = some (chO c)) :
    Calls Try.prog 53 #[v, u, .pointer (some ⟨b, 0, none⟩)] w fun e w' => e = .returned (.tuple #[.string (S.get c.key), .int .i64 (S.getErr c.key)]) ∧ w = w' := by
  have c2 := cell_of_row w b 2 _ _ _ hc
  simp at c2
  go_enter Try.func53, Try.ntmps53
  go_wp2_with fail
  refine (store_get h c.key).mono ?_
  rintro e w1 ⟨rfl, rfl⟩
  go_wp2_with fail
  go_ret2
  exact ⟨rfl, rfl⟩

theorem ans3_calls {w : World} (v u : Value) {b : Nat} {c : Ch} (hc : w.heap[b]? = some (chO c)) :
    Calls Try.prog 54 #[v, u, .pointer (some ⟨b, 0, none⟩)] w fun e w' => e = .returned (if 40000 < (c.bytes.size : Int) then .tuple #[.string ByteArray.empty, .int .i64 10] else .tuple #[.string c.bytes, .int .i64 0]) ∧ w = w' := by
  have c3 := cell_of_row w b 3 _ _ _ hc
  simp at c3
  go_enter Try.func54, Try.ntmps54
  go_wp2_with fail
  all_goals
    go_ret2
    exact ⟨rfl, rfl⟩

set_option maxHeartbeats 400000 in
theorem ans1_calls {w : World} {v : Value} {S : St} {F : Nat → Prop} (h : IsStore w v S F) (key : ByteArray) {b : Nat} {c : Ch} (hc : w.heap[b]? = some (chO c)) (hk : c.kind = 115) :
    Calls Try.prog 51 #[v, .string key, .pointer (some ⟨b, 0, none⟩)] w fun e w' => e = .returned (.tuple #[.string (S.ans c key).1, .int .i64 (S.ans c key).2]) ∧ Below w.heap.size w w' := by
  obtain ⟨kind, back, ky, bytes⟩ := c
  dsimp only at hk
  subst hk
  have c1 := cell_of_row w b 1 _ _ _ hc
  simp at c1
  have hb : b < w.heap.size := (Array.getElem?_eq_some_iff.1 hc).1
  obtain ⟨r, hr⟩ : ∃ r, S.ans ⟨115, back, ky, bytes⟩ key = r := ⟨_, rfl⟩
  have hr' := hr
  unfold St.ans at hr'
  rw [if_pos rfl] at hr'
  rw [hr]
  have HR := Lib.hid hr'
  clear hr hr'
  go_enter Try.func51, Try.ntmps51
  go_wp2_with fail
  refine (store_versions h key).mono ?_
  rintro e w1 ⟨v1, rfl, hown, hb1⟩
  obtain ⟨A, cp, rfl, hlc, hmx, hcell⟩ := strs_own hown
  have k1 : Keep (fun _ => False) w w1 := Keep.of_below hb1
  have c1' := k1.cell c1 (fun e => e)
  have HB1 := Lib.hid hb1
  clear hown hb1
  obtain ⟨l, hl⟩ : ∃ l, S.versions key = l := ⟨_, rfl⟩
  rw [hl] at HR hlc hmx hcell ⊢
  clear hl
  by_cases h0 : back < 0
  · have hr : (ByteArray.empty, (4 : Int)) = r := by have := HR.out; rwa [if_pos (Or.inl h0)] at this
    subst hr
    clear HR
    go_wp2_with (go_at_call 52; refine (none_calls _ _ _).mono ?_; rintro e w2 ⟨rfl, rfl⟩)
    go_ret2
    exact ⟨rfl, HB1.out⟩
  · by_cases h1 : (l.length : Int) ≤ back
    · have hr : (ByteArray.empty, (4 : Int)) = r := by have := HR.out; rwa [if_pos (Or.inr h1)] at this
      subst hr
      clear HR
      go_wp2_with (go_at_call 52; refine (none_calls _ _ _).mono ?_; rintro e w2 ⟨rfl, rfl⟩)
      go_ret2
      exact ⟨rfl, HB1.out⟩
    · obtain ⟨n, rfl⟩ : ∃ n : Nat, back = n := ⟨back.toNat, by omega⟩
      have hn : n < l.length := by omega
      obtain ⟨m, hm⟩ : ∃ m, l.length = n + 1 + m := ⟨l.length - (n + 1), by omega⟩
      obtain ⟨s, hs⟩ : ∃ s, l[m]? = some s := ⟨l[m], List.getElem?_eq_getElem (by omega)⟩
      obtain ⟨bb, off, rfl, hc2⟩ := hcell (by omega)
      have hc3 := hc2 m s hs
      have hr : (s, (0 : Int)) = r := by
        have := HR.out
        rw [if_neg (by omega)] at this
        rw [← this, hm, show n + 1 + m - 1 - ((n : Nat) : Int).toNat = m by omega, List.getD_eq_getElem?_getD, hs]; rfl
      subst hr
      clear HR hc2 hcell
      have hlen : (l.length : Int) = n + 1 + m := by omega
      have e1 : (l.length : Int) - 1 = n + m := by omega
      have e2 : (l.length : Int) - 1 - n = m := by omega
      go_wp2_with fail
      go_ret2
      exact ⟨rfl, HB1.out⟩
end Go.Proofs.Ytcalfjakgidhfaa
