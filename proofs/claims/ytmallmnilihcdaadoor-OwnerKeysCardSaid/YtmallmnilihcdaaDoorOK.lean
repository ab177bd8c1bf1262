/- The law OwnerKeys: keys of other files are others. -/
import Derived.Test.YtmallmnilihcdaaDoorBMem
import Derived.Test.YtmallmnilihcdaaDoorProg
import Derived.WalkKit
import Derived.OwnWalk
import Derived.StillTailTactics
import Derived.Deep.QuietTactic
import Derived.BigQuiet
import Derived.KernelRfl
import Derived.Outline
import Derived.Handy
namespace Go.Proofs.YtmallmnilihcdaaDoor
open Go.RowKit
set_option linter.unusedVariables false
set_option linter.unusedSimpArgs false

def pickZ (c n : Int) : Int := if c < 0 then (-(c + 1)) % n else c % n
theorem pickZ_lt (c : Int) {n : Int} (h : 1 ≤ n) : 0 ≤ pickZ c n ∧ pickZ c n < n := by
  unfold pickZ; split <;> exact ⟨Int.emod_nonneg _ (by omega), Int.emod_lt_of_pos _ (by omega)⟩

set_option maxHeartbeats 400000 in
theorem pick15_calls (c n : Int) (w : World) (h : -9223372036854775808 ≤ c) (h' : c ≤ 9223372036854775807) (hn : 1 ≤ n) (hn' : n ≤ 1000) :
    Calls Tryd.prog 5 #[.int .i64 c, .int .i64 n] w fun e w' => e = .returned (.int .i64 (pickZ c n)) ∧ w = w' := by
  by_cases hc : c < 0
  · have e : pickZ c n = -((c + 1).tmod n) := by rw [pickZ, if_pos hc, ← Int.neg_tmod, Int.tmod_eq_emod_of_nonneg (by omega)]
    rw [e]; clear e
    go_enter Tryd.func5, Tryd.ntmps5
    go_wp2
    go_ret
    exact ⟨rfl, rfl⟩
  · have e : pickZ c n = c % n := by rw [pickZ, if_neg hc]
    rw [e]; clear e
    have hc' : 0 ≤ c := by omega
    go_enter Tryd.func5, Tryd.ntmps5
    go_wp2
    go_ret
    exact ⟨rfl, rfl⟩

def keyS (s o f : ByteArray) : ByteArray := s ++ ⟨#[47]⟩ ++ o ++ ⟨#[47]⟩ ++ f
theorem keyS_size (s o f : ByteArray) : (keyS s o f).size = s.size + 1 + o.size + 1 + f.size := by simp [keyS, ByteArray.size_append]; rfl

set_option maxHeartbeats 400000 in
theorem space_calls (s o f : ByteArray) (w : World) (hs : s.size ≤ 1000) (ho : o.size ≤ 1000000) (hf : f.size ≤ 1000000) :
    Calls Tryd.prog 9 #[.string s, .string o, .string f] w fun e w' => e = .returned (.string (keyS s o f)) ∧ w = w' := by
  have e1 : (ByteArray.mk #[47]).size = 1 := rfl
  go_enter Tryd.func9, Tryd.ntmps9
  go_wp2
  go_ret
  exact ⟨rfl, rfl⟩

set_option maxHeartbeats 400000 in
theorem metaKey_calls (o f : ByteArray) (w : World) (ho : o.size ≤ 1000000) (hf : f.size ≤ 1000000) :
    Calls Tryd.prog 6 #[.string o, .string f] w fun e w' => e = .returned (.string (keyS ⟨#[102]⟩ o f)) ∧ w = w' := by
  go_enter Tryd.func6, Tryd.ntmps6
  go_wp2_with fail
  refine (space_calls ⟨#[102]⟩ o f w (by decide) ho hf).mono ?_
  rintro e w' ⟨rfl, rfl⟩
  go_wp2_with fail
  go_ret
  exact ⟨rfl, rfl⟩
set_option maxHeartbeats 400000 in
theorem dataKey_calls (o f : ByteArray) (w : World) (ho : o.size ≤ 1000000) (hf : f.size ≤ 1000000) :
    Calls Tryd.prog 7 #[.string o, .string f] w fun e w' => e = .returned (.string (keyS ⟨#[100]⟩ o f)) ∧ w = w' := by
  go_enter Tryd.func7, Tryd.ntmps7
  go_wp2_with fail
  refine (space_calls ⟨#[100]⟩ o f w (by decide) ho hf).mono ?_
  rintro e w' ⟨rfl, rfl⟩
  go_wp2_with fail
  go_ret
  exact ⟨rfl, rfl⟩

/-! ### nothing is taken of no bytes -/
theorem take_none (w : World) : Calls Tryd.prog 13 #[.string ⟨#[]⟩] w fun e w' => e = .returned (.tuple #[.int .u64 0, .string ⟨#[]⟩, .int .i64 2]) ∧ w = w' := by
  go_enter Tryd.func13, Tryd.ntmps13
  go_wp2
  go_ret3
  exact ⟨rfl, rfl⟩
theorem limited_none (n : Int) (w : World) : Calls Tryd.prog 15 #[.string ⟨#[]⟩, .int .i64 n] w fun e w' => e = .returned (.tuple #[.int .i64 0, .string ⟨#[]⟩, .int .i64 2]) ∧ w = w' := by
  go_enter Tryd.func15, Tryd.ntmps15
  go_wp2_with fail
  refine (take_none w).mono ?_
  rintro e w' ⟨rfl, rfl⟩
  go_wp2_with fail
  go_ret3
  exact ⟨rfl, rfl⟩
theorem takeAll_none (n m : Int) (w : World) : Calls Tryd.prog 10 #[.string ⟨#[]⟩, .int .i64 n, .int .i64 m] w fun e w' => e = .returned (.tuple #[.slice none 0 0, .int .i64 2]) ∧ w = w' := by
  go_enter Tryd.func10, Tryd.ntmps10
  go_wp2_with fail
  refine (limited_none n w).mono ?_
  rintro e w' ⟨rfl, rfl⟩
  go_wp2_with fail
  go_ret2
  exact ⟨rfl, rfl⟩
set_option maxRecDepth 100000 in
theorem ownerTake_none (w : World) : Calls Tryd.prog 8 #[.string ⟨#[]⟩] w fun e w' => e = .returned (.tuple #[.agg #[.string ⟨#[]⟩, .string ⟨#[]⟩, .int .i64 0, .slice none 0 0, .slice none 0 0, .int .u64 0, .slice none 0 0, .slice none 0 0, .string ⟨#[]⟩, .string ⟨#[]⟩, .int .u64 0, .int .i64 0, .string ⟨#[]⟩, .string ⟨#[]⟩, .int .i64 0, .slice none 0 0], .int .i64 2]) ∧ Below w.heap.size w w' := by
  go_enter Tryd.func8, Tryd.ntmps8
  go_wp2_with fail
  refine (takeAll_none 4 90000 _).mono ?_
  rintro e w' ⟨rfl, rfl⟩
  go_wp2_with fail
  go_returns
  exact ⟨rfl, (Below.refl _ _).alloc (Nat.le_refl _) _⟩

set_option maxRecDepth 100000 in
theorem shown15_calls (w : World) : Calls Tryd.prog 4 #[] w fun e w' => e = .returned (.bool true) ∧ Below w.heap.size w w' := by
  have hk : keyS ⟨#[102]⟩ ⟨#[97, 110, 110, 97]⟩ ⟨#[110, 111, 116, 101, 115]⟩ = ⟨#[102, 47, 97, 110, 110, 97, 47, 110, 111, 116, 101, 115]⟩ := by decide
  have HK := Lib.hid hk
  clear hk
  go_enter Tryd.func4, Tryd.ntmps4
  go_wp2_with fail
  refine (ownerTake_none w).mono ?_
  rintro e w1 ⟨rfl, hb1⟩
  have HB := Lib.hid hb1
  clear hb1
  go_wp2_with fail
  refine (metaKey_calls ⟨#[97, 110, 110, 97]⟩ ⟨#[110, 111, 116, 101, 115]⟩ _ (by decide) (by decide)).mono ?_
  rintro e w2 ⟨rfl, rfl⟩
  rw [HK.out]
  go_wp2_with fail
  go_ret
  exact ⟨rfl, HB.out.trans ((Below.refl _ w1).alloc HB.out.size _)⟩

/-! ### the plain law: keys are apart -/
theorem app_sep : ∀ {a b c d : List UInt8}, (47 : UInt8) ∉ a → (47 : UInt8) ∉ c → a ++ 47 :: b = c ++ 47 :: d → a = c ∧ b = d
  | [], b, [], d, _, _, h => by simp at h; exact ⟨rfl, h⟩
  | [], b, y :: c, d, _, hc, h => by simp at h; exact absurd (by simp [h.1]) hc
  | x :: a, b, [], d, ha, _, h => by simp at h; exact absurd (by simp [h.1]) ha
  | x :: a, b, y :: c, d, ha, hc, h => by
    simp at h ha hc
    obtain ⟨rfl, h⟩ := h
    obtain ⟨h1, h2⟩ := app_sep (a := a) (c := c) ha.2 hc.2 h
    exact ⟨by rw [h1], h2⟩
theorem keyS_list (s o f : ByteArray) : (keyS s o f).data.toList = s.data.toList ++ 47 :: (o.data.toList ++ 47 :: f.data.toList) := by
  simp [keyS, ByteArray.data_append]
def free (s : ByteArray) : Prop := (47 : UInt8) ∉ s.data.toList ∧ s.size ≤ 5
theorem bytes_ext {a b : ByteArray} (h : a.data.toList = b.data.toList) : a = b := by
  cases a; cases b; simp at h; rw [h]
theorem keyS_inj {s o f p g : ByteArray} (hs : (47 : UInt8) ∉ s.data.toList) (ho : free o) (hp : free p) (h : keyS s o f = keyS s p g) : o = p ∧ f = g := by
  have h1 := congrArg (fun b : ByteArray => b.data.toList) h
  simp only [keyS_list] at h1
  obtain ⟨_, h2⟩ := app_sep hs hs h1
  obtain ⟨h3, h4⟩ := app_sep ho.1 hp.1 h2
  exact ⟨bytes_ext h3, bytes_ext h4⟩
theorem keyS_ne (o f p g : ByteArray) : keyS ⟨#[102]⟩ o f ≠ keyS ⟨#[100]⟩ p g := fun h => by
  have h1 := congrArg (fun b : ByteArray => b.data.toList) h
  simp only [keyS_list] at h1
  simp at h1
def names8 : List ByteArray := [⟨#[97, 110, 110, 97]⟩, ⟨#[98, 101, 110]⟩, ⟨#[97]⟩, ⟨#[98]⟩, ⟨#[110, 111, 116, 101, 115]⟩, ⟨#[97, 110]⟩, ⟨#[110, 97]⟩, ⟨#[110]⟩]
theorem names8_free : ∀ s ∈ names8, free s := by unfold free; decide
theorem names8_get (c : Int) : ∃ p : Nat, ∃ s, pickZ c 8 = p ∧ p < 8 ∧ names8[p]? = some s ∧ free s := by
  have h := pickZ_lt c (n := 8) (by omega)
  refine ⟨(pickZ c 8).toNat, names8[(pickZ c 8).toNat]'(by simp [names8]; omega), by omega, by omega, List.getElem?_eq_getElem _, names8_free _ (List.getElem_mem _)⟩

end Go.Proofs.YtmallmnilihcdaaDoor
