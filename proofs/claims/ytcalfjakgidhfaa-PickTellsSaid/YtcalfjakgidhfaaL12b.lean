/- Chapter 12's example, and the law StoreApart. -/
import Derived.Test.YtcalfjakgidhfaaL12
namespace Go.Proofs.Ytcalfjakgidhfaa
open Go.RowKit
set_option linter.unusedVariables false
set_option linter.unusedSimpArgs false

theorem IsStore.ptr {w : World} {v : Value} {S : St} {F : Nat → Prop} (h : IsStore w v S F) : ∃ b, v = .pointer (some ⟨b, 0, none⟩) := by
  obtain ⟨b, be, bt, rows, h1, _⟩ := h; exact ⟨b, h1⟩

def bA : ByteArray := ⟨#[97]⟩
def sX : St := St.new.put ⟨#[97]⟩ ⟨#[120]⟩
def sXY : St := sX.put ⟨#[97]⟩ ⟨#[121]⟩
def sXYd : St := sXY.del ⟨#[97]⟩
theorem sh1 : St.new.putErr ⟨#[97]⟩ ⟨#[120]⟩ = 0 := by decide
theorem sh2 : (St.new.put ⟨#[97]⟩ ⟨#[120]⟩).putErr ⟨#[97]⟩ ⟨#[121]⟩ = 0 := by decide
theorem sh3 : ((St.new.put ⟨#[97]⟩ ⟨#[120]⟩).put ⟨#[97]⟩ ⟨#[121]⟩).delErr ⟨#[97]⟩ = 0 := by decide
theorem sh4 : (((St.new.put ⟨#[97]⟩ ⟨#[120]⟩).put ⟨#[97]⟩ ⟨#[121]⟩).del ⟨#[97]⟩).versions ⟨#[97]⟩ = [⟨#[120]⟩, ⟨#[121]⟩] := by decide

set_option maxHeartbeats 800000 in
theorem shown_calls (w : World) : Calls Try.prog 13 #[] w fun e w' => e = .returned (.bool true) ∧ Below w.heap.size w w' := by
  obtain ⟨B, hB⟩ : ∃ B, B = w.heap.size := ⟨_, rfl⟩
  rw [← hB]
  have HB := Lib.hid hB
  clear hB
  go_enter Try.func13, Try.ntmps13
  go_wp2_with fail
  refine (storeB_new w B (by rw [HB.out]; exact Nat.le_refl _)).mono ?_
  rintro e w1 ⟨v, rfl, hS, hb⟩
  obtain ⟨b, rfl⟩ := hS.ptr
  have k1 : Keep (fun k => B ≤ k) w w1 := Keep.of_below hb
  have z1 := k1.size
  rw [← HB.out] at z1
  clear hb
  go_wp2_with fail
  refine (storeB_put hS z1 ⟨#[97]⟩ ⟨#[120]⟩).mono ?_
  rintro e w2 ⟨rfl, hS2, hk⟩
  rw [sh1]
  have k2 := k1.same hk
  have z2 := Nat.le_trans z1 hk.size
  clear k1 z1 hk hS
  go_wp2_with fail
  refine (storeB_put hS2 z2 ⟨#[97]⟩ ⟨#[121]⟩).mono ?_
  rintro e w3 ⟨rfl, hS3, hk⟩
  rw [sh2]
  have k3 := k2.same hk
  have z3 := Nat.le_trans z2 hk.size
  clear k2 z2 hk hS2
  go_wp2_with fail
  refine (storeB_delete hS3 ⟨#[97]⟩).mono ?_
  rintro e w4 ⟨rfl, hS4, hk⟩
  rw [sh3]
  have k4 := k3.same hk
  clear k3 z3 hk hS3
  go_wp2_with fail
  refine (store_versions hS4 ⟨#[97]⟩).mono ?_
  rintro e w5 ⟨v, rfl, hown, hb⟩
  rw [sh4] at hown
  have k5 := k4.same (Keep.of_below hb)
  clear hb hS4 k4
  have hs := strs_own hown
  clear hown
  go_wp2_with fail
  refine (same_calls _ _ _ _ _ (hs.below ((Below.refl _ _).alloc (Nat.le_refl _) _)) (strs_lit w5 9 [⟨#[120]⟩, ⟨#[121]⟩] (by decide))).mono ?_
  rintro e w6 ⟨rfl, hd⟩
  rw [decide_eq_true rfl]
  have k6 := (k5.same (Keep.alloc _ w5 _)).same (hd.keep _)
  clear k5 hs hd
  go_wp2_with fail
  go_ret
  exact ⟨rfl, by have := k6; rw [HB.out] at this ⊢; exact this.new⟩
end Go.Proofs.Ytcalfjakgidhfaa
