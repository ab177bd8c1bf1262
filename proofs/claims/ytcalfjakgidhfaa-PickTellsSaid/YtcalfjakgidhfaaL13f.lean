/- Chapter 13: what was put into both stores. -/
import Derived.Test.YtcalfjakgidhfaaR5
import Derived.Test.YtcalfjakgidhfaaL13
namespace Go.Proofs.Ytcalfjakgidhfaa
open Go.RowKit
set_option linter.unusedVariables false
set_option linter.unusedSimpArgs false

structure PutV where
  k : Int
  blob : ByteArray
  gone : Bool
def putV (a : PutV) : List Value := [.int .i64 a.k, .string a.blob, .bool a.gone]
def putSum (l : List PutV) : Nat := (l.map fun a => a.blob.size).sum
def PutV.wf (a : PutV) : Prop := (-9223372036854775808 ≤ a.k ∧ a.k ≤ 9223372036854775807) ∧ a.blob.size ≤ 140737488351232

theorem putSum_le {l : List PutV} (h : ∀ a ∈ l, a.wf) : putSum l ≤ l.length * 140737488351232 := by
  induction l with
  | nil => simp [putSum]
  | cons x l ih =>
    have := ih fun a ha => h a (List.mem_cons_of_mem _ ha)
    have hx := h x List.mem_cons_self
    simp only [putSum, List.map_cons, List.sum_cons, List.length_cons] at this ⊢
    have h1 := hx.2; omega
theorem putSum_take {l : List PutV} {k : Nat} {a : PutV} (h : l[k]? = some a) : putSum (l.take (k + 1)) = putSum (l.take k) + (a.blob.size) := by
  rw [take_succ_get h]; simp [putSum]

def light13B (l : List PutV) : Bool := decide (l.length ≤ 100) && decide (putSum l ≤ 5000)

set_option maxHeartbeats 800000 in
theorem light13_calls (w : World) (v : Value) (l : List PutV) (hv : rowsOf 3 putV w v l) (hw : ∀ a ∈ l, a.wf) :
    Calls Try.prog 25 #[v] w fun e w' => e = .returned (.bool (light13B l)) ∧ Drawn w w' := by
  obtain ⟨A, c, rfl, h1, h2, h3⟩ := hv
  have HW := Lib.hid hw
  clear hw
  go_enter Try.func25, Try.ntmps25
  go_wp2
  go_loopw [3, 4] (fun s i wr => ∃ k : Nat, ∃ t : Int, k ≤ l.length ∧ i = .int .i64 k ∧ s = .int .i64 t ∧ Hid (k ≤ 100 → t = putSum (l.take k)) ∧ Drawn w wr) (fun _ i _ => l.length - (intOf i).toNat)
  case atStart => exact ⟨0, 0, Nat.zero_le _, rfl, rfl, fun _ => rfl, Drawn.refl w⟩
  case round =>
    obtain ⟨k, t, hk, rfl, rfl, HT, ⟨n, rfl⟩⟩ := hrel
    by_cases hlt : k < l.length
    · obtain ⟨x, hx⟩ : ∃ x, l[k]? = some x := ⟨_, List.getElem?_eq_getElem hlt⟩
      obtain ⟨b, off, rfl, hc⟩ := h3 (by omega)
      have c1 := hc k x hx 1 _ rfl
      have HX := Lib.hid hx
      clear hc h3 hx
      go_wp2
      go_roundw
      case rel =>
        refine ⟨k + 1, _, by omega, by go_num, rfl, fun hk1 => ?_, _, rfl⟩
        have ht := HT.out (by omega)
        have h5 := (HW.out x (List.mem_of_getElem? HX.out)).2
        have h6 := putSum_le (l := l.take k) fun a ha => HW.out a (List.mem_of_mem_take ha)
        have h7 : (l.take k).length ≤ 100 := by have := List.length_take_le k l; omega
        rw [putSum_take HX.out, ht]
        have h10 : (putSum (l.take k) : Int) ≤ 100 * 140737488351232 := by
          have : putSum (l.take k) ≤ 100 * 140737488351232 := Nat.le_trans h6 (Nat.mul_le_mul_right _ h7)
          omega
        rw [IntWalk.wrap64_in _ ⟨by omega, by omega⟩]
        omega
      case measure => simp [intOf]; omega
    · have hkl : k = l.length := by omega
      have E : Hid (l.length ≤ 100 → light13B l = decide (t ≤ 5000)) := fun h100 => by
        have ht := HT.out (by omega)
        rw [hkl, List.take_length] at ht
        rw [ht, light13B]; simp [h100]; omega
      have E' : Hid (¬ l.length ≤ 100 → light13B l = false) := fun h100 => by rw [light13B]; simp [h100]
      clear hkl
      by_cases h100 : l.length ≤ 100
      · have e1 : decide ((l.length : Int) ≤ 100) = true := by simp; omega
        go_wp2
        go_ret
        exact ⟨by rw [E.out (by omega)]; rfl, _, rfl⟩
      · have e1 : decide ((l.length : Int) ≤ 100) = false := by simp; omega
        go_wp2
        go_ret
        exact ⟨by rw [E'.out (by omega)]; rfl, _, rfl⟩


/-- Both stores lie in memory, apart from each other, from block B on. -/
def Both (w : World) (vs vr : Value) (S : St) (R : RS) (B : Nat) : Prop := ∃ F G : Nat → Prop, IsStore w vs S F ∧ IsRef w vr R G ∧ (∀ k, F k → B ≤ k ∧ ¬ G k) ∧ ∀ k, G k → B ≤ k
theorem Both.below {w w' : World} {vs vr : Value} {S : St} {R : RS} {B : Nat} (h : Both w vs vr S R B) (k : Below w.heap.size w w') : Both w' vs vr S R B := by
  obtain ⟨F, G, h1, h2, h3, h4⟩ := h
  exact ⟨F, G, h1.keep (Keep.of_below k (F := fun _ => False)) fun _ _ e => e, h2.keep (Keep.of_below k (F := fun _ => False)) fun _ _ e => e, h3, h4⟩
theorem Both.ptr {w : World} {vs vr : Value} {S : St} {R : RS} {B : Nat} (h : Both w vs vr S R B) : (∃ b, vs = .pointer (some ⟨b, 0, none⟩)) ∧ ∃ b, vr = .pointer (some ⟨b, 0, none⟩) := by
  obtain ⟨F, G, h1, h2, h3, h4⟩ := h; exact ⟨h1.ptr, h2.ptr⟩
theorem Both.store {w : World} {vs vr : Value} {S : St} {R : RS} {B : Nat} (h : Both w vs vr S R B) : StoreB w vs S B := by
  obtain ⟨F, G, h1, h2, h3, h4⟩ := h; exact h1.wider (fun k hk => ⟨(h3 k hk).1, h1.lt k hk⟩) fun k hk => hk.2
theorem both_new (w1 w2 : World) (vs vr : Value) (B : Nat) (hB : B ≤ w1.heap.size) (h1 : StoreB w1 vs St.new B) (h2 : IsRef w2 vr RS.new (fun k => w1.heap.size ≤ k ∧ k < w2.heap.size)) (h3 : Below w1.heap.size w1 w2) : Both w2 vs vr St.new RS.new B :=
  ⟨_, _, IsStore.keep h1 (Keep.of_below h3 (F := fun _ => False)) fun _ _ e => e, h2, fun k hk => ⟨hk.1, fun e => by have := hk.2; omega⟩, fun k hk => Nat.le_trans hB hk.1⟩
theorem both_sput {w : World} {vs vr : Value} {S : St} {R : RS} {B : Nat} (h : Both w vs vr S R B) (hB : B ≤ w.heap.size) (key blob : ByteArray) : Calls Try.prog 19 #[vs, .string key, .string blob] w fun e w' => ∃ z, e = .returned (.int .i64 z) ∧ Both w' vs vr (S.put key blob) R B ∧ Keep (fun k => B ≤ k) w w' := by
  obtain ⟨F, G, h1, h2, h3, h4⟩ := h
  refine (store_put h1 key blob).mono fun e w' ⟨e1, e2, e3⟩ => ⟨_, e1, ⟨_, G, e2, h2.keep e3 (fun k hk e => (h3 k e).2 hk), fun k hk => ?_, h4⟩, e3.mono fun k hk => (h3 k hk).1⟩
  rcases hk with hk | hk
  · exact h3 k hk
  · exact ⟨Nat.le_trans hB hk.1, fun e => by have := h2.lt k e; omega⟩
theorem both_sdel {w : World} {vs vr : Value} {S : St} {R : RS} {B : Nat} (h : Both w vs vr S R B) (key : ByteArray) : Calls Try.prog 18 #[vs, .string key] w fun e w' => ∃ z, e = .returned (.int .i64 z) ∧ Both w' vs vr (S.del key) R B ∧ Keep (fun k => B ≤ k) w w' := by
  obtain ⟨F, G, h1, h2, h3, h4⟩ := h
  exact (store_delete h1 key).mono fun e w' ⟨e1, e2, e3⟩ => ⟨_, e1, ⟨F, G, e2, h2.keep e3 (fun k hk e => (h3 k e).2 hk), h3, h4⟩, e3.mono fun k hk => (h3 k hk).1⟩
theorem both_rput {w : World} {vs vr : Value} {S : St} {R : RS} {B : Nat} (h : Both w vs vr S R B) (hB : B ≤ w.heap.size) (key blob : ByteArray) : Calls Try.prog 41 #[vr, .string key, .string blob] w fun e w' => ∃ z, e = .returned (.int .i64 z) ∧ Both w' vs vr S (R.put key blob) B ∧ Keep (fun k => B ≤ k) w w' := by
  obtain ⟨F, G, h1, h2, h3, h4⟩ := h
  refine (ref_put h2 key blob).mono fun e w' ⟨e1, e2, e3⟩ => ⟨_, e1, ⟨F, _, h1.keep e3 (fun k hk e => (h3 k hk).2 e), e2, fun k hk => ⟨(h3 k hk).1, fun e => ?_⟩, fun k hk => ?_⟩, e3.mono fun k hk => h4 k hk⟩
  · rcases e with e | e
    · exact (h3 k hk).2 e
    · have := h1.lt k hk; omega
  · rcases hk with hk | hk
    · exact h4 k hk
    · exact Nat.le_trans hB hk.1
theorem both_rdel {w : World} {vs vr : Value} {S : St} {R : RS} {B : Nat} (h : Both w vs vr S R B) (key : ByteArray) : Calls Try.prog 40 #[vr, .string key] w fun e w' => ∃ z, e = .returned (.int .i64 z) ∧ Both w' vs vr S (R.del key) B ∧ Keep (fun k => B ≤ k) w w' := by
  obtain ⟨F, G, h1, h2, h3, h4⟩ := h
  exact (ref_delete h2 key).mono fun e w' ⟨e1, e2, e3⟩ => ⟨_, e1, ⟨F, G, h1.keep e3 (fun k hk e => (h3 k hk).2 e), e2, h3, h4⟩, e3.mono fun k hk => h4 k hk⟩

theorem put_cells {w wr : World} {A : Option Addr} {n c k : Nat} {l : List PutV} {x : PutV} (hv : rowsOf 3 putV w (.slice A n c) l) (hb : Below w.heap.size w wr) (hx : l[k]? = some x) (b off : Nat) (hA : A = some ⟨b, off, none⟩) :
    wr.cell? ⟨b, off + k * 3, none⟩ = some (.int .i64 x.k) ∧ wr.cell? ⟨b, off + k * 3 + 1, none⟩ = some (.string x.blob) ∧ wr.cell? ⟨b, off + k * 3 + 2, none⟩ = some (.bool x.gone) := by
  obtain ⟨A', c', e, _, _, h3⟩ := hv.below hb
  have hlt := (List.getElem?_eq_some_iff.1 hx).1
  obtain ⟨b', off', rfl, hc⟩ := h3 (by omega)
  cases e
  cases hA
  exact ⟨hc k x hx 0 _ rfl, hc k x hx 1 _ rfl, hc k x hx 2 _ rfl⟩

def kk (a : PutV) : ByteArray := key13 (pickZ a.k 4)
def St.step (S : St) (a : PutV) : St := if a.gone = true then S.del (kk a) else S.put (kk a) a.blob
def RS.step (R : RS) (a : PutV) : RS := if a.gone = true then R.del (kk a) else R.put (kk a) a.blob
def fillS (l : List PutV) : St := l.foldl St.step St.new
def fillR (l : List PutV) : RS := l.foldl RS.step RS.new
theorem fillS_succ {l : List PutV} {k : Nat} {a : PutV} (h : l[k]? = some a) : fillS (l.take (k + 1)) = (fillS (l.take k)).step a := by rw [take_succ_get h]; simp [fillS]
theorem fillR_succ {l : List PutV} {k : Nat} {a : PutV} (h : l[k]? = some a) : fillR (l.take (k + 1)) = (fillR (l.take k)).step a := by rw [take_succ_get h]; simp [fillR]

set_option maxRecDepth 100000 in
set_option maxHeartbeats 1000000 in
theorem filled_calls (w : World) (v : Value) (l : List PutV) (hv : rowsOf 3 putV w v l) (hw : ∀ a ∈ l, a.wf) :
    Calls Try.prog 26 #[v] w fun e w' => ∃ vs vr, e = .returned (.tuple #[vs, vr]) ∧ Both w' vs vr (fillS (l.take 60)) (fillR (l.take 60)) w.heap.size ∧ Below w.heap.size w w' := by
  obtain ⟨B, hB⟩ : ∃ B, B = w.heap.size := ⟨_, rfl⟩
  rw [← hB]
  have HB := Lib.hid hB
  clear hB
  have HV := Lib.hid hv
  obtain ⟨A, c, rfl, hlc, hmx, h3⟩ := hv
  have HW := Lib.hid hw
  clear hw h3
  go_enter Try.func26, Try.ntmps26
  go_wp2_with fail
  refine (storeB_new w B (by rw [HB.out]; exact Nat.le_refl _)).mono ?_
  rintro e w1 ⟨vs, rfl, hS, hb1⟩
  go_wp2_with fail
  refine (ref_new w1).mono ?_
  rintro e w2 ⟨vr, rfl, hR, hb2⟩
  have hBo := both_new w1 w2 vs vr B (by rw [HB.out]; exact hb1.size) hS hR hb2
  have hk : Keep (fun k => B ≤ k) w w2 := Keep.of_below (hb1.trans (hb2.mono hb1.size))
  obtain ⟨⟨bs, rfl⟩, ⟨br, rfl⟩⟩ := hBo.ptr
  have HBo : Hid (Both w2 (.pointer (some ⟨bs, 0, none⟩)) (.pointer (some ⟨br, 0, none⟩)) (fillS (l.take 0)) (fillR (l.take 0)) B ∧ Keep (fun k => B ≤ k) w w2) := ⟨hBo, hk⟩
  clear hS hR hb1 hb2 hBo hk
  go_wp2_with fail
  go_loopw [6] (fun i wr => ∃ k : Nat, k ≤ l.length ∧ k ≤ 60 ∧ i = .int .i64 k ∧ Hid (Both wr (.pointer (some ⟨bs, 0, none⟩)) (.pointer (some ⟨br, 0, none⟩)) (fillS (l.take k)) (fillR (l.take k)) B ∧ Keep (fun k => B ≤ k) w wr)) (fun i _ => 60 - (intOf i).toNat)
  case atStart => exact ⟨0, Nat.zero_le _, Nat.zero_le _, rfl, HBo⟩
  case round =>
    clear HBo
    obtain ⟨k, hk1, hk2, rfl, HBo⟩ := hrel
    have hBr : B ≤ wr.heap.size := by rw [HB.out]; exact HBo.out.2.size
    by_cases hlt : k < l.length
    · by_cases hlt2 : k < 60
      · obtain ⟨x, hx⟩ : ∃ x, l[k]? = some x := ⟨_, List.getElem?_eq_getElem hlt⟩
        have hxw := HW.out x (List.mem_of_getElem? hx)
        have hA : ∃ b off, A = some ⟨b, off, none⟩ := by
          obtain ⟨A', c', e, _, _, h3⟩ := HV.out
          obtain ⟨b', off', rfl, hc⟩ := h3 (by omega)
          cases e; exact ⟨b', off', rfl⟩
        obtain ⟨b, off, rfl⟩ := hA
        have HX := Lib.hid hx
        have hp4 := pickZ_lt x.k (n := 4) (by omega)
        obtain ⟨p, hp⟩ : ∃ p, pickZ x.k 4 = p := ⟨_, rfl⟩
        rw [hp] at hp4
        have hkk : kk x = key13 p := by unfold kk; rw [hp]
        have HKK := Lib.hid hkk
        have HP := Lib.hid hp
        have CC : ∀ wz, Keep (fun k => B ≤ k) w wz → wz.cell? ⟨b, off + k * 3, none⟩ = some (.int .i64 x.k) ∧ wz.cell? ⟨b, off + k * 3 + 1, none⟩ = some (.string x.blob) ∧ wz.cell? ⟨b, off + k * 3 + 2, none⟩ = some (.bool x.gone) := fun wz hz =>
          put_cells HV.out (by rw [HB.out] at hz; exact hz.new) HX.out b off rfl
        have HC := Lib.hid CC
        clear hx hp hkk CC
        obtain ⟨q0, q1, q2⟩ := HC.out wr HBo.out.2
        go_wp2_with fail
        refine (which_calls x.k 4 _ hxw.1.1 hxw.1.2 (by omega) (by omega)).mono ?_
        rintro e w3 ⟨rfl, rfl⟩
        rw [HP.out]
        go_wp2_with fail
        refine (keys_calls p _ (by omega) (by omega)).mono ?_
        rintro e w3 ⟨rfl, hb3⟩
        rw [← HKK.out]
        have HB3 : Hid (Both w3 (.pointer (some ⟨bs, 0, none⟩)) (.pointer (some ⟨br, 0, none⟩)) (fillS (l.take k)) (fillR (l.take k)) B ∧ Keep (fun k => B ≤ k) w w3) := ⟨HBo.out.1.below hb3, HBo.out.2.same (Keep.of_below hb3)⟩
        have hB3 : B ≤ w3.heap.size := by rw [HB.out]; exact HB3.out.2.size
        clear q0 q1 q2 hb3 HBo
        obtain ⟨q0, q1, q2⟩ := HC.out w3 HB3.out.2
        cases hg : x.gone with
        | true =>
          rw [hg] at q2
          have HG := Lib.hid hg
          clear hg
          go_wp2_with fail
          refine (both_sdel HB3.out.1 _).mono ?_
          rintro e w4 ⟨z4, rfl, hB4, hk4⟩
          have HB4 : Hid (Both w4 (.pointer (some ⟨bs, 0, none⟩)) (.pointer (some ⟨br, 0, none⟩)) ((fillS (l.take k)).del (kk x)) (fillR (l.take k)) B ∧ Keep (fun k => B ≤ k) w w4) := ⟨hB4, HB3.out.2.same hk4⟩
          clear hB4 hk4 HB3 q0 q1 q2
          go_wp2_with fail
          refine (both_rdel HB4.out.1 _).mono ?_
          rintro e w5 ⟨z5, rfl, hB5, hk5⟩
          have HB5 : Hid (Both w5 (.pointer (some ⟨bs, 0, none⟩)) (.pointer (some ⟨br, 0, none⟩)) (fillS (l.take (k + 1))) (fillR (l.take (k + 1))) B ∧ Keep (fun k => B ≤ k) w w5) := ⟨by
            rw [fillS_succ HX.out, fillR_succ HX.out, St.step, RS.step, if_pos HG.out, if_pos HG.out]; exact hB5, HB4.out.2.same hk5⟩
          clear hB5 hk5 HB4
          go_wp2_with fail
          go_roundw
          case rel => exact ⟨k + 1, by omega, by omega, by go_num, HB5⟩
          case measure => simp [intOf]; omega
        | false =>
          rw [hg] at q2
          have HG := Lib.hid hg
          clear hg
          go_wp2_with fail
          refine (both_sput HB3.out.1 hB3 _ _).mono ?_
          rintro e w4 ⟨z4, rfl, hB4, hk4⟩
          have HB4 : Hid (Both w4 (.pointer (some ⟨bs, 0, none⟩)) (.pointer (some ⟨br, 0, none⟩)) ((fillS (l.take k)).put (kk x) x.blob) (fillR (l.take k)) B ∧ Keep (fun k => B ≤ k) w w4) := ⟨hB4, HB3.out.2.same hk4⟩
          have hB4' : B ≤ w4.heap.size := by rw [HB.out]; exact HB4.out.2.size
          clear hB4 hk4 HB3 q0 q1 q2
          obtain ⟨q0, q1, q2⟩ := HC.out w4 HB4.out.2
          go_wp2_with fail
          refine (both_rput HB4.out.1 hB4' _ _).mono ?_
          rintro e w5 ⟨z5, rfl, hB5, hk5⟩
          have HB5 : Hid (Both w5 (.pointer (some ⟨bs, 0, none⟩)) (.pointer (some ⟨br, 0, none⟩)) (fillS (l.take (k + 1))) (fillR (l.take (k + 1))) B ∧ Keep (fun k => B ≤ k) w w5) := ⟨by
            have hG : ¬ x.gone = true := by rw [HG.out]; decide
            rw [fillS_succ HX.out, fillR_succ HX.out, St.step, RS.step, if_neg hG, if_neg hG]; exact hB5, HB4.out.2.same hk5⟩
          clear hB5 hk5 HB4 q0 q1 q2
          go_wp2_with fail
          go_roundw
          case rel => exact ⟨k + 1, by omega, by omega, by go_num, HB5⟩
          case measure => simp [intOf]; omega
      · have hE : l.take 60 = l.take k := by rw [show k = 60 by omega]
        rw [← hE] at HBo
        clear hE
        go_wp2_with fail
        go_ret2
        exact ⟨_, _, rfl, HBo.out.1, by have := HBo.out.2; rw [HB.out] at this ⊢; exact this.new⟩
    · have hE : l.take 60 = l.take k := by rw [List.take_of_length_le (show l.length ≤ 60 by omega), List.take_of_length_le (show l.length ≤ k by omega)]
      rw [← hE] at HBo
      clear hE
      go_wp2_with fail
      go_ret2
      exact ⟨_, _, rfl, HBo.out.1, by have := HBo.out.2; rw [HB.out] at this ⊢; exact this.new⟩
end Go.Proofs.Ytcalfjakgidhfaa
