/- The store's List: the keys of all that is there that begin so, rising. -/
import Derived.Test.YtcalfjakgidhfaaSort
import Derived.Test.YtcalfjakgidhfaaBRange
import Derived.Test.YtcalfjakgidhfaaClone
import Derived.Deep.LoopGhost
namespace Go.Proofs.Ytcalfjakgidhfaa
open Go.RowKit Go.Sort
set_option linter.unusedVariables false
set_option linter.unusedSimpArgs false

def hasPre (p s : ByteArray) : Bool := Lib.hasPrefix s.data.toList p.data.toList
def St.list (S : St) (p : ByteArray) : List ByteArray := sortB ((akeys S.there).filter (hasPre p))

theorem hasPrefix_calls (s p : ByteArray) (w : World) : Calls Try.prog 43 #[.string s, .string p] w fun e w' => e = .returned (.bool (hasPre p s)) ∧ w = w' :=
  (Try.strings_HasPrefix s p w).mono fun e w' ⟨h1, h2⟩ => ⟨h1, h2.symm⟩

/-- what has been gathered, and what is still to come, make the whole -/
def Gather (p : ByteArray) (T : List (ByteArray × Nat)) (out : List ByteArray) (left : List (ByteArray × Value)) : Prop :=
  (out ++ (akeys left).filter (hasPre p)).Perm ((akeys T).filter (hasPre p))
theorem gather_start (p : ByteArray) (T : List (ByteArray × Nat)) (f : Nat → Value) : Gather p T [] (amap f T) := by
  unfold Gather; rw [akeys_amap]; exact List.Perm.refl _
theorem gather_step {p k : ByteArray} {v : Value} {T : List (ByteArray × Nat)} {out : List ByteArray} {left : List (ByteArray × Value)} (h : Gather p T out left) (hn : (akeys left).Nodup) (hm : (k, v) ∈ left) :
    Gather p T (if hasPre p k then out ++ [k] else out) (adel left k) := by
  unfold Gather at *
  have hp : (akeys left).Perm (k :: akeys (adel left k)) := (perm_take hn hm).map Prod.fst
  have h2 := h.symm.trans (List.Perm.append_left out (hp.filter (hasPre p)))
  rw [List.filter_cons] at h2
  cases e : hasPre p k with
  | true =>
    rw [e] at h2; simp only [if_true] at h2 ⊢
    rw [List.append_assoc]; exact h2.symm
  | false =>
    rw [e] at h2; simp only [Bool.false_eq_true, if_false] at h2 ⊢
    exact h2.symm
theorem gather_end {p : ByteArray} {T : List (ByteArray × Nat)} {out : List ByteArray} (h : Gather p T out []) : out.Perm ((akeys T).filter (hasPre p)) := by
  unfold Gather at h; simpa [akeys] using h
theorem gather_len {p : ByteArray} {T : List (ByteArray × Nat)} {out : List ByteArray} {left : List (ByteArray × Value)} (h : Gather p T out left) : out.length ≤ T.length := by
  have h1 := h.length_eq
  rw [List.length_append] at h1
  have := List.length_filter_le (hasPre p) (akeys T)
  simp only [akeys, List.length_map] at this h1; omega

set_option maxRecDepth 100000 in
set_option maxHeartbeats 400000 in
theorem store_list {w : World} {v : Value} {S : St} {F : Nat → Prop} (h : IsStore w v S F) (p : ByteArray) : Calls Try.prog 32 #[v, .string p] w fun e w' => ∃ v', e = .returned v' ∧ w'.ownsRow w.heap.size 9 1 v' (S.list p).length (strV (S.list p)) ∧ Below w.heap.size w w' := by
  obtain ⟨b, be, bt, rows, rfl, h2, h3, h4, h5, h6, h7, hne, h8, h9, h10, h11, h12, h13⟩ := h
  have c1 := cell_of_row w b 1 _ _ _ h2
  simp at c1
  have hbt : bt < w.heap.size := h5.lt
  have hlen : S.there.length ≤ 100000 := by have := h13.tlen; have := h13.puts; omega
  clear h2 h3 h4 h6 h7 hne h8 h9 h10 h11 h12 h13
  obtain ⟨i0, hi, hz0, hz1, hz2⟩ := info_parts info9
  obtain ⟨B, hB⟩ : ∃ B, B = w.heap.size := ⟨_, rfl⟩
  rw [← hB] at hbt ⊢
  have HB := Lib.hid hB
  clear hB
  go_enter Try.func32, Try.ntmps32
  go_wp2_with (at_range; refine wp_range rfl _ _ rfl 9 3 Try.underlying67 bt _ rfl h5 ?_; intro w1 hr1 hk1 hs1)
  go_frame
  rw [← HB.out] at hr1 ⊢
  have hg0 := gather_start p S.there (fun n => Value.int .i64 (Int.ofNat n))
  go_loopw [5] (fun out wr => ∃ l left, wr.ownsRow B 9 1 out l.length (strV l) ∧ sranges wr Value.string bt B (amap (fun n => Value.int .i64 (Int.ofNat n)) S.there) left ∧ Gather p S.there l left ∧ Keep (fun k => B ≤ k) w wr) (fun _ wr => leftN wr bt B)
  case atStart => exact ⟨[], _, own_nil _ _ _ _, hr1, hg0, hk1.mono fun _ e => e.elim⟩
  case round =>
    clear hr1 hk1 hs1 hg0
    obtain ⟨l, left, hown, hrg, hga, hkp⟩ := hrel
    have hl := gather_len hga
    go_wp2_with (at_next; refine wp_next rfl _ rfl bt B _ _ rfl hrg (fun h => by cases h; rfl) ?_ ?_)
    · intro hleft
      subst hleft
      have hfin : sortB l = S.list p := sortB_congr (gather_end hga)
      have HF := Lib.hid hfin
      clear hfin
      go_wp2_with fail
      refine (rising_calls hown (by omega)).mono ?_
      rintro e w2 ⟨rfl, ho2, hk2⟩
      have hall : Keep (fun k => B ≤ k) w w2 := hkp.trans hk2 fun i hi => Or.inl (own_new hown i hi)
      rw [HF.out] at ho2
      have hlen2 : l.length = (S.list p).length := by rw [← HF.out, sortB_length]
      rw [hlen2] at ho2
      have HO := Lib.hid ho2
      have HK := Lib.hid hall
      clear ho2 hall hlen2 hk2 hown hrg hga hkp
      go_wp2_with fail
      go_ret
      exact ⟨_, rfl, HO.out, by have := HK.out; rw [HB.out] at this ⊢; exact this.new⟩
    · intro k u w2 hm hrg2 hk2 hsz hen
      clear hsz
      have hga2 := gather_step hga hrg.nodup hm
      have hlt := filter_ne_length hm
      have hBw : B ≤ wr.heap.size := by rw [HB.out]; exact hkp.size
      have hBr : B < wr.heap.size := hrg.lt
      have hnb : ∀ i, u5.ownBlock = some i → i ≠ B := fun i hi e => iter_ne_own hrg hown (e ▸ hi)
      have hown2 := hk2.own hown fun i hi e => hnb i hi e
      have hkp2 : Keep (fun k => B ≤ k) w w2 := hkp.trans hk2 fun i e => Or.inl (Nat.le_of_eq e.symm)
      go_wp2_with fail
      refine (hasPrefix_calls k p _).mono ?_
      rintro e w3 ⟨rfl, rfl⟩
      cases hpk : hasPre p k with
      | true =>
        rw [hpk] at hga2
        simp only [if_true] at hga2
        have hl2 := gather_len hga2
        simp only [List.length_append, List.length_singleton] at hl2
        have HP := Lib.hid hpk
        have HG := Lib.hid hga2
        clear hpk hga2 hga
        obtain ⟨v', w4, hrun4, hown4', hk4⟩ := append_str hown2 k (by omega) (Nat.le_trans hBw hk2.size)
        have hrg4 := hrg2.kept hk4 (fun e => (show ¬ B ≤ bt by omega) (own_new hown bt e)) (fun e => hnb B e rfl)
        have hkp4 : Keep (fun k => B ≤ k) w w4 := hkp2.trans hk4 fun i e => Or.inl (own_new hown i e)
        have hlt' : leftN w4 bt B < leftN wr bt B := by rw [hrg4.left_eq, hrg.left_eq]; exact hlt
        have HR := Lib.hid hrg4
        have HK := Lib.hid hkp4
        have HO := Lib.hid hown4'
        have HL := Lib.hid hlt'
        clear hrg4 hkp4 hown4' hlt' hk4 hrg hrg2 hk2 hkp2 hkp hown hown2
        go_wp2_with (at_builtin; refine wp_append_run rfl _ _ _ rfl rfl rfl hrun4 ?_)
        go_roundw
        case rel => exact ⟨l ++ [k], _, HO.out, HR.out, HG.out, HK.out⟩
        case measure => exact HL.out
      | false =>
        rw [hpk] at hga2
        simp only [Bool.false_eq_true, if_false] at hga2
        have hlt' : leftN w2 bt B < leftN wr bt B := by rw [hrg2.left_eq, hrg.left_eq]; exact hlt
        have HR := Lib.hid hrg2
        have HK := Lib.hid hkp2
        have HO := Lib.hid hown2
        have HL := Lib.hid hlt'
        have HG := Lib.hid hga2
        clear hrg hrg2 hk2 hkp2 hkp hown hown2 hlt' hga2 hga hpk
        go_wp2_with fail
        go_roundw
        case rel => exact ⟨l, _, HO.out, HR.out, HG.out, HK.out⟩
        case measure => exact HL.out
end Go.Proofs.Ytcalfjakgidhfaa
