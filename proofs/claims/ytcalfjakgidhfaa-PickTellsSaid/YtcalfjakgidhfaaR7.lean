/- The document's store: List. -/
import Derived.Test.YtcalfjakgidhfaaR6
namespace Go.Proofs.Ytcalfjakgidhfaa
open Go.RowKit
set_option linter.unusedVariables false
set_option linter.unusedSimpArgs false

def preB (p s : ByteArray) : Bool := decide (p.size ≤ s.size) && decide (s.extract 0 p.size = p)
def rsel (p : ByteArray) (x : ByteArray × List ByteArray × Bool) : Bool := x.2.2 && preB p x.1
def RS.list (R : RS) (p : ByteArray) : List ByteArray := sortB ((R.c.filter (rsel p)).map (·.1))
def rgot (p : ByteArray) (rows : List RR) (k : Nat) : List ByteArray := (((rows.take k).map RR.un).filter (rsel p)).map (·.1)
theorem rgot_succ {p : ByteArray} {rows : List RR} {k : Nat} {r : RR} (h : rows[k]? = some r) : rgot p rows (k + 1) = if (r.is && preB p r.key) = true then rgot p rows k ++ [r.key] else rgot p rows k := by
  unfold rgot
  rw [take_succ_get h, List.map_append, List.filter_append, List.map_append]
  have e : rsel p r.un = (r.is && preB p r.key) := rfl
  simp only [List.map_cons, List.map_nil, List.filter_cons, List.filter_nil]
  rw [e]; split <;> simp [RR.un]
theorem rgot_len (p : ByteArray) (rows : List RR) (k : Nat) : (rgot p rows k).length ≤ rows.length := by
  unfold rgot
  rw [List.length_map]
  refine Nat.le_trans (List.length_filter_le _ _) ?_
  simp; omega

set_option maxRecDepth 100000 in
set_option maxHeartbeats 2000000 in
theorem ref_list {w : World} {v : Value} {R : RS} {G : Nat → Prop} (h : IsRef w v R G) (hf : R.fine) (p : ByteArray) (hps : p.size ≤ 9223372036854775807) :
    Calls Try.prog 49 #[v, .string p] w fun e w' => ∃ v', e = .returned v' ∧ w'.ownsRow w.heap.size 9 1 v' (R.list p).length (strV (R.list p)) ∧ Below w.heap.size w w' := by
  obtain ⟨b, Cv, rows, rfl, h2, h3, h4, h5, h6, h7, h8, h9, g1, g2, g3, g4⟩ := h
  have hsz : ∀ k, ∀ s ∈ rgot p rows k, s.size ≤ 9223372036854775807 := fun k s hs => by
    obtain ⟨x, hx, rfl⟩ := List.mem_map.1 hs
    obtain ⟨r, hr, rfl⟩ := List.mem_map.1 (List.mem_filter.1 hx).1
    have := (hf r.un (by rw [h6]; exact List.mem_map.2 ⟨r, List.mem_of_mem_take hr, rfl⟩)).2
    omega
  have hks : ∀ (k : Nat) (r : RR), rows[k]? = some r → r.key.size ≤ 200 := fun k r hr => (hf r.un (by rw [h6]; exact List.mem_map.2 ⟨r, List.mem_of_getElem? hr, rfl⟩)).2
  have hall : (R.c.filter (rsel p)).map (·.1) = rgot p rows rows.length := by unfold rgot; rw [List.take_length, h6]
  have HA : Hid (R.list p = sortB (rgot p rows rows.length)) := Lib.hid (by unfold RS.list; rw [hall])
  have hrl : rows.length ≤ 2000 := Nat.le_trans h8 h7
  obtain ⟨A, c, rfl, hrc, _⟩ := own_slice h3
  have H2 := Lib.hid h2
  have H3 := Lib.hid h3
  have HS := Lib.hid hsz
  have HK := Lib.hid hks
  obtain ⟨B, hB⟩ : ∃ B, B = w.heap.size := ⟨_, rfl⟩
  have G1 : Hid (b < B) := Lib.hid (by rw [hB]; exact g4 _ g1)
  rw [← hB]
  have HB := Lib.hid hB
  clear hB h2 h3 h4 h5 h6 h7 h8 h9 g1 g2 g3 g4 hsz hall hks hf
  go_enter Try.func49, Try.ntmps49
  go_wp2
  go_loopw [5, 6, 7] (fun out i kk wr => ∃ k : Nat, k ≤ rows.length ∧ i = .int .i64 k ∧ Hid (wr.ownsRow B 9 1 out (rgot p rows k).length (strV (rgot p rows k)) ∧ Keep (fun k => B ≤ k) w wr)) (fun _ i _ _ => rows.length - (intOf i).toNat)
  case atStart => exact ⟨0, Nat.zero_le _, rfl, own_nil _ _ _ _, Keep.refl _ _⟩
  case round =>
    obtain ⟨k, hk, rfl, HO⟩ := hrel
    have K1 : Hid (Keep (fun _ => False) w wr) := by have := HO.out.2; rw [HB.out] at this; exact Keep.of_below this.new
    have c0 := cell_of_row wr b 0 _ _ _ (K1.out.at H2.out fun e => e)
    simp at c0
    by_cases hlt : k < rows.length
    · obtain ⟨⟨xk, xv, xl, xis⟩, hx⟩ : ∃ x, rows[k]? = some x := ⟨_, List.getElem?_eq_getElem hlt⟩
      obtain ⟨g, cap, hgg, _, d0, d1, d2⟩ := ref_cell H3.out hx
      cases hgg
      have d0 := K1.out.cell d0 fun e => e
      have d2 := K1.out.cell d2 fun e => e
      dsimp only at d0 d2
      have hst := rgot_succ (p := p) hx
      dsimp only at hst
      have hxs := HK.out k _ hx
      dsimp only at hxs
      have ho := HO.out.1
      have hlen := rgot_len p rows k
      have hil : (k : Int) < rows.length := by omega
      cases xis with
      | false =>
        simp only [Bool.false_and, Bool.false_eq_true, if_false] at hst
        rw [← hst] at HO
        clear d1 hst hx ho hlen
        go_wp2
        go_roundw
        case rel => exact ⟨k + 1, by omega, by go_num, HO⟩
        case measure => simp [intOf]; omega
      | true =>
        simp only [Bool.true_and] at hst
        by_cases hz : p.size ≤ xk.size
        · by_cases he : xk.extract 0 p.size = p
          · have hp : preB p xk = true := by simp [preB, hz, he]
            rw [if_pos hp] at hst
            obtain ⟨v', w4, hrun4, hown4, hk4⟩ := append_str ho xk (by omega) (by have := HO.out.2.size; rw [HB.out]; exact this)
            rw [← hst] at hown4
            have hkp := HO.out.2.trans hk4 fun i e => Or.inl (own_new ho i e)
            have HN : Hid (w4.ownsRow B 9 1 v' (rgot p rows (k + 1)).length (strV (rgot p rows (k + 1))) ∧ Keep (fun k => B ≤ k) w w4) := ⟨hown4, hkp⟩
            have e1 : ((xk.extract 0 p.size).toList == p.toList) = true := by rw [he]; simp
            have e3 : decide ((p.size : Int) ≤ xk.size) = true := by simp; omega
            clear d1 hst hx ho hlen hp HO hown4 hkp hk4 he
            go_wp2_with (at_builtin; refine wp_append_run rfl _ _ _ rfl rfl rfl hrun4 ?_)
            go_roundw
            case rel => exact ⟨k + 1, by omega, by go_num, HN⟩
            case measure => simp [intOf]; omega
          · have hp : preB p xk = false := by simp [preB, hz, he]
            rw [hp] at hst
            simp only [Bool.false_eq_true, if_false] at hst
            rw [← hst] at HO
            have e1 : ((xk.extract 0 p.size).toList == p.toList) = false := by rw [beq_eq_false_iff_ne]; exact fun e => he (list_inj e)
            clear d1 hst hx ho hlen hp he
            go_wp2
            go_roundw
            case rel => exact ⟨k + 1, by omega, by go_num, HO⟩
            case measure => simp [intOf]; omega
        · have hp : preB p xk = false := by simp [preB, hz]
          rw [hp] at hst
          simp only [Bool.false_eq_true, if_false] at hst
          rw [← hst] at HO
          clear d1 hst hx ho hlen hp
          go_wp2
          go_roundw
          case rel => exact ⟨k + 1, by omega, by go_num, HO⟩
          case measure => simp [intOf]; omega
    · have hkl : k = rows.length := by omega
      subst hkl
      have hil : ¬ (rows.length : Int) < rows.length := by omega
      go_wp2_with fail
      refine (rrising_calls HO.out.1 (HS.out _)).mono ?_
      rintro e w2 ⟨rfl, ho2, hk2⟩
      have hk3 : Keep (fun k => B ≤ k) w w2 := HO.out.2.trans hk2 fun i hi => Or.inl (own_new HO.out.1 i hi)
      rw [← HA.out] at ho2
      have hlen2 : (rgot p rows rows.length).length = (R.list p).length := by rw [HA.out, sortB_length]
      rw [hlen2] at ho2
      have HO2 := Lib.hid ho2
      have HK2 := Lib.hid hk3
      clear ho2 hk2 hk3 hlen2 HO
      go_wp2_with fail
      go_ret
      exact ⟨_, rfl, HO2.out, by have := HK2.out; rw [HB.out] at this ⊢; exact this.new⟩
end Go.Proofs.Ytcalfjakgidhfaa
