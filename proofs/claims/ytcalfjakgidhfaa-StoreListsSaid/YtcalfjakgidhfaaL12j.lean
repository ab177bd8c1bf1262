/- The law StoreLists, walked. -/
import Derived.Test.YtcalfjakgidhfaaL12i
import Derived.Deep.DeepCutAuto
namespace Go.Proofs.Ytcalfjakgidhfaa
open Go.RowKit Go.Sort
set_option linter.unusedVariables false
set_option linter.unusedSimpArgs false

set_option maxRecDepth 100000 in
set_option maxHeartbeats 4000000 in
theorem slists_calls (w : World) (v : Value) (l : List ActV) (v2 : Value) (m : List ActV) (hv : rowsOf 4 actV w v l) (hw : ∀ a ∈ l, a.wf) (hv2 : rowsOf 4 actV w v2 m) (hw2 : ∀ a ∈ m, a.wf) :
    Calls Try.prog 9 #[v, v2] w fun e w' => e = .returned (.bool true) ∧ Below w.heap.size w w' := by
  obtain ⟨B, hB⟩ : ∃ B, B = w.heap.size := ⟨_, rfl⟩
  rw [← hB]
  have HB := Lib.hid hB
  clear hB
  have HV := Lib.hid hv
  have HW := Lib.hid hw
  have HV2 := Lib.hid hv2
  have HW2 := Lib.hid hw2
  obtain ⟨A, c, rfl, hlc, hmx, h3⟩ := hv
  obtain ⟨A2, c2, rfl, hlc2, hmx2, h32⟩ := hv2
  clear hw h3 hw2 h32
  go_enter Try.func9, Try.ntmps9
  go_wp2_with fail
  refine (shown_calls _).mono ?_
  rintro e w1 ⟨rfl, hb1'⟩
  have W1 : Hid (Below w.heap.size w w1) := hb1'
  clear hb1'
  go_wp2_with fail
  refine (light_calls w1 _ l (HV.out.below W1.out) HW.out).mono ?_
  rintro e w2 ⟨rfl, hd2⟩
  have W2 : Hid (Below w.heap.size w w2) := W1.out.trans (hd2.below.mono W1.out.size)
  clear hd2
  go_wp2_with fail
  refine (light_calls w2 _ m (HV2.out.below W2.out) HW2.out).mono ?_
  rintro e w3 ⟨rfl, hd3⟩
  have W3 : Hid (Below w.heap.size w w3) := W2.out.trans (hd3.below.mono W2.out.size)
  clear hd3
  go_wp2_with fail
  refine (storeB_new w3 B (by rw [HB.out]; exact W3.out.size)).mono ?_
  rintro e w4 ⟨vs, rfl, hS, hb4⟩
  obtain ⟨bs, rfl⟩ := hS.ptr
  have S4 := Lib.hid hS
  have W4 : Hid (Below w.heap.size w w4) := W3.out.trans (hb4.mono W3.out.size)
  clear hS hb4
  cases hlb : lightB l with
  | false =>
    have HLB := Lib.hid hlb
    clear hlb
    go_wp2_with fail
    go_ret
    exact ⟨rfl, by rw [HB.out]; exact W4.out⟩
  | true =>
  cases hmb : lightB m with
  | false =>
    have HLB := Lib.hid hlb
    have HMB := Lib.hid hmb
    clear hlb hmb
    go_wp2_with fail
    go_ret
    exact ⟨rfl, by rw [HB.out]; exact W4.out⟩
  | true =>
  have hl100 : l.length ≤ 100 := by unfold lightB at hlb; simp at hlb; exact hlb.1
  have hm100 : m.length ≤ 100 := by unfold lightB at hmb; simp at hmb; exact hmb.1
  clear hlb hmb
  go_wp2_with fail
  go_loopw [9] (fun i wr => ∃ k : Nat, k ≤ l.length ∧ i = .int .i64 k ∧ Hid (StoreB wr (.pointer (some ⟨bs, 0, none⟩)) (runP (l.take k)) B ∧ Keep (fun k => B ≤ k) w wr)) (fun i _ => l.length - (intOf i).toNat)
  case atStart => exact ⟨0, Nat.zero_le _, rfl, S4.out, Keep.of_below W4.out⟩
  case round =>
    clear S4
    obtain ⟨k, hk, rfl, HO⟩ := hrel
    have hBr : B ≤ wr.heap.size := by rw [HB.out]; exact HO.out.2.size
    by_cases hlt : k < l.length
    · as_aux_lemma =>
      obtain ⟨x, hx⟩ : ∃ x, l[k]? = some x := ⟨_, List.getElem?_eq_getElem hlt⟩
      have hxw := HW.out x (List.mem_of_getElem? hx)
      have hA : ∃ b off, A = some ⟨b, off, none⟩ := by
        obtain ⟨A', c', e, _, _, h3⟩ := HV.out
        obtain ⟨b', off', rfl, hc⟩ := h3 (by omega)
        cases e; exact ⟨b', off', rfl⟩
      obtain ⟨b, off, rfl⟩ := hA
      have HX := Lib.hid hx
      have CC : ∀ wz, Keep (fun k => B ≤ k) w wz → wz.cell? ⟨b, off + k * 4, none⟩ = some (.int .i64 x.op) ∧ wz.cell? ⟨b, off + k * 4 + 1, none⟩ = some (.int .i64 x.k) ∧ wz.cell? ⟨b, off + k * 4 + 2, none⟩ = some (.string x.key) ∧ wz.cell? ⟨b, off + k * 4 + 3, none⟩ = some (.string x.blob) := fun wz hz =>
        act_at HV.out (by rw [HB.out] at hz; exact hz.new) HX.out b off rfl
      have HC := Lib.hid CC
      clear hx CC
      have Q1 := Lib.hid (HC.out wr HO.out.2)
      have HR1 : Hid (runP (l.take (k + 1)) = (runP (l.take k)).put (keyOf x.k x.key) x.blob) := Lib.hid (by rw [runP_succ HX.out]; rfl)
      go_wp2_with fail
      go_region_held3 (fun w' => w'.cell? ⟨b, off + k * 4, none⟩ = some (.int .i64 x.op) ∧ w'.cell? ⟨b, off + k * 4 + 1, none⟩ = some (.int .i64 x.k) ∧ w'.cell? ⟨b, off + k * 4 + 2, none⟩ = some (.string x.key) ∧ w'.cell? ⟨b, off + k * 4 + 3, none⟩ = some (.string x.blob))
        (first | exact Q1.out | exact Q2.out | exact Q3.out) (first
        | (go_at_call 16; refine (key_calls x.op x.k x.key x.blob _ hxw.2.1.1 hxw.2.1.2).mono ?_; rintro e w6 ⟨rfl, hb'⟩; have hb : Below wr.heap.size wr w6 := (Below.refl wr.heap.size wr).drew.trans hb'; have hB6 : B ≤ w6.heap.size := Nat.le_trans hBr hb.size; have HO2 : Hid (StoreB w6 (.pointer (some ⟨bs, 0, none⟩)) (runP (l.take k)) B ∧ Keep (fun k => B ≤ k) w w6) := Lib.hid ⟨HO.out.1.below hb, HO.out.2.same (Keep.of_below hb)⟩; have Q2 := Lib.hid (HC.out w6 HO2.out.2); clear hb hb')
        | (go_at_call 19; refine (storeB_put HO2.out.1 hB6 _ _).mono ?_; rintro e w7 ⟨rfl, ho7, hk7⟩; have HO3 : Hid (StoreB w7 (.pointer (some ⟨bs, 0, none⟩)) (runP (l.take (k + 1))) B ∧ Keep (fun k => B ≤ k) w w7) := Lib.hid ⟨by rw [HR1.out]; exact ho7, HO2.out.2.same hk7⟩; have Q3 := Lib.hid (HC.out w7 HO3.out.2); clear ho7 hk7))
      go_wp2_with fail
      refine ⟨⟨k + 1, by omega, by simp, HO3⟩, ?_⟩
      simp only [intOf]; omega
    · as_aux_lemma =>
      have hkl : l.take k = l := List.take_of_length_le (by omega)
      rw [hkl] at HO
      clear hkl
      obtain ⟨S, hS⟩ : ∃ S, runP l = S := ⟨_, rfl⟩
      have hall := runP_all l
      rw [hS] at hall HO
      have AL := Lib.hid hall
      have SL := Lib.hid (all_list hall)
      have hok := IsStore.ok HO.out.1
      have hel : S.ever.length ≤ 2000 := by
        have h1 := congrArg List.length hall.keys
        simp only [akeys, List.length_map] at h1
        have h2 := hok.tlen; have h3 := hok.puts; omega
      have hvl : ∀ k, (S.versions k).length ≤ 2000 := fun k => by
        unfold St.versions
        cases e : aget S.ever k with
        | none => simp
        | some y => have := hok.len k y e; have := hok.puts; simpa using (by omega : y.length ≤ 2000)
      have hll : (S.list ⟨#[]⟩).length ≤ 2000 := by
        rw [all_list hall]; unfold St.everK; rw [sortB_length]; simpa [akeys] using hel
      have VL := Lib.hid hvl
      have LL := Lib.hid hll
      have EL := Lib.hid hel
      clear hS hall hok hel hvl hll
      have O0 : Hid (Off wr (.pointer (some ⟨bs, 0, none⟩)) S B (fun _ => False)) := ⟨⟨_, HO.out.1, fun k hk => ⟨hk.1, fun e => e⟩⟩, fun _ e => e.elim⟩
      have K0 := Lib.hid HO.out.2
      clear HO
      obtain ⟨F0, hF0⟩ := O0.out.store
      go_wp2_with fail
      refine (store_list hF0 ⟨#[]⟩).mono ?_
      rintro e w5 ⟨va, rfl, ha, hb5⟩
      have O1 := Lib.hid (O0.out.row hb5 ha)
      have A1 := Lib.hid ha
      have K1 : Hid (Keep (fun k => B ≤ k) w w5) := K0.out.same (Keep.of_below hb5)
      clear hF0 ha hb5 O0 K0
      obtain ⟨F1, hF1⟩ := O1.out.store
      go_wp2_with fail
      refine (store_ever hF1 (by have := EL.out; omega) AL.out.small).mono ?_
      rintro e w6 ⟨vb, rfl, hb, hb6⟩
      rw [← SL.out] at hb
      have O2 := Lib.hid (O1.out.row hb6 hb)
      have A2' := Lib.hid ((Keep.of_below hb6 (F := fun _ => False)).own A1.out fun _ _ e => e)
      have B2 := Lib.hid hb
      have K2 : Hid (Keep (fun k => B ≤ k) w w6) := K1.out.same (Keep.of_below hb6)
      clear hF1 hb hb6 O1 K1 A1
      obtain ⟨F2, hF2⟩ := O2.out.store
      go_wp2_with fail
      refine (store_versions hF2 ⟨#[97]⟩).mono ?_
      rintro e w7 ⟨vc, rfl, hc, hb7⟩
      have O3 := Lib.hid (O2.out.row hb7 hc)
      have A3 := Lib.hid ((Keep.of_below hb7 (F := fun _ => False)).own A2'.out fun _ _ e => e)
      have B3 := Lib.hid ((Keep.of_below hb7 (F := fun _ => False)).own B2.out fun _ _ e => e)
      have C3 := Lib.hid hc
      have K3 : Hid (Keep (fun k => B ≤ k) w w7) := K2.out.same (Keep.of_below hb7)
      clear hF2 hc hb7 O2 K2 A2' B2
      obtain ⟨vx, w8, hrx, hx, hbx⟩ := append_copy A3.out (by have := LL.out; omega)
      have O4 := Lib.hid (O3.out.row hbx hx)
      have A4 := Lib.hid ((Keep.of_below hbx (F := fun _ => False)).own A3.out fun _ _ e => e)
      have B4 := Lib.hid ((Keep.of_below hbx (F := fun _ => False)).own B3.out fun _ _ e => e)
      have C4 := Lib.hid ((Keep.of_below hbx (F := fun _ => False)).own C3.out fun _ _ e => e)
      have X4 := Lib.hid hx
      have K4 : Hid (Keep (fun k => B ≤ k) w w8) := K3.out.same (Keep.of_below hbx)
      clear hx hbx O3 K3 A3 B3 C3
      obtain ⟨vy, w9, hry, hy, hby⟩ := append_copy B4.out (by have := LL.out; omega)
      have O5 := Lib.hid (O4.out.row hby hy)
      have A5 := Lib.hid ((Keep.of_below hby (F := fun _ => False)).own A4.out fun _ _ e => e)
      have B5 := Lib.hid ((Keep.of_below hby (F := fun _ => False)).own B4.out fun _ _ e => e)
      have C5 := Lib.hid ((Keep.of_below hby (F := fun _ => False)).own C4.out fun _ _ e => e)
      have X5 := Lib.hid ((Keep.of_below hby (F := fun _ => False)).own X4.out fun _ _ e => e)
      have Y5 := Lib.hid hy
      have K5 : Hid (Keep (fun k => B ≤ k) w w9) := K4.out.same (Keep.of_below hby)
      clear hy hby O4 K4 A4 B4 C4 X4
      obtain ⟨vz, w10, hrz, hz, hbz⟩ := append_copy C5.out (by have := VL.out ⟨#[97]⟩; omega)
      obtain ⟨N, hN⟩ : ∃ N : Nat → Prop, N = (fun k => (fun k => (fun k => (fun k => (fun k => (fun k => False ∨ va.ownBlock = some k) k ∨ vb.ownBlock = some k) k ∨ vc.ownBlock = some k) k ∨ vx.ownBlock = some k) k ∨ vy.ownBlock = some k) k ∨ vz.ownBlock = some k) := ⟨_, rfl⟩
      have hO6 := O5.out.row hbz hz
      rw [← hN] at hO6
      have O6 := Lib.hid hO6
      have AX : Hid (Two w10 N va vx (S.list ⟨#[]⟩)) := ⟨strs_own ((Keep.of_below hbz (F := fun _ => False)).own A5.out fun _ _ e => e), strs_own ((Keep.of_below hbz (F := fun _ => False)).own X5.out fun _ _ e => e), fun k hk => by rw [hN]; simp [hk], fun k hk => by rw [hN]; simp [hk]⟩
      have BY : Hid (Two w10 N vb vy (S.list ⟨#[]⟩)) := ⟨strs_own ((Keep.of_below hbz (F := fun _ => False)).own B5.out fun _ _ e => e), strs_own ((Keep.of_below hbz (F := fun _ => False)).own Y5.out fun _ _ e => e), fun k hk => by rw [hN]; simp [hk], fun k hk => by rw [hN]; simp [hk]⟩
      have CZ : Hid (Two w10 N vc vz (S.versions ⟨#[97]⟩)) := ⟨strs_own ((Keep.of_below hbz (F := fun _ => False)).own C5.out fun _ _ e => e), strs_own hz, fun k hk => by rw [hN]; simp [hk], fun k hk => by rw [hN]; simp [hk]⟩
      have K6 : Hid (Keep (fun k => B ≤ k) w w10) := K5.out.same (Keep.of_below hbz)
      clear hN hO6 hz hbz O5 K5 A5 B5 C5 X5 Y5
      go_wp2_with (first
        | (at_builtin; refine wp_append_run rfl _ _ _ rfl rfl rfl hrx ?_; clear hrx)
        | (at_builtin; refine wp_append_run rfl _ _ _ rfl rfl rfl hry ?_; clear hry)
        | (at_builtin; refine wp_append_run rfl _ _ _ rfl rfl rfl hrz ?_; clear hrz))
      refine (same_calls w10 _ _ _ _ AX.out.one BY.out.one).mono ?_
      rintro e w11 ⟨rfl, hd⟩
      rw [decide_eq_true rfl]
      obtain ⟨LA, hLA⟩ : ∃ LA, S.list ⟨#[]⟩ = LA := ⟨_, rfl⟩
      obtain ⟨LC, hLC⟩ : ∃ LC, S.versions ⟨#[97]⟩ = LC := ⟨_, rfl⟩
      have T1 : Hid (∃ S', Told w w11 (.pointer (some ⟨bs, 0, none⟩)) B N va vx vb vy vc vz LA LC S') := by
        refine ⟨S, Told.below ?_ hd.below⟩
        rw [hLA] at AX BY
        rw [hLC] at CZ
        exact ⟨O6.out, AX.out, BY.out, CZ.out, K6.out⟩
      clear hLA hLC hd O6 AX BY CZ K6 AL SL VL LL EL
      go_wp2_with fail
      go_loopw [16] (fun i wr => ∃ k : Nat, k ≤ m.length ∧ i = .int .i64 k ∧ Hid (∃ S', Told w wr (.pointer (some ⟨bs, 0, none⟩)) B N va vx vb vy vc vz LA LC S')) (fun i _ => m.length - (intOf i).toNat)
      case atStart => exact ⟨0, Nat.zero_le _, rfl, T1⟩
      case round =>
       clear T1
       obtain ⟨k, hk, rfl, HO⟩ := hrel
       obtain ⟨S1, HT⟩ := HO.out
       have T0 := Lib.hid HT
       clear HT HO
       have hBr : B ≤ wr.heap.size := by rw [HB.out]; exact T0.out.2.2.2.2.size
       by_cases hlt : k < m.length
       · as_aux_lemma =>
         obtain ⟨x, hx⟩ : ∃ x, m[k]? = some x := ⟨_, List.getElem?_eq_getElem hlt⟩
         have hxw := HW2.out x (List.mem_of_getElem? hx)
         have hA : ∃ b off, A2 = some ⟨b, off, none⟩ := by
           obtain ⟨A', c', e, _, _, h3⟩ := HV2.out
           obtain ⟨b', off', rfl, hc⟩ := h3 (by omega)
           cases e; exact ⟨b', off', rfl⟩
         obtain ⟨b, off, rfl⟩ := hA
         have HX := Lib.hid hx
         have CC : ∀ wz, Keep (fun k => B ≤ k) w wz → wz.cell? ⟨b, off + k * 4, none⟩ = some (.int .i64 x.op) ∧ wz.cell? ⟨b, off + k * 4 + 1, none⟩ = some (.int .i64 x.k) ∧ wz.cell? ⟨b, off + k * 4 + 2, none⟩ = some (.string x.key) ∧ wz.cell? ⟨b, off + k * 4 + 3, none⟩ = some (.string x.blob) := fun wz hz =>
           act_at HV2.out (by rw [HB.out] at hz; exact hz.new) HX.out b off rfl
         have HC := Lib.hid CC
         clear hx CC
         have hp2 := pickZ_lt x.op (n := 2) (by omega)
         by_cases hz : pickZ x.op 2 = 0
         · have HZ := Lib.hid hz
           obtain ⟨q0, q1, q2, q3⟩ := HC.out wr T0.out.2.2.2.2
           clear hz hp2
           go_wp2_with fail
           refine (pick_calls x.op 2 _ hxw.1.1 hxw.1.2 (by omega) (by omega)).mono ?_
           rintro e w12 ⟨rfl, rfl⟩
           rw [HZ.out]
           go_wp2_with fail
           refine (key_calls x.op x.k x.key x.blob _ hxw.2.1.1 hxw.2.1.2).mono ?_
           rintro e w13 ⟨rfl, hb13⟩
           have T2 := Lib.hid (T0.out.below hb13)
           clear hb13 q0 q1 q2 q3
           go_wp2_with fail
           refine (told_delete T2.out _).mono ?_
           rintro e w14 ⟨z, rfl, hT⟩
           have T3 := Lib.hid hT
           clear hT
           go_wp2_with fail
           go_roundw
           case rel => exact ⟨k + 1, by omega, by go_num, _, T3.out⟩
           case measure => simp [intOf]; omega
         · have e0 : (pickZ x.op 2 == 0) = false := by simp [hz]
           have e1 : ¬ pickZ x.op 2 = 0 := hz
           obtain ⟨q0, q1, q2, q3⟩ := HC.out wr T0.out.2.2.2.2
           have Q1 := Lib.hid (HC.out wr T0.out.2.2.2.2)
           clear hz hp2
           go_wp2_with fail
           refine (pick_calls x.op 2 _ hxw.1.1 hxw.1.2 (by omega) (by omega)).mono ?_
           rintro e w12 ⟨rfl, rfl⟩
           clear q0 q1 q2 q3
           go_wp2_with fail
           go_region_held3 (fun w' => w'.cell? ⟨b, off + k * 4, none⟩ = some (.int .i64 x.op) ∧ w'.cell? ⟨b, off + k * 4 + 1, none⟩ = some (.int .i64 x.k) ∧ w'.cell? ⟨b, off + k * 4 + 2, none⟩ = some (.string x.key) ∧ w'.cell? ⟨b, off + k * 4 + 3, none⟩ = some (.string x.blob))
             (first | exact Q1.out | exact Q2.out | exact Q3.out) (first
             | (go_at_call 16; refine (key_calls x.op x.k x.key x.blob _ hxw.2.1.1 hxw.2.1.2).mono ?_; rintro e w6 ⟨rfl, hb'⟩; have hb : Below wr.heap.size wr w6 := (Below.refl wr.heap.size wr).drew.trans hb'; have hB6 : B ≤ w6.heap.size := Nat.le_trans hBr hb.size; have T2 := Lib.hid (T0.out.below hb); have Q2 := Lib.hid (HC.out w6 T2.out.2.2.2.2); clear hb hb')
             | (go_at_call 19; refine (told_put T2.out hB6 _ _).mono ?_; rintro e w7 ⟨z, rfl, hT⟩; have T3 := Lib.hid hT; have Q3 := Lib.hid (HC.out w7 T3.out.2.2.2.2); clear hT))
           go_wp2_with fail
           refine ⟨⟨k + 1, by omega, by simp, _, T3.out⟩, ?_⟩
           simp only [intOf]; omega
       · as_aux_lemma =>
         go_wp2_with fail
         refine (same_calls wr _ _ _ _ T0.out.2.1.one T0.out.2.1.two).mono ?_
         rintro e w12 ⟨rfl, hd12⟩
         rw [decide_eq_true rfl]
         have T1 := Lib.hid (T0.out.below hd12.below)
         clear hd12 T0
         go_wp2_with fail
         refine (same_calls w12 _ _ _ _ T1.out.2.2.1.one T1.out.2.2.1.two).mono ?_
         rintro e w13 ⟨rfl, hd13⟩
         rw [decide_eq_true rfl]
         have T2 := Lib.hid (T1.out.below hd13.below)
         clear hd13 T1
         go_wp2_with fail
         refine (same_calls w13 _ _ _ _ T2.out.2.2.2.1.one T2.out.2.2.2.1.two).mono ?_
         rintro e w14 ⟨rfl, hd14⟩
         rw [decide_eq_true rfl]
         have T3 := Lib.hid (T2.out.below hd14.below)
         clear hd14 T2
         have hB14 : B ≤ w14.heap.size := by rw [HB.out]; exact T3.out.2.2.2.2.size
         have HB14 := Lib.hid hB14
         clear hB14
         obtain ⟨F3, hF3⟩ := T3.out.1.store
         have hls := (IsStore.ok hF3).lists
         have HLS := Lib.hid hls
         clear hls
         go_wp2_with fail
         refine (store_list hF3 ⟨#[]⟩).mono ?_
         rintro e w15 ⟨vu, rfl, hu, hb15⟩
         have HB15 : Hid (B ≤ w15.heap.size) := Lib.hid (Nat.le_trans HB14.out hb15.size)
         have O4 := Lib.hid (T3.out.1.row hb15 hu)
         have K4 : Hid (Keep (fun k => B ≤ k) w w15) := T3.out.2.2.2.2.same (Keep.of_below hb15)
         have U4 := Lib.hid hu
         clear hF3 hu hb15 T3
         obtain ⟨F4, hF4⟩ := O4.out.store
         go_wp2_with fail
         refine (store_versions hF4 ⟨#[97]⟩).mono ?_
         rintro e w16 ⟨vv, rfl, hv, hb16⟩
         have O5 := Lib.hid (O4.out.row hb16 hv)
         have K5 : Hid (Keep (fun k => B ≤ k) w w16) := K4.out.same (Keep.of_below hb16)
         have U5 := Lib.hid ((Keep.of_below hb16 (F := fun _ => False)).own U4.out fun _ _ e => e)
         have V5 := Lib.hid hv
         have UV : Hid (∀ k, vu.ownBlock = some k → vv.ownBlock ≠ some k) := Lib.hid fun k hk e => by
           have h1 := (World.ownsRow.lt U4.out k hk).2; have h2 := (World.ownsRow.lt hv k e).1; omega
         clear hF4 hv hb16 O4 K4 U4
         obtain ⟨vp, w17, hrp, hp, hbp⟩ := append_copy U5.out (by have := HLS.out.1; omega)
         have O6 := Lib.hid (O5.out.row hbp hp)
         have K6 : Hid (Keep (fun k => B ≤ k) w w17) := K5.out.same (Keep.of_below hbp)
         have U6 := Lib.hid ((Keep.of_below hbp (F := fun _ => False)).own U5.out fun _ _ e => e)
         have V6 := Lib.hid ((Keep.of_below hbp (F := fun _ => False)).own V5.out fun _ _ e => e)
         have P6 := Lib.hid hp
         have UVP : Hid (∀ k, vu.ownBlock = some k ∨ vv.ownBlock = some k → vp.ownBlock ≠ some k) := Lib.hid fun k hk e => by
           have h2 := (World.ownsRow.lt hp k e).1
           rcases hk with hk | hk
           · have h1 := (World.ownsRow.lt U5.out k hk).2; omega
           · have h1 := (World.ownsRow.lt V5.out k hk).2; omega
         clear hp hbp O5 K5 U5 V5
         obtain ⟨vq, w18, hrq, hq, hbq⟩ := append_copy V6.out (by have := HLS.out.2 ⟨#[97]⟩; omega)
         have UVQ : Hid (∀ k, vu.ownBlock = some k ∨ vv.ownBlock = some k → vq.ownBlock ≠ some k) := Lib.hid fun k hk e => by
           have h2 := (World.ownsRow.lt hq k e).1
           rcases hk with hk | hk
           · have h1 := (World.ownsRow.lt U6.out k hk).2; omega
           · have h1 := (World.ownsRow.lt V6.out k hk).2; omega
         obtain ⟨LU, hLU⟩ : ∃ LU, S1.list ⟨#[]⟩ = LU := ⟨_, rfl⟩
         obtain ⟨LV, hLV⟩ : ∃ LV, S1.versions ⟨#[97]⟩ = LV := ⟨_, rfl⟩
         have hU7 := (Keep.of_below hbq (F := fun _ => False)).own U6.out fun _ _ e => e
         have hV7 := (Keep.of_below hbq (F := fun _ => False)).own V6.out fun _ _ e => e
         have hO7 := O6.out.row hbq hq
         obtain ⟨N2, hN2⟩ : ∃ N2 : Nat → Prop, N2 = (fun k => (fun k => (fun k => (fun k => N k ∨ vu.ownBlock = some k) k ∨ vv.ownBlock = some k) k ∨ vp.ownBlock = some k) k ∨ vq.ownBlock = some k) := ⟨_, rfl⟩
         rw [← hN2] at hO7
         have hNu : ∀ k, vu.ownBlock = some k → N2 k := fun k hk => by rw [hN2]; simp [hk]
         have hNv : ∀ k, vv.ownBlock = some k → N2 k := fun k hk => by rw [hN2]; simp [hk]
         have hSu : Seps B N2 vu vv vp vq := fun k hk => ⟨by rw [hN2]; simp [hk], Nat.le_trans HB14.out (World.ownsRow.lt U6.out k hk).1, UV.out k hk, UVP.out k (Or.inl hk), UVQ.out k (Or.inl hk)⟩
         have hSv : Seps B N2 vv vu vq vp := fun k hk => ⟨by rw [hN2]; simp [hk], Nat.le_trans HB15.out (World.ownsRow.lt V6.out k hk).1, fun e => UV.out k e hk, UVQ.out k (Or.inr hk), UVP.out k (Or.inr hk)⟩
         have SU := Lib.hid hSu
         have SV := Lib.hid hSv
         have hP7 := strs_own ((Keep.of_below hbq (F := fun _ => False)).own P6.out fun _ _ e => e)
         have hQ7 := strs_own hq
         have hW : Writ w w18 (.pointer (some ⟨bs, 0, none⟩)) B N2 vu vv vp vq (S1.list ⟨#[]⟩) (S1.versions ⟨#[97]⟩) S1 := ⟨hO7, ⟨_, rfl, ownsRow_base_a hU7 (Nat.zero_le _)⟩, ⟨_, rfl, ownsRow_base_a hV7 (Nat.zero_le _)⟩, hP7, hQ7, K6.out.same (Keep.of_below hbq)⟩
         have hls1 := HLS.out.1
         have hls2 := HLS.out.2 ⟨#[97]⟩
         rw [hLU] at hW hls1
         rw [hLV] at hW hls2
         have T4 := Lib.hid hW
         have ELU := Lib.hid hLU
         have ELV := Lib.hid hLV
         clear hU7 hV7 hO7 hN2 hNu hNv hSu hSv hP7 hQ7 hW hLU hLV hq hbq UV UVP UVQ O6 K6 U6 V6 P6
         obtain ⟨Au, cu, hu, hcu, hcm⟩ := T4.out.slice
         obtain ⟨Av, cv, hv, hcv, hcvm⟩ := T4.out.swap.slice
         subst hu hv
         go_wp2_with (first
           | (at_builtin; refine wp_append_run rfl _ _ _ rfl rfl rfl hrp ?_; clear hrp)
           | (at_builtin; refine wp_append_run rfl _ _ _ rfl rfl rfl hrq ?_; clear hrq))
         go_loopw [21] (fun i wr => ∃ k : Nat, k ≤ LU.length ∧ i = .int .i64 k ∧ Hid (Writ w wr (.pointer (some ⟨bs, 0, none⟩)) B N2 (.slice Au LU.length cu) (.slice Av LV.length cv) vp vq LU LV S1)) (fun i _ => LU.length - (intOf i).toNat)
         case atStart => exact ⟨0, Nat.zero_le _, rfl, T4⟩
         case round =>
          clear T4
          obtain ⟨k, hk, rfl, HO⟩ := hrel
          by_cases hlt : k < LU.length
          · obtain ⟨g, c', y, e, hc', cy, fy⟩ := writ_cell HO.out hlt
            cases e
            have HN : Hid (Writ w (wr.setCell ⟨g, k, none⟩ (.string ⟨#[63]⟩)) (.pointer (some ⟨bs, 0, none⟩)) B N2 (.slice (some ⟨g, 0, none⟩) LU.length cu) (.slice Av LV.length cv) vp vq LU LV S1) := writ_u HO.out SU.out rfl k _
            clear HO
            go_wp2
            go_roundw
            case rel => exact ⟨k + 1, by omega, by go_num, HN⟩
            case measure => simp [intOf]; omega
          · have T5 := HO
            clear HO
            go_wp2_with fail
            go_loopw [22] (fun i wr => ∃ k : Nat, k ≤ LV.length ∧ i = .int .i64 k ∧ Hid (Writ w wr (.pointer (some ⟨bs, 0, none⟩)) B N2 (.slice Au LU.length cu) (.slice Av LV.length cv) vp vq LU LV S1)) (fun i _ => LV.length - (intOf i).toNat)
            case atStart => exact ⟨0, Nat.zero_le _, rfl, T5⟩
            case round =>
             clear T5
             obtain ⟨j, hj, rfl, HO⟩ := hrel
             by_cases hlt2 : j < LV.length
             · obtain ⟨g, c', y, e, hc', cy, fy⟩ := writ_cell HO.out.swap hlt2
               cases e
               have HN : Hid (Writ w (wr.setCell ⟨g, j, none⟩ (.string ⟨#[63]⟩)) (.pointer (some ⟨bs, 0, none⟩)) B N2 (.slice Au LU.length cu) (.slice (some ⟨g, 0, none⟩) LV.length cv) vp vq LU LV S1) := (writ_u HO.out.swap SV.out rfl j _).swap
               clear HO
               go_wp2
               go_roundw
               case rel => exact ⟨j + 1, by omega, by go_num, HN⟩
               case measure => simp [intOf]; omega
             · obtain ⟨F5, hF5⟩ := HO.out.1.store
               go_wp2_with fail
               refine (store_list hF5 ⟨#[]⟩).mono ?_
               rintro e w20 ⟨v20, rfl, h20, hb20⟩
               rw [ELU.out] at h20
               have hP := HO.out.2.2.2.1.below hb20
               have hQ := HO.out.2.2.2.2.1.below hb20
               have K20 : Hid (Keep (fun k => B ≤ k) w w20) := HO.out.2.2.2.2.2.same (Keep.of_below hb20)
               have HQ := Lib.hid hQ
               have O20 := Lib.hid (HO.out.1.below hb20)
               have H20 := Lib.hid (strs_own h20)
               have HP := Lib.hid hP
               clear h20 hb20 hP hQ HO hF5
               go_wp2_with fail
               refine (same_calls w20 _ _ _ _ H20.out HP.out).mono ?_
               rintro e w21 ⟨rfl, hd21⟩
               rw [decide_eq_true rfl]
               have O21 := Lib.hid (O20.out.below hd21.below)
               have HQ21 := Lib.hid (HQ.out.below hd21.below)
               have K21 : Hid (Keep (fun k => B ≤ k) w w21) := K20.out.same (hd21.keep _)
               clear hd21 O20 HQ K20
               obtain ⟨F6, hF6⟩ := O21.out.store
               go_wp2_with fail
               refine (store_versions hF6 ⟨#[97]⟩).mono ?_
               rintro e w22 ⟨v22, rfl, h22, hb22⟩
               rw [ELV.out] at h22
               have H22 := Lib.hid (strs_own h22)
               have HQ22 := Lib.hid (HQ21.out.below hb22)
               have K22 : Hid (Keep (fun k => B ≤ k) w w22) := K21.out.same (Keep.of_below hb22)
               clear h22 hb22 hF6 O21 HQ21 K21
               go_wp2_with fail
               refine (same_calls w22 _ _ _ _ H22.out HQ22.out).mono ?_
               rintro e w23 ⟨rfl, hd23⟩
               rw [decide_eq_true rfl]
               have K23 : Hid (Keep (fun k => B ≤ k) w w23) := K22.out.same (hd23.keep _)
               clear hd23
               go_wp2_with fail
               go_ret
               exact ⟨rfl, by have := K23.out; rw [HB.out] at this ⊢; exact this.new⟩
end Go.Proofs.Ytcalfjakgidhfaa
