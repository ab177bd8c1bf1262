/- The law StoreLast: what a list of keys is. -/
import Derived.Test.YtcalfjakgidhfaaL12g
import Derived.Deep.DeepCutAuto
import Derived.WalkLawsBesides
namespace Go.Proofs.Ytcalfjakgidhfaa
open Go.RowKit Go.Sort
set_option linter.unusedVariables false
set_option linter.unusedSimpArgs false

theorem IsStore.nodup {w : World} {v : Value} {S : St} {F : Nat → Prop} (h : IsStore w v S F) : (akeys S.there).Nodup := by
  obtain ⟨b, be, bt, rows, h1, h2, h3, h4, h5, h6, h7, hne, h8, h9, h10, h11, h12, h13⟩ := h
  obtain ⟨es, k, _, _, _, hn⟩ := h5
  rw [akeys_amap] at hn; exact hn
theorem list_all (S : St) : S.list ByteArray.empty = sortB (akeys S.there) := by
  unfold St.list; congr 1; rw [List.filter_eq_self]; intro a _; exact hasPre_nil a
theorem list_mem (S : St) (x : ByteArray) : x ∈ S.list ByteArray.empty ↔ S.getErr x = 0 := by
  rw [list_all, (sortB_perm _).mem_iff, ← aget_isSome]
  unfold St.getErr
  cases (aget S.there x).isSome <;> simp
theorem list_nodup {S : St} (h : (akeys S.there).Nodup) : (S.list ByteArray.empty).Nodup := by
  rw [list_all]; exact (sortB_perm _).nodup_iff.2 h
theorem list_rise {S : St} (h : (akeys S.there).Nodup) : (S.list ByteArray.empty).Pairwise (fun a b => bLt a b = true) := by
  have h1 := list_nodup h
  have h2 : (S.list ByteArray.empty).Pairwise (fun a b => bLe a b = true) := by rw [list_all]; exact sortB_sorted _
  refine (h1.and h2).imp fun {a b} hab => ?_
  cases e : bLt a b with
  | true => rfl
  | false => exact absurd (bLt_antisymm e (by have := hab.2; unfold bLe at this; simpa using this)) hab.1
theorem count_one {l : List ByteArray} (h : l.Nodup) (x : ByteArray) : (x ∈ l → l.countP (fun y => decide (y = x)) = 1) ∧ (x ∉ l → l.countP (fun y => decide (y = x)) = 0) := by
  induction l with
  | nil => exact ⟨fun h => by simp at h, fun _ => rfl⟩
  | cons a l ih =>
    rw [List.nodup_cons] at h
    obtain ⟨i1, i2⟩ := ih h.2
    rw [List.countP_cons]
    by_cases e : a = x
    · subst e
      exact ⟨fun _ => by rw [i2 h.1]; simp, fun hx => absurd List.mem_cons_self hx⟩
    · refine ⟨fun hx => ?_, fun hx => ?_⟩
      · rw [i1 ((List.mem_cons.1 hx).resolve_left fun e' => e e'.symm)]; simp [e]
      · rw [i2 fun h' => hx (List.mem_cons_of_mem _ h')]; simp [e]

set_option maxRecDepth 100000 in
set_option maxHeartbeats 4000000 in
theorem last_calls (w : World) (v : Value) (l : List ActV) (hv : rowsOf 4 actV w v l) (hw : ∀ a ∈ l, a.wf) :
    Calls Try.prog 7 #[v] w fun e w' => e = .returned (.bool true) ∧ Below w.heap.size w w' := by
  obtain ⟨B, hB⟩ : ∃ B, B = w.heap.size := ⟨_, rfl⟩
  rw [← hB]
  have HB := Lib.hid hB
  clear hB
  have HV := Lib.hid hv
  have HW := Lib.hid hw
  obtain ⟨A, c, rfl, hlc, hmx, h3⟩ := hv
  clear hw h3
  go_enter Try.func7, Try.ntmps7
  go_wp2_with fail
  refine (shown_calls _).mono ?_
  rintro e w1 ⟨rfl, hb1'⟩
  have W1 : Hid (Below w.heap.size w w1) := hb1'
  clear hb1'
  go_wp2_with fail
  refine (storeB_new w1 B (by rw [HB.out]; exact W1.out.size)).mono ?_
  rintro e w2 ⟨vs, rfl, hS, hb2⟩
  obtain ⟨bs, rfl⟩ := hS.ptr
  have S2 := Lib.hid hS
  have W2 : Hid (Below w.heap.size w w2) := W1.out.trans (hb2.mono W1.out.size)
  clear hS hb2
  go_wp2_with fail
  refine (light_calls w2 _ l (HV.out.below W2.out) HW.out).mono ?_
  rintro e w3 ⟨rfl, hd3⟩
  have S3 := Lib.hid (S2.out.below hd3.below)
  have W3 : Hid (Below w.heap.size w w3) := W2.out.trans (hd3.below.mono W2.out.size)
  clear hd3
  cases hlb : lightB l with
  | false =>
    have HLB := Lib.hid hlb
    clear hlb
    go_wp2_with fail
    go_ret
    exact ⟨rfl, by rw [HB.out]; exact W3.out⟩
  | true =>
  have hl100 : l.length ≤ 100 := by unfold lightB at hlb; simp at hlb; exact hlb.1
  have HLB := Lib.hid hlb
  clear hlb
  go_wp2_with fail
  go_loopw [6] (fun i wr => ∃ k : Nat, k ≤ l.length ∧ i = .int .i64 k ∧ Hid (∃ S, StoreB wr (.pointer (some ⟨bs, 0, none⟩)) S B ∧ S.puts ≤ k ∧ Keep (fun k => B ≤ k) w wr)) (fun i _ => l.length - (intOf i).toNat)
  case atStart => exact ⟨0, Nat.zero_le _, rfl, ⟨_, S3.out, Nat.le_refl _, Keep.of_below W3.out⟩⟩
  case round =>
    clear S3 S2
    obtain ⟨k, hk, rfl, HO⟩ := hrel
    obtain ⟨S, hS0, hpk, hkp⟩ := HO.out
    have S0 := Lib.hid hS0
    have P0 := Lib.hid hpk
    have K0 := Lib.hid hkp
    have ND := Lib.hid (IsStore.nodup hS0)
    clear HO hS0 hpk hkp
    by_cases hlt : k < l.length
    · obtain ⟨x, hx⟩ : ∃ x, l[k]? = some x := ⟨_, List.getElem?_eq_getElem hlt⟩
      have hxw := HW.out x (List.mem_of_getElem? hx)
      have hA : ∃ b off, A = some ⟨b, off, none⟩ := by
        obtain ⟨A', c', e, _, _, h3⟩ := HV.out
        obtain ⟨b', off', rfl, hc⟩ := h3 (by omega)
        cases e; exact ⟨b', off', rfl⟩
      obtain ⟨b, off, rfl⟩ := hA
      have HX := Lib.hid hx
      have CC : ∀ wz, Keep (fun k => B ≤ k) w wz → wz.cell? ⟨b, off + k * 4, none⟩ = some (.int .i64 x.op) ∧ wz.cell? ⟨b, off + k * 4 + 1, none⟩ = some (.int .i64 x.k) ∧ wz.cell? ⟨b, off + k * 4 + 2, none⟩ = some (.string x.key) ∧ wz.cell? ⟨b, off + k * 4 + 3, none⟩ = some (.string x.blob) := fun wz hz =>
        act_at HV.out (by rw [HB.out] at hz; exact hz.new) HX.out b off rfl
      have HC := Lib.hid CC
      clear hx CC
      obtain ⟨q0, q1, q2, q3⟩ := HC.out wr K0.out
      go_wp2_with fail
      refine (key_calls x.op x.k x.key x.blob _ hxw.2.1.1 hxw.2.1.2).mono ?_
      rintro e w4 ⟨rfl, hb4⟩
      obtain ⟨z, hz⟩ : ∃ z, keyOf x.k x.key = z := ⟨_, rfl⟩
      rw [hz]
      have S4 := Lib.hid (S0.out.below hb4)
      have K4 : Hid (Keep (fun k => B ≤ k) w w4) := K0.out.same (Keep.of_below hb4)
      clear hz hb4 q0 q1 q2 q3
      go_wp2_with fail
      refine (store_get S4.out z).mono ?_
      rintro e w5 ⟨rfl, rfl⟩
      obtain ⟨ge, hge⟩ : ∃ ge, S.getErr z = ge := ⟨_, rfl⟩
      rw [hge]
      have HGE := Lib.hid hge
      clear hge
      go_wp2_with fail
      refine (store_versions S4.out z).mono ?_
      rintro e w5 ⟨v5, rfl, hv5, hb5⟩
      obtain ⟨A5, c5, hv, hlc5, hmx5, _⟩ := strs_own hv5
      obtain ⟨nv, hnv⟩ : ∃ nv, (S.versions z).length = nv := ⟨_, rfl⟩
      rw [hnv] at hv hlc5 hmx5
      subst hv
      have HNV := Lib.hid hnv
      have S5 := Lib.hid (S4.out.below hb5)
      have K5 : Hid (Keep (fun k => B ≤ k) w w5) := K4.out.same (Keep.of_below hb5)
      clear hnv hv5 hb5
      go_wp2_with fail
      refine (store_puts S5.out).mono ?_
      rintro e w6 ⟨rfl, rfl⟩
      obtain ⟨q0, q1, q2, q3⟩ := HC.out w5 K5.out
      go_wp2_with fail
      refine (pick_calls x.op 4 _ hxw.1.1 hxw.1.2 (by omega) (by omega)).mono ?_
      rintro e w6 ⟨rfl, rfl⟩
      clear q0 q1 q2 q3
      go_upto_if 73 with fail
      go_cut [] (fun wc => Hid (∃ S', StoreB wc (.pointer (some ⟨bs, 0, none⟩)) S' B ∧ S'.puts ≤ k + 1 ∧ Keep (fun k => B ≤ k) w wc))
      case first =>
       as_aux_lemma =>
        obtain ⟨q0, q1, q2, q3⟩ := HC.out w5 K5.out
        have hB5 : B ≤ w5.heap.size := by rw [HB.out]; exact K5.out.size
        by_cases h3 : pickZ x.op 4 < 3
        · go_wp2_with fail
          refine (storeB_put S5.out hB5 z x.blob).mono ?_
          rintro e w6 ⟨rfl, hS6, hk6⟩
          have K6 : Hid (Keep (fun k => B ≤ k) w w6) := K5.out.same hk6
          have S6 := Lib.hid hS6
          obtain ⟨p0, p1, p2, p3⟩ := HC.out w6 K6.out
          clear hS6 hk6 q0 q1 q2 q3
          by_cases hfit : S.putErr z x.blob = 0
          · rw [hfit]
            obtain ⟨hg, hge, hpp⟩ := put_get S z x.blob hfit
            have HFIT := Lib.hid hfit
            have hz1 : ¬ (z.size = 0 ∨ z.size > 200) := by intro e; unfold St.putErr at hfit; rw [if_pos e] at hfit; cases hfit
            have hz2 : ¬ x.blob.size > 40000 := by intro e; unfold St.putErr at hfit; rw [if_neg hz1, if_pos e] at hfit; cases hfit
            have he1 : z.toList.isEmpty = false := by
              cases e : z.toList with
              | nil => exact absurd (Or.inl (by rw [← size_list, e]; rfl)) hz1
              | cons a b => rfl
            have he2 : (z.size : Int) ≤ 200 := by omega
            have he3 : (x.blob.size : Int) ≤ 40000 := by omega
            have hpl : (((S.put z x.blob).puts : Nat) : Int) = (S.puts : Int) + 1 := by rw [hpp]; omega
            have hps : (S.puts : Int) ≤ 100 := by have := P0.out; omega
            have HG := Lib.hid hg
            have HGE2 := Lib.hid hge
            have HPL := Lib.hid hpl
            clear hfit hz1 hz2 hg hge hpp hpl
            have hver : (S.put z x.blob).versions z = S.versions z ++ [x.blob] := by rw [St.put, if_pos HFIT.out]; simp only [St.versions, aget_aput, if_true, Option.getD_some]
            have hvl : ((S.put z x.blob).versions z).length = nv + 1 := by rw [hver, List.length_append, HNV.out]; rfl
            have HVL := Lib.hid hvl
            have HVER := Lib.hid hver
            clear hver hvl
            have hnv2 : (nv : Int) ≤ 100000 := by
              have hok := IsStore.ok S5.out
              have h1 : nv ≤ S.puts := by
                rw [← HNV.out]; unfold St.versions
                cases e : aget S.ever z with
                | none => simp
                | some y => simpa using hok.len z y e
              omega
            go_wp2_with fail
            refine (store_versions S6.out z).mono ?_
            rintro e w7 ⟨v7, rfl, hv7, hb7⟩
            obtain ⟨A7, c7, hv, hlc7, hmx7, _⟩ := strs_own hv7
            rw [HVL.out] at hv hlc7 hmx7
            subst hv
            have S7 := Lib.hid (S6.out.below hb7)
            have K7 : Hid (Keep (fun k => B ≤ k) w w7) := K6.out.same (Keep.of_below hb7)
            clear hv7 hb7
            go_wp2_with fail
            refine (store_puts S7.out).mono ?_
            rintro e w8 ⟨rfl, rfl⟩
            rw [HPL.out]
            go_wp2_with fail
            refine (store_get S7.out z).mono ?_
            rintro e w8 ⟨rfl, rfl⟩
            rw [HG.out, HGE2.out]
            obtain ⟨p0, p1, p2, p3⟩ := HC.out w7 K7.out
            go_wp2_with fail
            refine (store_versions S7.out z).mono ?_
            rintro e w8 ⟨v8, rfl, hv8, hb8⟩
            obtain ⟨A8, c8, hv, hlc8, hmx8, hcl8⟩ := strs_own hv8
            have hc8 : ∃ b' off', A8 = some ⟨b', off', none⟩ ∧ w8.cell? ⟨b', off' + nv, none⟩ = some (.string x.blob) := by
              obtain ⟨b', off', e, h⟩ := hcl8 (by rw [HVL.out]; omega)
              refine ⟨b', off', e, h nv x.blob ?_⟩
              rw [HVER.out, List.getElem?_append_right (by rw [HNV.out]; exact Nat.le_refl _), HNV.out]; simp
            obtain ⟨b8, off8, rfl, hcx8⟩ := hc8
            rw [HVL.out] at hv hlc8 hmx8
            subst hv
            have S8 := Lib.hid (S7.out.below hb8)
            have K8 : Hid (Keep (fun k => B ≤ k) w w8) := K7.out.same (Keep.of_below hb8)
            obtain ⟨r0, r1, r2, r3⟩ := HC.out w8 K8.out
            clear hv8 hb8 hcl8
            go_wp2_with fail
            go_meet
            exact ⟨_, S8.out, by have := P0.out; have h2 := HPL.out; omega, K8.out⟩
          · have hput : S.put z x.blob = S := by rw [St.put, if_neg hfit]
            rw [hput] at S6
            obtain ⟨pe, hpe⟩ : ∃ pe, S.putErr z x.blob = pe := ⟨_, rfl⟩
            rw [hpe] at hfit ⊢
            have hp100 : S.puts ≤ 100 := by have := P0.out; omega
            have h4 : z.size = 0 ∨ z.size > 200 ∨ x.blob.size > 40000 := by
              refine Classical.byContradiction fun hn => hfit ?_
              rw [← hpe]; unfold St.putErr
              rw [if_neg (by omega), if_neg (by omega), if_neg (by omega)]
            have g1 : (pe == 0) = false := by simp [hfit]
            clear hput hpe hp100
            rcases h4 with h4 | h4 | h4
            · have he1 : z.toList.isEmpty = true := by
                have h5 : z.toList.length = 0 := by rw [size_list]; exact h4
                cases e : z.toList with
                | nil => rfl
                | cons a b => rw [e] at h5; cases h5
              have he5 : z.toList = [] := List.isEmpty_iff.1 he1
              have HE5 := Lib.hid he5
              clear h4 he5
              go_wp2_with fail
              refine (store_versions S6.out z).mono ?_
              rintro e w7 ⟨v7, rfl, hv7, hb7⟩
              obtain ⟨A7, c7, hv, hlc7, hmx7, _⟩ := strs_own hv7
              rw [HNV.out] at hv hlc7 hmx7
              subst hv
              have S7 := Lib.hid (S6.out.below hb7)
              have K7 : Hid (Keep (fun k => B ≤ k) w w7) := K6.out.same (Keep.of_below hb7)
              clear hv7 hb7
              go_wp2_with fail
              refine (store_puts S7.out).mono ?_
              rintro e w8 ⟨rfl, rfl⟩
              go_wp2_with fail
              refine (store_get S7.out z).mono ?_
              rintro e w8 ⟨rfl, rfl⟩
              go_wp2_with fail
              go_meet
              exact ⟨_, S7.out, Nat.le_succ_of_le P0.out, K7.out⟩
            · have he0 : ¬ z.size = 0 := by omega
              have he1 := toList_isEmpty he0
              have he2 : ¬ (z.size : Int) ≤ 200 := by omega
              clear h4 he0
              go_wp2_with fail
              refine (store_versions S6.out z).mono ?_
              rintro e w7 ⟨v7, rfl, hv7, hb7⟩
              obtain ⟨A7, c7, hv, hlc7, hmx7, _⟩ := strs_own hv7
              rw [HNV.out] at hv hlc7 hmx7
              subst hv
              have S7 := Lib.hid (S6.out.below hb7)
              have K7 : Hid (Keep (fun k => B ≤ k) w w7) := K6.out.same (Keep.of_below hb7)
              clear hv7 hb7
              go_wp2_with fail
              refine (store_puts S7.out).mono ?_
              rintro e w8 ⟨rfl, rfl⟩
              go_wp2_with fail
              refine (store_get S7.out z).mono ?_
              rintro e w8 ⟨rfl, rfl⟩
              go_wp2_with fail
              go_meet
              exact ⟨_, S7.out, Nat.le_succ_of_le P0.out, K7.out⟩
            · by_cases he0 : z.size = 0
              · have he1 : z.toList.isEmpty = true := by
                  have h5 : z.toList.length = 0 := by rw [size_list]; exact he0
                  cases e : z.toList with
                  | nil => rfl
                  | cons a b => rw [e] at h5; cases h5
                clear h4 he0
                go_wp2_with fail
                refine (store_versions S6.out z).mono ?_
                rintro e w7 ⟨v7, rfl, hv7, hb7⟩
                obtain ⟨A7, c7, hv, hlc7, hmx7, _⟩ := strs_own hv7
                rw [HNV.out] at hv hlc7 hmx7
                subst hv
                have S7 := Lib.hid (S6.out.below hb7)
                have K7 : Hid (Keep (fun k => B ≤ k) w w7) := K6.out.same (Keep.of_below hb7)
                clear hv7 hb7
                go_wp2_with fail
                refine (store_puts S7.out).mono ?_
                rintro e w8 ⟨rfl, rfl⟩
                go_wp2_with fail
                refine (store_get S7.out z).mono ?_
                rintro e w8 ⟨rfl, rfl⟩
                go_wp2_with fail
                go_meet
                exact ⟨_, S7.out, Nat.le_succ_of_le P0.out, K7.out⟩
              · have he1 := toList_isEmpty he0
                have he3 : ¬ (x.blob.size : Int) ≤ 40000 := by omega
                clear h4 he0
                by_cases he2 : (z.size : Int) ≤ 200
                · go_wp2_with fail
                  refine (store_versions S6.out z).mono ?_
                  rintro e w7 ⟨v7, rfl, hv7, hb7⟩
                  obtain ⟨A7, c7, hv, hlc7, hmx7, _⟩ := strs_own hv7
                  rw [HNV.out] at hv hlc7 hmx7
                  subst hv
                  have S7 := Lib.hid (S6.out.below hb7)
                  have K7 : Hid (Keep (fun k => B ≤ k) w w7) := K6.out.same (Keep.of_below hb7)
                  clear hv7 hb7
                  go_wp2_with fail
                  refine (store_puts S7.out).mono ?_
                  rintro e w8 ⟨rfl, rfl⟩
                  go_wp2_with fail
                  refine (store_get S7.out z).mono ?_
                  rintro e w8 ⟨rfl, rfl⟩
                  go_wp2_with fail
                  go_meet
                  exact ⟨_, S7.out, Nat.le_succ_of_le P0.out, K7.out⟩
                · go_wp2_with fail
                  refine (store_versions S6.out z).mono ?_
                  rintro e w7 ⟨v7, rfl, hv7, hb7⟩
                  obtain ⟨A7, c7, hv, hlc7, hmx7, _⟩ := strs_own hv7
                  rw [HNV.out] at hv hlc7 hmx7
                  subst hv
                  have S7 := Lib.hid (S6.out.below hb7)
                  have K7 : Hid (Keep (fun k => B ≤ k) w w7) := K6.out.same (Keep.of_below hb7)
                  clear hv7 hb7
                  go_wp2_with fail
                  refine (store_puts S7.out).mono ?_
                  rintro e w8 ⟨rfl, rfl⟩
                  go_wp2_with fail
                  refine (store_get S7.out z).mono ?_
                  rintro e w8 ⟨rfl, rfl⟩
                  go_wp2_with fail
                  go_meet
                  exact ⟨_, S7.out, Nat.le_succ_of_le P0.out, K7.out⟩
        · go_wp2_with fail
          refine (storeB_delete S5.out z).mono ?_
          rintro e w6 ⟨rfl, hS6, hk6⟩
          have hde : S.delErr z = ge := by rw [← HGE.out]; rfl
          rw [hde]
          have K6 : Hid (Keep (fun k => B ≤ k) w w6) := K5.out.same hk6
          have S6 := Lib.hid hS6
          have g1 : (ge != ge) = false := by simp
          have hver : ((S.del z).versions z).length = nv := HNV.out
          have HNV2 := Lib.hid hver
          clear hS6 hk6 hde hver
          go_wp2_with fail
          refine (store_versions S6.out z).mono ?_
          rintro e w7 ⟨v7, rfl, hv7, hb7⟩
          obtain ⟨A7, c7, hv, hlc7, hmx7, _⟩ := strs_own hv7
          rw [HNV2.out] at hv hlc7 hmx7
          subst hv
          have S7 := Lib.hid (S6.out.below hb7)
          have K7 : Hid (Keep (fun k => B ≤ k) w w7) := K6.out.same (Keep.of_below hb7)
          clear hv7 hb7
          go_wp2_with fail
          go_meet
          exact ⟨_, S7.out, Nat.le_succ_of_le P0.out, K7.out⟩

      case rest =>
       as_aux_lemma =>
        obtain ⟨S1, hS1, hp1, hk1⟩ := hcut.out
        have ND1 := Lib.hid (IsStore.nodup hS1)
        have S1' := Lib.hid hS1
        have K1' := Lib.hid hk1
        have P1' := Lib.hid hp1
        clear hcut hS1 hp1 hk1
        clear S0 P0 K0 ND S4 K4 S5 K5
        go_wp2_with fail
        refine (store_list S1'.out ⟨#[]⟩).mono ?_
        rintro e w6 ⟨v6, rfl, hv6, hb6⟩
        obtain ⟨L, hL⟩ : ∃ L, S1.list ⟨#[]⟩ = L := ⟨_, rfl⟩
        rw [hL] at hv6
        have LM : Hid (∀ s, s ∈ L ↔ S1.getErr s = 0) := Lib.hid (by intro s; rw [← hL]; exact list_mem S1 s)
        have LN : Hid L.Nodup := Lib.hid (by rw [← hL]; exact list_nodup ND1.out)
        have LR : Hid (L.Pairwise (fun a b => bLt a b = true)) := Lib.hid (by rw [← hL]; exact list_rise ND1.out)
        obtain ⟨A6, c6, rfl, hlc6, hmx6, hcl6⟩ := strs_own hv6
        have S6 := Lib.hid (S1'.out.below hb6)
        have K6 : Hid (Keep (fun k => B ≤ k) w w6) := K1'.out.same (Keep.of_below hb6)
        have CL := Lib.hid hcl6
        clear hL hv6 hb6 hcl6 S1' K1'
        obtain ⟨wo, rfl⟩ : ∃ wo, wo = wr := ⟨_, rfl⟩
        go_wp2_with fail
        go_loopw [18, 19, 20] (fun i s e wr => ∃ j : Nat, j ≤ L.length ∧ i = .int .i64 j ∧ Hid (Drawn w6 wr)) (fun i _ _ _ => L.length - (intOf i).toNat)
        case atStart => exact ⟨0, Nat.zero_le _, rfl, Drawn.refl _⟩
        case round =>
         obtain ⟨j, hj, rfl, HD⟩ := hrel
         by_cases hlt2 : j < L.length
         · obtain ⟨s, hs⟩ : ∃ s, L[j]? = some s := ⟨_, List.getElem?_eq_getElem hlt2⟩
           obtain ⟨b6, off6, rfl, hcl⟩ := CL.out (by omega)
           have cj := (HD.out.keep (fun _ => False)).cell (hcl j s hs) fun e => e
           have hge0 := (LM.out s).1 (List.mem_of_getElem? hs)
           have HS := Lib.hid hs
           have GE0 := Lib.hid hge0
           have SR := Lib.hid (S6.out.below HD.out.below)
           cases j with
           | zero =>
             simp only [Nat.add_zero] at cj
             clear hs hge0 hcl
             go_wp2_with fail
             refine (store_get SR.out s).mono ?_
             rintro e w7 ⟨rfl, rfl⟩
             rw [GE0.out]
             go_wp2_with fail
             go_quiet (fail)
             go_wp2_with fail
             go_roundw
             case rel => exact ⟨0 + 1, by omega, by go_num, HD.out.drewN _⟩
             case measure => simp [intOf]; omega
           | succ m =>
             obtain ⟨s', hs'⟩ : ∃ s', L[m]? = some s' := ⟨_, List.getElem?_eq_getElem (by omega)⟩
             have cj' := (HD.out.keep (fun _ => False)).cell (hcl m s' hs') fun e => e
             have hlt3 : bLt s' s = true := by
               have h1 := List.pairwise_iff_getElem.1 LR.out m (m + 1) (by omega) hlt2 (by omega)
               have e1 := (List.getElem?_eq_some_iff.1 hs').2
               have e2 := (List.getElem?_eq_some_iff.1 hs).2
               rw [e1, e2] at h1; exact h1
             have f1 : Op.bytesLess s.toList s'.toList = false := by rw [bytesLess_eq]; exact bLt_asymm hlt3
             have f2 : (s.toList == s'.toList) = false := by
               rw [beq_eq_false_iff_ne]; intro e; have := list_inj e; rw [this, bLt_irrefl] at hlt3; cases hlt3
             clear hs hge0 hcl hs' hlt3
             go_wp2_with fail
             refine (store_get SR.out s).mono ?_
             rintro e w7 ⟨rfl, rfl⟩
             rw [GE0.out]
             go_wp2_with fail
             go_quiet (fail)
             go_wp2_with fail
             go_roundw
             case rel => exact ⟨m + 1 + 1, by omega, by go_num, HD.out.drewN _⟩
             case measure => simp [intOf]; omega
         · have S7 := Lib.hid (S6.out.below HD.out.below)
           have K7 : Hid (Keep (fun k => B ≤ k) w wr) := K6.out.same (HD.out.keep _)
           have HD7 := HD
           clear S6 K6 HD
           obtain ⟨w7, rfl⟩ : ∃ w7, w7 = wr := ⟨_, rfl⟩
           go_wp2_with fail
           refine (store_get S7.out z).mono ?_
           rintro e w8 ⟨rfl, rfl⟩
           obtain ⟨ze, hze⟩ : ∃ ze, S1.getErr z = ze := ⟨_, rfl⟩
           rw [hze]
           have HZE := Lib.hid hze
           clear hze
           go_wp2_with fail
           go_loopw [23, 24] (fun n i wr => ∃ j : Nat, j ≤ L.length ∧ i = .int .i64 j ∧ n = .int .i64 ((L.take j).countP fun y => decide (y = z)) ∧ w7 = wr) (fun _ i _ => L.length - (intOf i).toNat)
           case atStart => exact ⟨0, Nat.zero_le _, rfl, rfl, rfl⟩
           case round =>
             obtain ⟨j, hj, rfl, rfl, rfl⟩ := hrel
             by_cases hlt4 : j < L.length
             · obtain ⟨s, hs⟩ : ∃ s, L[j]? = some s := ⟨_, List.getElem?_eq_getElem hlt4⟩
               obtain ⟨b6, off6, rfl, hcl⟩ := CL.out (by omega)
               have cj := (HD7.out.keep (fun _ => False)).cell (hcl j s hs) fun e => e
               have hcn : (L.take (j + 1)).countP (fun y => decide (y = z)) = (L.take j).countP (fun y => decide (y = z)) + if s = z then 1 else 0 := by
                 rw [take_succ_get hs, List.countP_append, List.countP_singleton]; simp
               have hcb : (L.take j).countP (fun y => decide (y = z)) ≤ j := Nat.le_trans List.countP_le_length (List.length_take_le _ _)
               obtain ⟨cn, hcc⟩ : ∃ cn, (L.take j).countP (fun y => decide (y = z)) = cn := ⟨_, rfl⟩
               rw [hcc] at hcn hcb ⊢
               have HCN := Lib.hid hcn
               by_cases hsz : s = z
               · have e1 : (s.toList == z.toList) = true := by rw [hsz]; simp
                 have HSZ := Lib.hid hsz
                 clear hs hcl hcn hsz hcc
                 go_wp2
                 go_roundw
                 case rel => exact ⟨j + 1, by omega, by go_num, by rw [HCN.out, if_pos HSZ.out]; go_num, trivial⟩
                 case measure => simp [intOf]; omega
               · have e1 : (s.toList == z.toList) = false := by rw [beq_eq_false_iff_ne]; exact fun e => hsz (list_inj e)
                 have HSZ := Lib.hid hsz
                 clear hs hcl hcn hsz hcc
                 go_wp2
                 go_roundw
                 case rel => exact ⟨j + 1, by omega, by go_num, by rw [HCN.out, if_neg HSZ.out]; rfl, trivial⟩
                 case measure => simp [intOf]; omega
             · have hjl : L.take j = L := List.take_of_length_le (by omega)
               rw [hjl]
               have hKE : Hid (∃ S', StoreB w7 (.pointer (some ⟨bs, 0, none⟩)) S' B ∧ S'.puts ≤ k + 1 ∧ Keep (fun k => B ≤ k) w w7) := ⟨S1, S7.out, P1'.out, K7.out⟩
               by_cases hz0 : S1.getErr z = 0
               · obtain rfl : ze = 0 := by rw [← HZE.out, hz0]
                 have hc1 : L.countP (fun y => decide (y = z)) = 1 := (count_one LN.out z).1 ((LM.out z).2 hz0)
                 rw [hc1]
                 clear hjl hc1 hz0
                 go_wp2
                 go_roundw
                 case rel => exact ⟨k + 1, by omega, by go_num, hKE⟩
                 case measure => simp [intOf]; omega
               · have hc1 : L.countP (fun y => decide (y = z)) = 0 := (count_one LN.out z).2 (fun h => hz0 ((LM.out z).1 h))
                 obtain rfl : ze = 4 := by
                   rw [← HZE.out]; unfold St.getErr at hz0 ⊢; split
                   · rename_i h; rw [if_pos h] at hz0; exact absurd rfl hz0
                   · rfl
                 rw [hc1]
                 clear hjl hc1 hz0
                 go_wp2
                 go_roundw
                 case rel => exact ⟨k + 1, by omega, by go_num, hKE⟩
                 case measure => simp [intOf]; omega
    · go_wp2_with fail
      go_ret
      exact ⟨rfl, by have := K0.out; rw [HB.out] at this ⊢; exact this.new⟩
end Go.Proofs.Ytcalfjakgidhfaa
