/- law 14: UserGrows. (Printed by tools/guv.py; in work.) -/
import Derived.Test.YtckblcfkajpofaaGreatDoorZB7
namespace Go.Proofs.YtckblcfkajpofaaGreatDoor
open Go.RowKit Go.Sort
set_option linter.unusedVariables false
set_option linter.unusedSimpArgs false

theorem infoU64 : (Tryz.prog.info? 22).map (fun i => (i.zero, i.size, i.bytes)) = some (some (.int .u64 0), 1, 8) := by kernel_rfl
theorem u64V_made (n : Nat) : madeCells #[Value.int .u64 0] n = (u64V (List.replicate n 0)).toArray := by
  apply Array.toList_inj.1
  simp only [madeCells, u64V, Array.toList_ofFn, List.map_replicate]
  apply List.ext_getElem
  · simp
  · intro i h1 h2
    simp [Nat.mod_one]
set_option maxRecDepth 100000 in
set_option maxHeartbeats 8000000 in
theorem userGrows_calls (w : World) (seed : Nat) (v : Value) (l : List ActU) (hd : seed < 18446744073709551616) (hv : rowsOf 3 actRow w v l) (hw : ∀ a ∈ l, a.wf) (hT : Tabs w) :
    Calls Tryz.prog 12 #[.int .u64 seed, v] w fun e w' => e = .returned (.bool true) ∧ Below w.heap.size w w' := by
  have HS1 := Lib.hid (shown14_calls hT)
  have HN := Lib.hid (fun W (hb : Below w.heap.size w W) => unew_calls' W annaB seed (by decide) hd (hT.below hb) name_anna)
  have hok0 := unew_ok name_anna hd
  have HT := Lib.hid hT
  have HV := Lib.hid hv
  have HW := Lib.hid hw
  obtain ⟨A, c, rfl, hlc, hlm, hA⟩ := id hv
  have HA := Lib.hid hA
  have HOK0 := Lib.hid hok0
  have hsec : (unew annaB seed).secret = secT ⟨#[117, 115, 101, 114]⟩ annaB (drawN seed 0) := rfl
  have hver : ∀ f, verOf (unew annaB seed) f = 0 := fun f => rfl
  obtain ⟨U0, hU0⟩ : ∃ U0, unew annaB seed = U0 := ⟨_, rfl⟩
  have hdr0 : U0.drew = 1 := by rw [← hU0]; rfl
  have hnm0 : U0.name = annaB := by rw [← hU0]; rfl
  have hsd0 : U0.seed = seed := by rw [← hU0]; rfl
  rw [hU0] at HN HOK0 hsec hver
  have hver0 := Lib.hid hver
  have hvl : verL U0 = List.replicate 10 0 := by unfold verL fileList; simp [hver, List.replicate]
  obtain ⟨sec0, hsec0⟩ : ∃ s, U0.secret = s := ⟨_, rfl⟩
  have HSEC : Hid (SecAt seed 1 [sec0]) := Lib.hid (by rw [← hsec0, hsec]; exact SecAt.one seed 0 _ _ (by decide))
  have HS0 := Lib.hid hsec0
  have hmk := fun W => run_make_row' (P := Tryz.prog) 119 22 (.int .u64 0) 8 Tryz.underlying119 infoU64 rfl .i64 .i64 10 (by omega) (by omega) W
  have hmc : madeCells #[Value.int .u64 0] 10 = (u64V (verL U0)).toArray := by rw [hvl]; exact u64V_made 10
  rw [hmc] at hmk
  simp only [Int.cast_ofNat_Int] at hmk
  obtain ⟨n, hn⟩ : ∃ n, l.length = n := ⟨_, rfl⟩
  have HLEN := Lib.hid hn
  rw [hn] at hlc hlm HV ⊢
  clear hv hw hA hT hok0 hU0 hn hsec hsec0 hver hvl hmc
  go_enter Tryz.func12, Tryz.ntmps12
  go_wp2_with fail
  refine HS1.out.mono ?_
  rintro e w1 ⟨rfl, hb⟩
  have B1 := Lib.hid hb
  clear hb
  go_wp2_with fail
  refine (HN.out _ B1.out).mono ?_
  rintro e w2 ⟨hb, pu, du, bu, mu, rfl, hu, hun⟩
  have B2 := Lib.hid (B1.out.trans (hb.mono B1.out.size))
  have HU := Lib.hid hu
  have HUN := Lib.hid (fun i hi => Nat.le_trans B1.out.size (hun i hi))
  clear hb hu hun
  by_cases hbig : 60 < n
  · go_wp2_with fail
    go_ret
    exact ⟨rfl, B2.out⟩
  go_wp2_with fail
  have hb3 := (Below.refl w2.heap.size w2).alloc (Nat.le_refl _) (.cells (u64V (verL U0)).toArray 22)
  have hU3 := HU.out.below hb3
  have HSC := Lib.hid (usecret_calls hU3)
  rw [HS0.out] at HSC
  obtain ⟨VB, hVB⟩ : ∃ VB, w2.heap.size = VB := ⟨_, rfl⟩
  obtain ⟨W3, hW3⟩ : ∃ W3, w2.alloc (.cells (u64V (verL U0)).toArray 22) = W3 := ⟨_, rfl⟩
  have hs3 : W3.heap.size = VB + 1 := by rw [← hW3, ← hVB]; simp [size_alloc]
  have hr3 : W3.heap[VB]? = some (.cells (u64V (verL U0)).toArray 22 (0, 0)) := by rw [← hW3, ← hVB, get_alloc, if_pos rfl]
  rw [hW3] at hb3 hU3 HSC ⊢
  obtain ⟨W4, hW4⟩ : ∃ W4, W3.alloc (.cells #[.string sec0] 9) = W4 := ⟨_, rfl⟩
  have hb4 : Below W3.heap.size W3 W4 := by rw [← hW4]; exact (Below.refl _ W3).alloc (Nat.le_refl _) _
  have hr4 := (Keep.of_below hb4 : Keep (fun _ => False) W3 W4).at hr3 fun e => e
  have hg4 : W4.heap[VB + 1]? = some (.cells (strV [sec0]).toArray 9 (0, 0)) := by rw [← hW4, ← hs3, get_alloc, if_pos rfl]; rfl
  have hU4 := hU3.below hb4
  have hs4 : W4.heap.size = VB + 2 := by rw [← hW4, size_alloc, hs3]
  have hbw : Below w.heap.size w W4 := (B2.out.trans (hb3.mono B2.out.size)).trans (hb4.mono (by have := B2.out.size; omega))
  have hst : GrSt w W4 seed U0 ⟨pu, du, bu, mu⟩ VB (.slice (some ⟨VB + 1, 0, none⟩) 1 1) [sec0] :=
    ⟨HOK0.out, hnm0, hsd0, ⟨by have := B2.out.size; omega, hr4, owns_full (l := [sec0]) hg4 (Nat.le_refl _) (by simp), ⟨hbw, ⟨_, _, hU4, fun i hi => ⟨HUN.out i hi, fun e => by
      have := HU.out.lt i hi
      rcases e with e | e
      · omega
      · have e2 : VB + 1 = i := Option.some.inj e
        omega⟩⟩, fun i hi => by
        rcases hi with e | e
        · omega
        · have e2 : VB + 1 = i := Option.some.inj e
          omega⟩⟩, by rw [hdr0]; exact HSEC.out⟩
  have HST := Lib.hid hst
  have HS3 := Lib.hid hs3
  clear hb3 hU3 hr3 hb4 hr4 hg4 hU4 hs4 hbw hst hmk
  refine HSC.out.mono ?_
  rintro e w5 ⟨rfl, rfl⟩
  go_wp2_with fail
  go_loopw [9, 10] (fun sv i wr => ∃ (k : Nat) (U : Us) (S : List ByteArray), k ≤ n ∧ i = .int .i64 k ∧ U.drew ≤ 1 + 2 * k ∧ S.length ≤ 1 + 2 * k ∧ (∀ f, verOf U f ≤ k) ∧ Hid (GrSt w wr seed U ⟨pu, du, bu, mu⟩ VB sv S)) (fun _ i _ => n - (intOf i).toNat)
  case atStart => exact ⟨0, U0, [sec0], Nat.zero_le _, rfl, by omega, by simp, fun f => by rw [hver0.out]; omega, HST⟩
  case round =>
    obtain ⟨k, U, S, hk, rfl, hdr, hsl, hvk, HG⟩ := hrel
    obtain ⟨D9, cd9, rfl, _, _⟩ := own_slice HG.out.m.own
    by_cases hlt : k < n
    · obtain ⟨x, hx⟩ : ∃ x, l[k]? = some x := ⟨_, List.getElem?_eq_getElem (by rw [HLEN.out]; exact hlt)⟩
      obtain ⟨b, off, hAe, _⟩ := HA.out (by rw [HLEN.out]; omega)
      obtain ⟨c0, c1, c2⟩ := act14_at HV.out HG.out.m.one.1 hx b off hAe
      have hxw := HW.out x (List.mem_of_getElem? hx)
      have HF := Lib.hid (fun W => file_calls x.file W hxw.file1 hxw.file2)
      have HP10 := Lib.hid (fun W => pick14_calls x.file 10 W hxw.file1 hxw.file2 (by omega) (by omega))
      have HP9 := Lib.hid (fun W => pick14_calls x.op 9 W hxw.op1 hxw.op2 (by omega) (by omega))
      have HXW := Lib.hid hxw
      have HX := Lib.hid hx
      subst hAe
      obtain ⟨o1, o2, o3⟩ := x
      dsimp only at c0 c1 c2 HF HP10 HP9
      have HM := Lib.hid HG.out.m
      have HOK := Lib.hid HG.out.ok
      have HSE := Lib.hid HG.out.sec
      have HNM := Lib.hid HG.out.name
      have HSD := Lib.hid HG.out.seed'
      have HVK := Lib.hid hvk
      obtain ⟨R, hR⟩ : ∃ R, U.act ⟨o1, o2, o3⟩ = R := ⟨_, rfl⟩
      have HRR := Lib.hid hR
      have HOKR : Hid R.1.ok := Lib.hid (by rw [← hR]; exact Us.act_ok HOK.out _)
      have hdr2 : R.1.drew ≤ 1 + 2 * (k + 1) := by have := (Us.act_drew U ⟨o1, o2, o3⟩).1; rw [hR] at this; omega
      have HNR : Hid (R.1.name = annaB ∧ R.1.seed = seed) := Lib.hid (by rw [← hR]; exact ⟨(Us.act_same U _).1.trans HNM.out, (Us.act_seed U _).trans HSD.out⟩)
      have HDOES := fun (W0 W : World) (h : GrM w W0 U ⟨pu, du, bu, mu⟩ VB (verL U) (.slice D9 S.length cd9) S) (hb : Below W0.heap.size W0 W) => h.does2 hb HOK.out HT.out (by omega) ⟨o1, o2, o3⟩ HXW.out
      simp only [hR] at HDOES
      dsimp only [actA] at HDOES
      have HDOES := Lib.hid HDOES
      obtain ⟨f, hf⟩ : ∃ f, fileB o2 = f := ⟨_, rfl⟩
      have HFE := Lib.hid hf
      rw [hf] at HF
      have HOWN := fun (W : World) (h : GrM w W U ⟨pu, du, bu, mu⟩ VB (verL U) (.slice D9 S.length cd9) S) => h.owns2 HOK.out f
      have HOWNR := Lib.hid (fun (W : World) (h : GrM w W R.1 ⟨pu, du, bu, mu⟩ VB (verL U) (.slice D9 S.length cd9) S) => h.owns2 HOKR.out f)
      have HSM := ownOut_small HOK.out f
      obtain ⟨r, hr⟩ : ∃ r, ownOut (U.own f) = r := ⟨_, rfl⟩
      have HRO := Lib.hid hr
      simp only [hr] at HOWN
      rw [hr] at HSM
      obtain ⟨⟨⟨ow, fi, ep, rd, wl⟩, ver, root, sg, gone⟩, en⟩ := r
      dsimp only at HOWN HSM
      have HOWN := Lib.hid HOWN
      have HSM := Lib.hid HSM
      have HLST := Lib.hid (fun (W : World) (h : GrM w W U ⟨pu, du, bu, mu⟩ VB (verL U) (.slice D9 S.length cd9) S) => h.lists2 HOK.out (by omega))
      have HLSM := Lib.hid (list_small HOK.out (by omega))
      have hpi := pickZ_lt o2 (n := 10) (by omega)
      obtain ⟨ix, hix⟩ : ∃ ix : Nat, pickZ o2 10 = ix := ⟨(pickZ o2 10).toNat, by omega⟩
      have HIX := Lib.hid hix
      rw [hix] at HP10
      have hix10 : ix < 10 := by omega
      have hpo := pickZ_lt o1 (n := 9) (by omega)
      obtain ⟨op, hop⟩ : ∃ op : Int, pickZ o1 9 = op := ⟨_, rfl⟩
      have HOP := Lib.hid hop
      rw [hop] at HP9 hpo
      clear hx hxw HG hR hf hr hix hop hpi hvk
      go_wp2_with fail
      refine (HF.out _).mono ?_
      rintro e w5 ⟨rfl, hb5⟩
      have HB5 := Lib.hid hb5
      have M5 := Lib.hid (HM.out.below hb5)
      clear hb5 c0 c1 c2
      obtain ⟨c0, c1, c2⟩ := act14_at HV.out M5.out.one.1 HX.out b off rfl
      dsimp only at c0 c1 c2
      go_wp2_with fail
      refine (HP10.out _).mono ?_
      rintro e w6 ⟨rfl, rfl⟩
      clear c0 c1 c2
      go_wp2_with fail
      refine (HOWN.out _ M5.out).mono ?_
      rintro e w6 ⟨⟨vr1, vw1, vs1, rfl, hl1, hn1⟩, hb6⟩
      obtain ⟨A1, ca1, rfl, _, _⟩ := hl1.rt.rd.form
      obtain ⟨C1, cb1, rfl, _, _⟩ := hl1.rt.wr.form
      obtain ⟨D1, cd1, rfl, _, _⟩ := hl1.sg.form
      have HL6 := Lib.hid hl1
      have HN6 : Hid (∀ g, _ → wr.heap.size ≤ g ∧ g < w6.heap.size) := Lib.hid (fun g hg => ⟨Nat.le_trans HB5.out.size (hn1 g hg).1, (hn1 g hg).2⟩)
      have HB6 := Lib.hid (HB5.out.trans (hb6.mono HB5.out.size))
      clear hl1 hb6 hn1
      go_wp2_with (with_reducible refine wp_stop_store (o := ⟨none, .store _ (.tmp 13) _, _, _, _, _⟩) _ _ _ rfl ?_)
      unfold Stop
      refine wp_store_all rfl _ _ _ rfl rfl rfl _ _ ((get_alloc _ _ _).trans (if_pos rfl)) info_ow rfl (by simp [Value.oneCell']) ?_
      intro w7 h7 k7 s7
      obtain ⟨Z1, hZ1⟩ : ∃ Z1, w6.heap.size = Z1 := ⟨_, rfl⟩
      have hb67 : Below w6.heap.size w6 w7 := below_at ((Below.refl _ w6).alloc (Nat.le_refl _) _) k7 (Nat.le_refl _)
      have HB7 := Lib.hid (HB6.out.trans (hb67.mono HB6.out.size))
      have M7 := Lib.hid (HM.out.below HB7.out)
      have HL7 := Lib.hid (HL6.out.below hb67)
      have hz7 : Z1 < w7.heap.size := (Array.getElem?_eq_some_iff.1 h7).1 |> fun h => by rw [← hZ1]; exact h
      have HZ7 : Hid (wr.heap.size ≤ Z1 ∧ Z1 < w7.heap.size ∧ w6.heap.size ≤ w7.heap.size) := Lib.hid ⟨by have := HB6.out.size; omega, hz7, hb67.size⟩
      rw [hZ1] at h7 ⊢
      have HR7 := Lib.hid h7
      clear hb67 h7 k7 s7 hZ1 hz7
      go_wp2_with fail
      refine (HLST.out _ M7.out).mono ?_
      rintro e w8 ⟨⟨v1, rfl, hs1, hn1⟩, hb8⟩
      obtain ⟨A3, ca3, rfl, _, _⟩ := hs1.form
      have HB8 := Lib.hid (HB7.out.trans (hb8.mono HB7.out.size))
      have M8 := Lib.hid (HM.out.below HB8.out)
      have HL8 := Lib.hid (HL7.out.below hb8)
      have HR8 := Lib.hid ((Keep.of_below hb8 : Keep (fun _ => False) w7 w8).at HR7.out fun e => e)
      have HS8 := Lib.hid hs1
      have HZ8 : Hid ((wr.heap.size ≤ Z1 ∧ Z1 < w8.heap.size) ∧ w6.heap.size ≤ w8.heap.size ∧ ∀ g, _ → wr.heap.size ≤ g ∧ g < w8.heap.size) := Lib.hid ⟨⟨HZ7.out.1, Nat.lt_of_lt_of_le HZ7.out.2.1 hb8.size⟩, Nat.le_trans HZ7.out.2.2 hb8.size, fun g hg => ⟨Nat.le_trans HB7.out.size (hn1 g hg).1, (hn1 g hg).2⟩⟩
      clear hb8 hs1 hn1
      obtain ⟨c0, c1, c2⟩ := act14_at HV.out M8.out.one.1 HX.out b off rfl
      dsimp only at c0 c1 c2
      go_wp2_with fail
      refine (HP9.out _).mono ?_
      rintro e w9 ⟨rfl, rfl⟩
      go_wp2_with fail
      refine (HDOES.out _ _ HM.out HB8.out).mono ?_
      rintro e w9 ⟨rfl, m9, k9⟩
      have M9 := Lib.hid m9
      have HL9 := Lib.hid (HL8.out.keep k9 fun g hg e => e ⟨(HN6.out g hg).1, Nat.lt_of_lt_of_le (HN6.out g hg).2 HZ8.out.2.1⟩)
      have HR9 := Lib.hid (k9.at HR8.out fun e => e HZ8.out.1)
      have HS9 := Lib.hid (HS8.out.keep k9 fun g hg e => e (HZ8.out.2.2 g hg))
      clear m9 k9 c0 c1 c2
      by_cases h0 : R.2 = 0
      · rw [h0]
        have hok0 : (U.act ⟨o1, o2, o3⟩).2 = 0 := by rw [HRR.out]; exact h0
        by_cases h8 : op < 8
        · have hg := gr_ok HOK.out ⟨o1, o2, o3⟩ hok0 (by rw [HOP.out]; exact h8) (fun j => by have := HVK.out j; omega)
          rw [HRR.out] at hg
          dsimp only at hg
          rw [HFE.out, HIX.out, HOP.out, Int.toNat_natCast, HSD.out, HNM.out] at hg
          obtain ⟨q, q1, q2, q3, q4, q5, q6, q7, q8, q9, q10, q11⟩ := hg
          obtain ⟨v, hv⟩ : ∃ v, verOf U f = v := ⟨_, rfl⟩
          have hvk : v ≤ k := by rw [← hv]; exact HVK.out f
          rw [hv] at q2 q8 q9
          have hcur : (verL U)[ix]? = some v := by
            have := (fileB_at o2).2
            rw [HIX.out, Int.toNat_natCast, HFE.out] at this
            rw [verL_at this, hv]
          have HOWQ := HOWNR.out
          simp only [q1] at HOWQ
          simp only [ownOut] at HOWQ
          obtain ⟨⟨ow2, fi2, ep2, rd2, wl2⟩, ver2, root2, sg2, gone2⟩ := q
          dsimp only at q2 q3 q4 q5 q6 q7 q10 q11 HOWQ
          subst q2; subst q5; subst q6; subst q7
          have HOWQ := Lib.hid HOWQ
          have Q1 := Lib.hid q1
          have Q3 := Lib.hid q3
          have Q4 := Lib.hid q4
          have Q8 := Lib.hid q8
          have Q9 := Lib.hid q9
          have Q10 := Lib.hid q10
          have Q11 := Lib.hid q11
          have HCUR := Lib.hid hcur
          clear q1 q3 q4 q8 q9 q10 q11 hcur hv HOWNR HL9 HR9 HS9 hok0
          dsimp only [agO] at HOWQ
          go_wp2_with fail
          refine (HOWQ.out _ M9.out).mono ?_
          rintro e w10 ⟨⟨vr2, vw2, vs2, rfl, hl2, hn2⟩, hb10⟩
          obtain ⟨A2, ca2, rfl, _, _⟩ := hl2.rt.rd.form
          obtain ⟨C2, cb2, rfl, _, _⟩ := hl2.rt.wr.form
          obtain ⟨D2, cd2, rfl, _, _⟩ := hl2.sg.form
          have HL10 := Lib.hid hl2
          have M10 := Lib.hid (M9.out.below hb10)
          have HNV : Hid (∀ g, _ → g ≠ VB) := Lib.hid (fun g hg => by have := M9.out.one.2.2 _ (Or.inl rfl); have := (hn2 g hg).1; omega)
          clear hl2 hb10 hn2
          go_wp2_with (with_reducible refine wp_stop_store (o := ⟨none, .store _ (.tmp 18) _, _, _, _, _⟩) _ _ _ rfl ?_)
          unfold Stop
          refine wp_store_all rfl _ _ _ rfl rfl rfl _ _ ((get_alloc _ _ _).trans (if_pos rfl)) info_ow rfl (by simp [Value.oneCell']) ?_
          intro w11 h11 k11 s11
          obtain ⟨Z2, hZ2⟩ : ∃ Z2, w10.heap.size = Z2 := ⟨_, rfl⟩
          have hb1011 : Below w10.heap.size w10 w11 := below_at ((Below.refl _ w10).alloc (Nat.le_refl _) _) k11 (Nat.le_refl _)
          have M11 := Lib.hid (M10.out.below hb1011)
          have HL11 := Lib.hid (HL10.out.below hb1011)
          have hvb : VB < w10.heap.size := M10.out.one.2.2 _ (Or.inl rfl)
          have hzv : Z2 ≠ VB := by omega
          rw [hZ2] at h11 ⊢
          have HR11 := Lib.hid h11
          clear hb1011 h11 k11 s11 hZ2 hvb
          have cV : w11.cell? ⟨VB, ix, none⟩ = some (.int .u64 (v : Int)) := by
            rw [cell_of_row _ _ _ _ _ _ M11.out.tab, ← Array.getElem?_toList]
            show (u64V (verL U))[ix]? = _
            unfold u64V; rw [List.getElem?_map, HCUR.out]; rfl
          have fV := frozen_of_row M11.out.tab ix
          have e8 : (op == 8) = false := by rw [beq_eq_false_iff_ne]; omega
          obtain ⟨W12, hW12⟩ : ∃ W, w11.setCell ⟨VB, ix, none⟩ (.int .u64 ((v + 1 : Nat) : Int)) = W := ⟨_, rfl⟩
          have M12 := M11.out.tick ix (v + 1)
          rw [hW12, ← Q8.out] at M12
          have k12 : Keep (fun i => i = VB) w11 W12 := by rw [← hW12]; exact Keep.setCell (fun i => i = VB) w11 (p := ⟨VB, ix, none⟩) rfl _
          have HR12 := Lib.hid (k12.at HR11.out fun e => hzv e)
          have HL12 : Hid (OLists W12 _ _ _ _) := Lib.hid (HL11.out.keep k12 fun g hg e => HNV.out g hg e)
          have M12 := Lib.hid M12
          clear k12
          rw [show ((v + 1 : Nat) : Int) = (v : Int) + 1 from by omega] at hW12
          go_wp2_with fail
          have HSS : Hid (∀ W, Below W12.heap.size W12 W → ((W.cell? ⟨Z2, 0, none⟩ = some (.string annaB) ∧ W.cell? ⟨Z2, 1, none⟩ = some (.string fi2) ∧ W.cell? ⟨Z2, 2, none⟩ = some (.int .i64 ep2) ∧ W.cell? ⟨Z2, 3, none⟩ = some (.slice A2 rd2.length ca2) ∧ W.cell? ⟨Z2, 4, none⟩ = some (.slice C2 wl2.length cb2) ∧ W.cell? ⟨Z2, 5, none⟩ = some (.int .u64 ((v : Int) + 1)) ∧ W.cell? ⟨Z2, 6, none⟩ = some (.string root2) ∧ W.cell? ⟨Z2, 7, none⟩ = some (.slice D2 sg2.length cd2) ∧ W.cell? ⟨Z2, 8, none⟩ = some (.bool false)) ∧ W.cell? ⟨VB, ix, none⟩ = some (.int .u64 ((v : Int) + 1)))) := Lib.hid (fun W hb => ⟨row9 (by have h := (Keep.of_below hb : Keep (fun _ => False) W12 W).at HR12.out fun e => e; exact h), by
            rw [cell_of_row _ _ _ _ _ _ (M12.out.below hb).tab, ← Array.getElem?_toList]
            show (u64V (verL R.1))[ix]? = _
            unfold u64V; rw [List.getElem?_map, Q8.out, List.getElem?_set, if_pos rfl, if_pos (List.getElem?_eq_some_iff.1 HCUR.out).1]; simp⟩)
          have HRT := Lib.hid (fun W (hb : Below W12.heap.size W12 W) => right7_yes W ⟨annaB, fi2, ep2, rd2, wl2⟩ _ _ (HL12.out.rt.below hb) Q4.out)
          have hixI : (ix : Int) < 10 := by omega
          have hgq := Rt.right_good Q4.out
          have hlo2 : 0 ≤ ep2 := hgq.lo
          have hhi2 : ep2 ≤ 7 := hgq.hi
          clear hgq
          have e3 : ((sg2.length : Int) == ep2 + 1) = true := by rw [beq_iff_eq]; exact Q3.out
          have hwr : IntKind.i64.wrap (ep2 + 1) = ep2 + 1 := by
            simp only [IntKind.wrap, IntKind.bits, IntKind.signed]
            first | omega | (simp; omega) | (split <;> omega)
          have e4 : ((sg2.length : Int) != ep2 + 1) = false := by simp only [bne, e3]; rfl
          dsimp only at HRT
          refine wp_region_G (fun W => (W.cell? ⟨Z2, 0, none⟩ = some (.string annaB) ∧ W.cell? ⟨Z2, 1, none⟩ = some (.string fi2) ∧ W.cell? ⟨Z2, 2, none⟩ = some (.int .i64 ep2) ∧ W.cell? ⟨Z2, 3, none⟩ = some (.slice A2 rd2.length ca2) ∧ W.cell? ⟨Z2, 4, none⟩ = some (.slice C2 wl2.length cb2) ∧ W.cell? ⟨Z2, 5, none⟩ = some (.int .u64 ((v : Int) + 1)) ∧ W.cell? ⟨Z2, 6, none⟩ = some (.string root2) ∧ W.cell? ⟨Z2, 7, none⟩ = some (.slice D2 sg2.length cd2) ∧ W.cell? ⟨Z2, 8, none⟩ = some (.bool false)) ∧ W.cell? ⟨VB, ix, none⟩ = some (.int .u64 ((v : Int) + 1))) [39] (by kernel_rfl) ?_
          have hb0 : Below W12.heap.size W12 W12.drew := (Below.refl _ W12).drew
          have hS := HSS.out _ hb0
          refine wpAnyG_pure (i := 0) (v := ?vg10) at0 (by kernel_rfl) (fun _ _ _ h => h) (Or.inl ⟨by rfl, ?hg10⟩) (Or.inr (by assumption)) ?rg10
          case hg10 => (intro w hSw; (try dsimp only at hSw); go_simp; try with_reducible rfl)
          case' rg10 => skip
          try simp only [Act.put, List.setIfInBounds_toArray, List.set_cons_zero, List.set_cons_succ]
          refine wpAnyG_pure (i := 1) (v := ?vg11) at1 (by kernel_rfl) (fun _ _ _ h => h) (Or.inl ⟨by rfl, ?hg11⟩) (Or.inr (by assumption)) ?rg11
          case hg11 => (intro w hSw; (try dsimp only at hSw); go_simp; try with_reducible rfl)
          case' rg11 => skip
          try simp only [Act.put, List.setIfInBounds_toArray, List.set_cons_zero, List.set_cons_succ]
          refine wpAnyG_pure (i := 2) (v := ?vg12) at2 (by kernel_rfl) (fun _ _ _ h => h) (Or.inl ⟨by rfl, ?hg12⟩) (Or.inr (by assumption)) ?rg12
          case hg12 => (intro w hSw; (try dsimp only at hSw); go_simp; try with_reducible rfl)
          case' rg12 => skip
          try simp only [Act.put, List.setIfInBounds_toArray, List.set_cons_zero, List.set_cons_succ]
          refine wpAnyG_pure (i := 3) (v := ?vg13) at3 (by kernel_rfl) (fun _ _ _ h => h) (Or.inl ⟨by rfl, ?hg13⟩) (Or.inr (by assumption)) ?rg13
          case hg13 => (intro w hSw; (try dsimp only at hSw); go_simp; try with_reducible rfl)
          case' rg13 => skip
          try simp only [Act.put, List.setIfInBounds_toArray, List.set_cons_zero, List.set_cons_succ]
          refine wpAnyG_take (ws := [0,1,2,3,4,5,6,7,8,9,10,11,12,13,14,15,16,17,18,19,20,21,22,23,24,25,26,27,28,29,30,31,32,33,34,35,36,37,38]) (i := 4) (v := ?vg14) at4 (by kernel_rfl) (fun _ _ _ h => h) (Or.inl ⟨by rfl, ?hg14⟩) (by assumption) ?rg14
          case hg14 => (intro w hSw; (try dsimp only at hSw); go_simp; try with_reducible rfl)
          case' rg14 => skip
          try simp only [Act.put, List.setIfInBounds_toArray, List.set_cons_zero, List.set_cons_succ]
          refine wpAnyG_pure (i := 5) (v := ?vg15) at5 (by kernel_rfl) (fun _ _ _ h => h) (Or.inl ⟨by rfl, ?hg15⟩) (Or.inr (by assumption)) ?rg15
          case hg15 => (intro w hSw; (try dsimp only at hSw); go_simp; try with_reducible rfl)
          case' rg15 => skip
          try simp only [Act.put, List.setIfInBounds_toArray, List.set_cons_zero, List.set_cons_succ]
          refine wpAnyG_pure (i := 6) (v := ?vg16) at6 (by kernel_rfl) (fun _ _ _ h => h) (Or.inl ⟨by rfl, ?hg16⟩) (Or.inr (by assumption)) ?rg16
          case hg16 => (intro w hSw; (try dsimp only at hSw); go_simp; try with_reducible rfl)
          case' rg16 => skip
          try simp only [Act.put, List.setIfInBounds_toArray, List.set_cons_zero, List.set_cons_succ]
          refine wpAnyG_pure (i := 7) (v := ?vg17) at7 (by kernel_rfl) (fun _ _ _ h => h) (Or.inl ⟨by rfl, ?hg17⟩) (Or.inr (by assumption)) ?rg17
          case hg17 => (intro w hSw; (try dsimp only at hSw); go_simp; try with_reducible rfl)
          case' rg17 => skip
          try simp only [Act.put, List.setIfInBounds_toArray, List.set_cons_zero, List.set_cons_succ]
          refine wpAnyG_take (ws := [0,1,2,3,4,5,6,7,8,9,10,11,12,13,14,15,16,17,18,19,20,21,22,23,24,25,26,27,28,29,30,31,32,33,34,35,36,37,38]) (i := 8) (v := ?vg18) at8 (by kernel_rfl) (fun _ _ _ h => h) (Or.inl ⟨by rfl, ?hg18⟩) (by assumption) ?rg18
          case hg18 => (intro w hSw; (try dsimp only at hSw); go_simp; try with_reducible rfl)
          case' rg18 => skip
          try simp only [Act.put, List.setIfInBounds_toArray, List.set_cons_zero, List.set_cons_succ]
          refine wpAnyG_pure (i := 9) (v := ?vg19) at9 (by kernel_rfl) (fun _ _ _ h => h) (Or.inl ⟨by rfl, ?hg19⟩) (Or.inr (by assumption)) ?rg19
          case hg19 => (intro w hSw; (try dsimp only at hSw); go_simp; try with_reducible rfl)
          case' rg19 => skip
          try simp only [Act.put, List.setIfInBounds_toArray, List.set_cons_zero, List.set_cons_succ]
          refine wpAnyG_pure (i := 10) (v := ?vg110) at10 (by kernel_rfl) (fun _ _ _ h => h) (Or.inl ⟨by rfl, ?hg110⟩) (Or.inr (by assumption)) ?rg110
          case hg110 => (intro w hSw; (try dsimp only at hSw); go_simp; try with_reducible rfl)
          case' rg110 => skip
          try simp only [Act.put, List.setIfInBounds_toArray, List.set_cons_zero, List.set_cons_succ]
          refine wpAnyG_pure (i := 11) (v := ?vg111) at11 (by kernel_rfl) (fun _ _ _ h => h) (Or.inl ⟨by rfl, ?hg111⟩) (Or.inr (by assumption)) ?rg111
          case hg111 => (intro w hSw; (try dsimp only at hSw); go_simp; try with_reducible rfl)
          case' rg111 => skip
          try simp only [Act.put, List.setIfInBounds_toArray, List.set_cons_zero, List.set_cons_succ]
          refine wpAnyG_pure (i := 12) (v := ?vg112) at12 (by kernel_rfl) (fun _ _ _ h => h) (Or.inl ⟨by rfl, ?hg112⟩) (Or.inr (by assumption)) ?rg112
          case hg112 => (intro w hSw; (try dsimp only at hSw); go_simp; try with_reducible rfl)
          case' rg112 => skip
          try simp only [Act.put, List.setIfInBounds_toArray, List.set_cons_zero, List.set_cons_succ]
          refine wpAnyG_take (ws := [0,1,2,3,4,5,6,7,8,9,10,11,12,13,14,15,16,17,18,19,20,21,22,23,24,25,26,27,28,29,30,31,32,33,34,35,36,37,38]) (i := 13) (v := ?vg113) at13 (by kernel_rfl) (fun _ _ _ h => h) (Or.inl ⟨by rfl, ?hg113⟩) (by assumption) ?rg113
          case hg113 => (intro w hSw; (try dsimp only at hSw); go_simp; try with_reducible rfl)
          case' rg113 => skip
          try simp only [Act.put, List.setIfInBounds_toArray, List.set_cons_zero, List.set_cons_succ]
          refine wpAnyG_pure (i := 14) (v := ?vg114) at14 (by kernel_rfl) (fun _ _ _ h => h) (Or.inl ⟨by rfl, ?hg114⟩) (Or.inr (by assumption)) ?rg114
          case hg114 => (intro w hSw; (try dsimp only at hSw); go_simp; try with_reducible rfl)
          case' rg114 => skip
          try simp only [Act.put, List.setIfInBounds_toArray, List.set_cons_zero, List.set_cons_succ]
          refine wpAnyG_pure (i := 15) (v := ?vg115) at15 (by kernel_rfl) (fun _ _ _ h => h) (Or.inl ⟨by rfl, ?hg115⟩) (Or.inr (by assumption)) ?rg115
          case hg115 => (intro w hSw; (try dsimp only at hSw); go_simp; try with_reducible rfl)
          case' rg115 => skip
          try simp only [Act.put, List.setIfInBounds_toArray, List.set_cons_zero, List.set_cons_succ]
          refine wpAnyG_pure (i := 16) (v := ?vg116) at16 (by kernel_rfl) (fun _ _ _ h => h) (Or.inl ⟨by rfl, ?hg116⟩) (Or.inr (by assumption)) ?rg116
          case hg116 => (intro w hSw; (try dsimp only at hSw); go_simp; try with_reducible rfl)
          case' rg116 => skip
          try simp only [Act.put, List.setIfInBounds_toArray, List.set_cons_zero, List.set_cons_succ]
          refine wpAnyG_take (ws := [0,1,2,3,4,5,6,7,8,9,10,11,12,13,14,15,16,17,18,19,20,21,22,23,24,25,26,27,28,29,30,31,32,33,34,35,36,37,38]) (i := 17) (v := ?vg117) at17 (by kernel_rfl) (fun _ _ _ h => h) (Or.inl ⟨by rfl, ?hg117⟩) (by assumption) ?rg117
          case hg117 => (intro w hSw; (try dsimp only at hSw); go_simp; try with_reducible rfl)
          case' rg117 => skip
          try simp only [Act.put, List.setIfInBounds_toArray, List.set_cons_zero, List.set_cons_succ]
          refine wpAnyG_pure (i := 18) (v := ?vg118) at18 (by kernel_rfl) (fun _ _ _ h => h) (Or.inl ⟨by rfl, ?hg118⟩) (Or.inr (by assumption)) ?rg118
          case hg118 => (intro w hSw; (try dsimp only at hSw); go_simp; try with_reducible rfl)
          case' rg118 => skip
          try simp only [Act.put, List.setIfInBounds_toArray, List.set_cons_zero, List.set_cons_succ]
          refine wpAnyG_pure (i := 19) (v := ?vg119) at19 (by kernel_rfl) (fun _ _ _ h => h) (Or.inl ⟨by rfl, ?hg119⟩) (Or.inr (by assumption)) ?rg119
          case hg119 => (intro w hSw; (try dsimp only at hSw); go_simp; try with_reducible rfl)
          case' rg119 => skip
          try simp only [Act.put, List.setIfInBounds_toArray, List.set_cons_zero, List.set_cons_succ]
          refine wpAnyG_pure (i := 20) (v := ?vg120) at20 (by kernel_rfl) (fun _ _ _ h => h) (Or.inl ⟨by rfl, ?hg120⟩) (Or.inr (by assumption)) ?rg120
          case hg120 => (intro w hSw; (try dsimp only at hSw); go_simp; try with_reducible rfl)
          case' rg120 => skip
          try simp only [Act.put, List.setIfInBounds_toArray, List.set_cons_zero, List.set_cons_succ]
          refine wpAnyG_pure (i := 21) (v := ?vg121) at21 (by kernel_rfl) (fun _ _ _ h => h) (Or.inl ⟨by rfl, ?hg121⟩) (Or.inr (by assumption)) ?rg121
          case hg121 => (intro w hSw; (try dsimp only at hSw); go_simp; try with_reducible rfl)
          case' rg121 => skip
          try simp only [Act.put, List.setIfInBounds_toArray, List.set_cons_zero, List.set_cons_succ]
          refine wpAnyG_pure (i := 22) (v := ?vg122) at22 (by kernel_rfl) (fun _ _ _ h => h) (Or.inl ⟨by rfl, ?hg122⟩) (Or.inr (by assumption)) ?rg122
          case hg122 => (intro w hSw; (try dsimp only at hSw); go_simp; try with_reducible rfl)
          case' rg122 => skip
          try simp only [Act.put, List.setIfInBounds_toArray, List.set_cons_zero, List.set_cons_succ]
          refine wpAnyG_take (ws := [0,1,2,3,4,5,6,7,8,9,10,11,12,13,14,15,16,17,18,19,20,21,22,23,24,25,26,27,28,29,30,31,32,33,34,35,36,37,38]) (i := 23) (v := ?vg123) at23 (by kernel_rfl) (fun _ _ _ h => h) (Or.inl ⟨by rfl, ?hg123⟩) (by assumption) ?rg123
          case hg123 => (intro w hSw; (try dsimp only at hSw); go_simp; try with_reducible rfl)
          case' rg123 => skip
          try simp only [Act.put, List.setIfInBounds_toArray, List.set_cons_zero, List.set_cons_succ]
          refine wpAnyG_one 24 at24 (by kernel_rfl) (fun Kn hK => ?_)
          go_simp
          refine (HRT.out _ hb0).mono ?_
          rintro e w13 ⟨rfl, hb13⟩
          have hb1 := hb0.trans (hb13.mono hb0.size)
          clear hS
          have hS := HSS.out _ hb1
          refine hK.out _ _ (Or.inr hS) ?_
          clear hK Kn hb13 hb0
          try simp only [Act.put, List.setIfInBounds_toArray, List.set_cons_zero, List.set_cons_succ]
          refine wpAnyG_pure (i := 25) (v := ?vg225) at25 (by kernel_rfl) (fun _ _ _ h => h) (Or.inl ⟨by rfl, ?hg225⟩) (Or.inr (by assumption)) ?rg225
          case hg225 => (intro w hSw; (try dsimp only at hSw); go_simp; try with_reducible rfl)
          case' rg225 => skip
          try simp only [Act.put, List.setIfInBounds_toArray, List.set_cons_zero, List.set_cons_succ]
          refine wpAnyG_pure (i := 26) (v := ?vg226) at26 (by kernel_rfl) (fun _ _ _ h => h) (Or.inl ⟨by rfl, ?hg226⟩) (Or.inr (by assumption)) ?rg226
          case hg226 => (intro w hSw; (try dsimp only at hSw); go_simp; try with_reducible rfl)
          case' rg226 => skip
          try simp only [Act.put, List.setIfInBounds_toArray, List.set_cons_zero, List.set_cons_succ]
          refine wpAnyG_pure (i := 27) (v := ?vg227) at27 (by kernel_rfl) (fun _ _ _ h => h) (Or.inl ⟨by rfl, ?hg227⟩) (Or.inr (by assumption)) ?rg227
          case hg227 => (intro w hSw; (try dsimp only at hSw); go_simp; try with_reducible rfl)
          case' rg227 => skip
          try simp only [Act.put, List.setIfInBounds_toArray, List.set_cons_zero, List.set_cons_succ]
          refine wpAnyG_pure (i := 28) (v := ?vg228) at28 (by kernel_rfl) (fun _ _ _ h => h) (Or.inl ⟨by rfl, ?hg228⟩) (Or.inr (by assumption)) ?rg228
          case hg228 => (intro w hSw; (try dsimp only at hSw); go_simp; try with_reducible rfl)
          case' rg228 => skip
          try simp only [Act.put, List.setIfInBounds_toArray, List.set_cons_zero, List.set_cons_succ]
          refine wpAnyG_pure (i := 29) (v := ?vg229) at29 (by kernel_rfl) (fun _ _ _ h => h) (Or.inl ⟨by rfl, ?hg229⟩) (Or.inr (by assumption)) ?rg229
          case hg229 => (intro w hSw; (try dsimp only at hSw); go_simp; try with_reducible rfl)
          case' rg229 => skip
          try simp only [Act.put, List.setIfInBounds_toArray, List.set_cons_zero, List.set_cons_succ]
          refine wpAnyG_take (ws := [0,1,2,3,4,5,6,7,8,9,10,11,12,13,14,15,16,17,18,19,20,21,22,23,24,25,26,27,28,29,30,31,32,33,34,35,36,37,38]) (i := 30) (v := ?vg230) at30 (by kernel_rfl) (fun _ _ _ h => h) (Or.inl ⟨by rfl, ?hg230⟩) (by assumption) ?rg230
          case hg230 => (intro w hSw; (try dsimp only at hSw); go_simp; try with_reducible rfl)
          case' rg230 => skip
          try simp only [Act.put, List.setIfInBounds_toArray, List.set_cons_zero, List.set_cons_succ]
          refine wpAnyG_pure (i := 31) (v := ?vg231) at31 (by kernel_rfl) (fun _ _ _ h => h) (Or.inl ⟨by rfl, ?hg231⟩) (Or.inr (by assumption)) ?rg231
          case hg231 => (intro w hSw; (try dsimp only at hSw); go_simp; try with_reducible rfl)
          case' rg231 => skip
          try simp only [Act.put, List.setIfInBounds_toArray, List.set_cons_zero, List.set_cons_succ]
          refine wpAnyG_pure (i := 32) (v := ?vg232) at32 (by kernel_rfl) (fun _ _ _ h => h) (Or.inl ⟨by rfl, ?hg232⟩) (Or.inr (by assumption)) ?rg232
          case hg232 => (intro w hSw; (try dsimp only at hSw); go_simp; try with_reducible rfl)
          case' rg232 => skip
          try simp only [Act.put, List.setIfInBounds_toArray, List.set_cons_zero, List.set_cons_succ]
          refine wpAnyG_pure (i := 33) (v := ?vg233) at33 (by kernel_rfl) (fun _ _ _ h => h) (Or.inl ⟨by rfl, ?hg233⟩) (Or.inr (by assumption)) ?rg233
          case hg233 => (intro w hSw; (try dsimp only at hSw); go_simp; try with_reducible rfl)
          case' rg233 => skip
          try simp only [Act.put, List.setIfInBounds_toArray, List.set_cons_zero, List.set_cons_succ]
          refine wpAnyG_pure (i := 34) (v := ?vg234) at34 (by kernel_rfl) (fun _ _ _ h => h) (Or.inl ⟨by rfl, ?hg234⟩) (Or.inr (by assumption)) ?rg234
          case hg234 => (intro w hSw; (try dsimp only at hSw); go_simp; try with_reducible rfl)
          case' rg234 => skip
          try simp only [Act.put, List.setIfInBounds_toArray, List.set_cons_zero, List.set_cons_succ]
          refine wpAnyG_pure (i := 35) (v := ?vg235) at35 (by kernel_rfl) (fun _ _ _ h => h) (Or.inl ⟨by rfl, ?hg235⟩) (Or.inr (by assumption)) ?rg235
          case hg235 => (intro w hSw; (try dsimp only at hSw); go_simp; try with_reducible rfl)
          case' rg235 => skip
          try simp only [Act.put, List.setIfInBounds_toArray, List.set_cons_zero, List.set_cons_succ]
          refine wpAnyG_take (ws := [0,1,2,3,4,5,6,7,8,9,10,11,12,13,14,15,16,17,18,19,20,21,22,23,24,25,26,27,28,29,30,31,32,33,34,35,36,37,38]) (i := 36) (v := ?vg236) at36 (by kernel_rfl) (fun _ _ _ h => h) (Or.inl ⟨by rfl, ?hg236⟩) (by assumption) ?rg236
          case hg236 => (intro w hSw; (try dsimp only at hSw); go_simp; try with_reducible rfl)
          case' rg236 => skip
          try simp only [Act.put, List.setIfInBounds_toArray, List.set_cons_zero, List.set_cons_succ]
          refine wpAnyG_pure (i := 37) (v := ?vg237) at37 (by kernel_rfl) (fun _ _ _ h => h) (Or.inl ⟨by rfl, ?hg237⟩) (Or.inr (by assumption)) ?rg237
          case hg237 => (intro w hSw; (try dsimp only at hSw); go_simp; try with_reducible rfl)
          case' rg237 => skip
          try simp only [Act.put, List.setIfInBounds_toArray, List.set_cons_zero, List.set_cons_succ]
          refine wpAnyG_pure (i := 38) (v := ?vg238) at38 (by kernel_rfl) (fun _ _ _ h => h) (Or.inl ⟨by rfl, ?hg238⟩) (Or.inr (by assumption)) ?rg238
          case hg238 => (intro w hSw; (try dsimp only at hSw); go_simp; try with_reducible rfl)
          case' rg238 => skip
          try simp only [Act.put, List.setIfInBounds_toArray, List.set_cons_zero, List.set_cons_succ]
          refine wpAnyG_one 39 at39 (by kernel_rfl) (fun Kn hK => ?_)
          go_simp
          refine hK.out _ _ (Or.inl (by kernel_rfl)) ?_
          have M13 := Lib.hid (M12.out.below hb1)
          have HL13 := Lib.hid (HL12.out.below hb1)
          have HSS13 := Lib.hid (fun W (hb : Below w13.heap.size w13 W) => HSS.out W (hb1.trans (hb.mono hb1.size)))
          clear hK Kn hS hb1 HSS HRT
          refine wpAnyG_done (by kernel_rfl) ?_
          try simp only [Act.put, List.setIfInBounds_toArray, List.set_cons_zero, List.set_cons_succ]
          clear e3 e4 hwr hixI hlo2 hhi2 e8 hW12 cV fV hzv
          have HVN : Hid (∀ j, verOf R.1 j ≤ k + 1) := Lib.hid (fun j => Nat.le_trans (Q9.out j) (by split; omega; exact Nat.le_succ_of_le (HVK.out j)))
          by_cases h2 : op < 2
          · have h5n : ¬ 5 ≤ op := by omega
            have d5 : decide (5 ≤ op) = false := decide_eq_false h5n
            obtain ⟨s1, rfl, hsec⟩ := Q10.out h2
            obtain ⟨g2, off2, cc2, hv2, _, _, hcs⟩ := HL13.out.sg.cell (i := 0) (x := s1) rfl
            cases hv2
            have hS13 : (fun W : World => W.cell? ⟨Z2, 6, none⟩ = some (.string root2) ∧ W.cell? ⟨Z2, 7, none⟩ = some (.slice (some ⟨g2, off2, none⟩) 1 cd2) ∧ W.cell? ⟨g2, off2, none⟩ = some (.string s1)) w13 := ⟨(HSS13.out _ (Below.refl _ _)).1.2.2.2.2.2.2.1, (HSS13.out _ (Below.refl _ _)).1.2.2.2.2.2.2.2.1, by simpa using hcs⟩
            have HS13 := Lib.hid hS13
            clear hcs Q10 Q11 hS13
            go_wp2_with fail
            refine wp_region_G (fun W => W.cell? ⟨Z2, 6, none⟩ = some (.string root2) ∧ W.cell? ⟨Z2, 7, none⟩ = some (.slice (some ⟨g2, off2, none⟩) 1 cd2) ∧ W.cell? ⟨g2, off2, none⟩ = some (.string s1)) [7] (by kernel_rfl) ?_
            have M14 := M13.out.below (Below.refl _ w13).drew
            have hS : (fun W : World => W.cell? ⟨Z2, 6, none⟩ = some (.string root2) ∧ W.cell? ⟨Z2, 7, none⟩ = some (.slice (some ⟨g2, off2, none⟩) 1 cd2) ∧ W.cell? ⟨g2, off2, none⟩ = some (.string s1)) w13.drew := HS13.out
            obtain ⟨v', w15, hrun, ho15, hk15, hn15⟩ := append_news M14.own [root2, s1] (by simp; omega) (M14.one.2.2 _ (Or.inl rfl))
            obtain ⟨A', c', rfl, _, _⟩ := own_slice ho15
            have hst : GrSt w w15 seed R.1 ⟨pu, du, bu, mu⟩ VB (.slice A' (S ++ [root2, s1]).length c') (S ++ [root2, s1]) := ⟨HOKR.out, HNR.out.1, HNR.out.2, M14.push hk15 ho15 (by rcases hn15 with e | e; exact Or.inl e; exact Or.inr ⟨_, e, Nat.le_succ _⟩), hsec S HSE.out⟩
            obtain ⟨pl, hpl⟩ : ∃ pl, (S ++ [root2, s1]).length = pl := ⟨_, rfl⟩
            have hpl2 : pl ≤ 1 + 2 * (k + 1) := by rw [← hpl, List.length_append]; simp; omega
            have HPL2 : Hid ((S ++ [root2, s1]).length = pl) := Lib.hid hpl
            rw [hpl] at hrun hst
            have HST := Lib.hid hst
            clear hst ho15 hk15 hn15 M14 hpl hsec
            refine wpAnyG_pure (i := 0) (v := ?vh10) at0 (by kernel_rfl) (fun _ _ _ h => h) (Or.inl ⟨by rfl, ?hh10⟩) (Or.inr (by assumption)) ?rh10
            case hh10 => (intro w hSw; (try dsimp only at hSw); go_simp; try with_reducible rfl)
            case' rh10 => skip
            try simp only [Act.put, List.setIfInBounds_toArray, List.set_cons_zero, List.set_cons_succ]
            refine wpAnyG_pure (i := 1) (v := ?vh11) at1 (by kernel_rfl) (fun _ _ _ h => h) (Or.inl ⟨by rfl, ?hh11⟩) (Or.inr (by assumption)) ?rh11
            case hh11 => (intro w hSw; (try dsimp only at hSw); go_simp; try with_reducible rfl)
            case' rh11 => skip
            try simp only [Act.put, List.setIfInBounds_toArray, List.set_cons_zero, List.set_cons_succ]
            refine wpAnyG_take (ws := [2,4,5,6]) (i := 2) (v := ?vh12) at2 (by kernel_rfl) (fun _ _ _ h => h) (Or.inl ⟨by rfl, ?hh12⟩) (by assumption) ?rh12
            case hh12 => (intro w hSw; (try dsimp only at hSw); go_simp; try with_reducible rfl)
            case' rh12 => skip
            try simp only [Act.put, List.setIfInBounds_toArray, List.set_cons_zero, List.set_cons_succ]
            refine wpAnyG_pure (i := 3) (v := ?vh13) at3 (by kernel_rfl) (fun _ _ _ h => h) (Or.inl ⟨by rfl, ?hh13⟩) (Or.inr (by assumption)) ?rh13
            case hh13 => (intro w hSw; (try dsimp only at hSw); go_simp; try with_reducible rfl)
            case' rh13 => skip
            try simp only [Act.put, List.setIfInBounds_toArray, List.set_cons_zero, List.set_cons_succ]
            refine wpAnyG_take (ws := [2,4,5,6]) (i := 4) (v := ?vh14) at4 (by kernel_rfl) (fun _ _ _ h => h) (Or.inl ⟨by rfl, ?hh14⟩) (by assumption) ?rh14
            case hh14 => (intro w hSw; (try dsimp only at hSw); go_simp; try with_reducible rfl)
            case' rh14 => skip
            try simp only [Act.put, List.setIfInBounds_toArray, List.set_cons_zero, List.set_cons_succ]
            refine wpAnyG_pure (i := 5) (v := ?vh15) at5 (by kernel_rfl) (fun _ _ _ h => h) (Or.inl ⟨by rfl, ?hh15⟩) (Or.inr (by assumption)) ?rh15
            case hh15 => (intro w hSw; (try dsimp only at hSw); go_simp; try with_reducible rfl)
            case' rh15 => skip
            try simp only [Act.put, List.setIfInBounds_toArray, List.set_cons_zero, List.set_cons_succ]
            refine wpAnyG_take (ws := [2,4,5,6]) (i := 6) (v := ?vh16) at6 (by kernel_rfl) (fun _ _ _ h => h) (Or.inl ⟨by rfl, ?hh16⟩) (by assumption) ?rh16
            case hh16 => (intro w hSw; (try dsimp only at hSw); go_simp; try with_reducible rfl)
            case' rh16 => skip
            try simp only [Act.put, List.setIfInBounds_toArray, List.set_cons_zero, List.set_cons_succ]
            refine wpAnyG_one 7 at7 (by kernel_rfl) (fun Kn hK => ?_)
            go_simp
            refine hK.out _ _ (Or.inl (by kernel_rfl)) ?_
            clear hK Kn hS
            try simp only [Act.put, List.setIfInBounds_toArray, List.set_cons_zero, List.set_cons_succ]
            refine wpAnyG_one 8 at8 (by kernel_rfl) (fun Kn hK => ?_)
            refine step_append_run rfl _ _ _ rfl rfl rfl hrun ?_
            refine hK.out _ _ (Or.inl (by kernel_rfl)) ?_
            clear hK Kn hrun
            try simp only [Act.put, List.setIfInBounds_toArray, List.set_cons_zero, List.set_cons_succ]
            refine wpAnyG_one 9 at9 (by kernel_rfl) (fun Kn hK => ?_)
            go_simp
            refine hK.out _ _ (Or.inl (by kernel_rfl)) ?_
            clear hK Kn
            refine wpAnyG_done (by kernel_rfl) ?_
            try simp only [Act.put, List.setIfInBounds_toArray, List.set_cons_zero, List.set_cons_succ]
            go_wp2_with fail
            go_roundw
            case rel => exact ⟨k + 1, R.1, S ++ [root2, s1], by omega, by go_num, hdr2, by rw [HPL2.out]; exact hpl2, HVN.out, HST⟩
            case measure => simp [intOf]; omega
          · by_cases h5 : 5 ≤ op
            · obtain ⟨o4, s1, rfl, hsec⟩ := Q11.out h5
              have ho4 : o4.length ≤ 8 := by
                have h1 := Q3.out
                have h2 := (Rt.right_good Q4.out).hi
                dsimp only at h2
                rw [List.length_append, List.length_singleton] at h1
                omega
              have hidx : ((o4.length : Int) + 1 - 1) = (o4.length : Int) := by omega
              have hwr4 : IntKind.i64.wrap (o4.length : Int) = (o4.length : Int) := by
                simp only [IntKind.wrap, IntKind.bits, IntKind.signed]
                first | omega | (simp; omega) | (split <;> omega)
              obtain ⟨g2, off2, cc2, hv2, _, _, hcs⟩ := HL13.out.sg.cell (i := o4.length) (x := s1) (by simp)
              cases hv2
              have hS13 : (fun W : World => W.cell? ⟨Z2, 7, none⟩ = some (.slice (some ⟨g2, off2, none⟩) (o4.length + 1) cd2) ∧ W.cell? ⟨g2, off2 + o4.length, none⟩ = some (.string s1)) w13 := ⟨by have h := (HSS13.out _ (Below.refl _ _)).1.2.2.2.2.2.2.2.1; rw [show (o4 ++ [s1]).length = o4.length + 1 by simp] at h; exact h, hcs⟩
              have HS13 := Lib.hid hS13
              clear hcs Q10 Q11 hS13
              obtain ⟨v', w15, hrun, ho15, hk15, hn15⟩ := append_news M13.out.own [s1] (by simp; omega) (M13.out.one.2.2 _ (Or.inl rfl))
              obtain ⟨A', c', rfl, _, _⟩ := own_slice ho15
              have hst : GrSt w w15 seed R.1 ⟨pu, du, bu, mu⟩ VB (.slice A' (S ++ [s1]).length c') (S ++ [s1]) := ⟨HOKR.out, HNR.out.1, HNR.out.2, M13.out.push hk15 ho15 (by rcases hn15 with e | e; exact Or.inl e; exact Or.inr ⟨_, e, Nat.le_succ _⟩), hsec S HSE.out⟩
              obtain ⟨pl, hpl⟩ : ∃ pl, (S ++ [s1]).length = pl := ⟨_, rfl⟩
              have hpl2 : pl ≤ 1 + 2 * (k + 1) := by rw [← hpl, List.length_append]; simp; omega
              have HPL2 : Hid ((S ++ [s1]).length = pl) := Lib.hid hpl
              rw [hpl] at hrun hst
              have HST := Lib.hid hst
              clear hst ho15 hk15 hn15 hpl hsec
              obtain ⟨k7, k8⟩ := HS13.out
              go_wp2_with (at_builtin; refine wp_append_run rfl _ _ _ rfl rfl rfl hrun ?_)
              clear hrun k7 k8
              go_wp2_with fail
              go_roundw
              case rel => exact ⟨k + 1, R.1, S ++ [s1], by omega, by go_num, hdr2, by rw [HPL2.out]; exact hpl2, HVN.out, HST⟩
              case measure => simp [intOf]; omega
            · have HST : Hid (GrSt w w13 seed R.1 ⟨pu, du, bu, mu⟩ VB (.slice D9 S.length cd9) S) := Lib.hid ⟨HOKR.out, HNR.out.1, HNR.out.2, M13.out, HSE.out.mono (by have := (Us.act_drew U ⟨o1, o2, o3⟩).2; rw [HRR.out] at this; exact this)⟩
              go_wp2_with fail
              go_roundw
              case rel => exact ⟨k + 1, R.1, S, by omega, by go_num, hdr2, by omega, HVN.out, HST⟩
              case measure => simp [intOf]; omega
        · have hop8 : op = 8 := by omega
          have hrm : U.act ⟨o1, o2, o3⟩ = U.remove f := by
            unfold Us.act
            dsimp only
            rw [HOP.out, HFE.out, if_neg (by omega), if_neg (by omega), if_neg h8]
          rw [hrm] at hok0
          obtain ⟨⟨o', ho'⟩, g2, g3, g4⟩ := remove_same hok0
          have hRe : U.remove f = R := by rw [← hrm]; exact HRR.out
          rw [hRe] at g2 g3 g4
          have hen : en = 0 := by have := HRO.out; rw [ho'] at this; unfold ownOut at this; exact (Prod.mk.inj this).2.symm
          subst hen
          have HOWQ := HOWNR.out
          simp only [g2] at HOWQ
          simp only [ownOut] at HOWQ
          have HOWQ := Lib.hid HOWQ
          have HST0 : Hid (∀ W, GrM w W R.1 ⟨pu, du, bu, mu⟩ VB (verL U) (.slice D9 S.length cd9) S → GrSt w W seed R.1 ⟨pu, du, bu, mu⟩ VB (.slice D9 S.length cd9) S) := Lib.hid (fun W h => ⟨HOKR.out, HNR.out.1, HNR.out.2, by rw [verL_same g3]; exact h, by rw [g4]; exact HSE.out⟩)
          have HVN : Hid (∀ j, verOf R.1 j ≤ k + 1) := Lib.hid (fun j => by rw [g3 j]; exact Nat.le_succ_of_le (HVK.out j))
          clear hok0 hrm hRe ho' g2 g3 g4 HOWNR HL9 HR9 HS9
          subst hop8
          dsimp only [agO, zeroOw] at HOWQ
          go_wp2_with fail
          refine (HOWQ.out _ M9.out).mono ?_
          rintro e w10 ⟨⟨vr2, vw2, vs2, rfl, hl2, hn2⟩, hb10⟩
          obtain ⟨A2, ca2, rfl, _, _⟩ := hl2.rt.rd.form
          obtain ⟨C2, cb2, rfl, _, _⟩ := hl2.rt.wr.form
          obtain ⟨D2, cd2, rfl, _, _⟩ := hl2.sg.form
          have HL10 := Lib.hid hl2
          have M10 := Lib.hid (M9.out.below hb10)
          have HB10 := Lib.hid hb10
          clear hl2 hb10 hn2
          go_wp2_with (with_reducible refine wp_stop_store (o := ⟨none, .store _ (.tmp 18) _, _, _, _, _⟩) _ _ _ rfl ?_)
          unfold Stop
          refine wp_store_all rfl _ _ _ rfl rfl rfl _ _ ((get_alloc _ _ _).trans (if_pos rfl)) info_ow rfl (by simp [Value.oneCell']) ?_
          intro w11 h11 k11 s11
          obtain ⟨Z2, hZ2⟩ : ∃ Z2, w10.heap.size = Z2 := ⟨_, rfl⟩
          have hb1011 : Below w10.heap.size w10 w11 := below_at ((Below.refl _ w10).alloc (Nat.le_refl _) _) k11 (Nat.le_refl _)
          have M11 := Lib.hid (M10.out.below hb1011)
          have HL11 := Lib.hid (HL10.out.below hb1011)
          have HB911 := Lib.hid (HB10.out.trans (hb1011.mono HB10.out.size))
          rw [hZ2] at h11 ⊢
          have HR11 := Lib.hid h11
          clear hb1011 h11 k11 s11 hZ2
          have HST := Lib.hid (HST0.out _ M11.out)
          go_wp2_with fail
          go_roundw
          case rel => exact ⟨k + 1, R.1, S, by omega, by go_num, hdr2, by omega, HVN.out, HST⟩
          case measure => simp [intOf]; omega
      · -- it errs
        have hRU : R.1 = U := by have := Us.act_err (U := U) (a := ⟨o1, o2, o3⟩) (by rw [HRR.out]; exact h0); rw [HRR.out] at this; exact this
        rw [hRU] at M9
        obtain ⟨er, her⟩ : ∃ er, R.2 = er := ⟨_, rfl⟩
        rw [her] at h0 ⊢
        have f1 : (er == 0) = false := by simpa using h0
        have f2 : (er != 0) = true := by simp only [bne, f1]; rfl
        have f3 : (en != en) = false := by simp
        clear hRU her HOWNR
        go_wp2_with fail
        refine (HOWN.out _ M9.out).mono ?_
        rintro e w10 ⟨⟨vr2, vw2, vs2, rfl, hl2, hn2⟩, hb10⟩
        obtain ⟨A2, ca2, rfl, _, _⟩ := hl2.rt.rd.form
        obtain ⟨C2, cb2, rfl, _, _⟩ := hl2.rt.wr.form
        obtain ⟨D2, cd2, rfl, _, _⟩ := hl2.sg.form
        have HL10 := Lib.hid hl2
        have M10 := Lib.hid (M9.out.below hb10)
        have HB10 := Lib.hid hb10
        clear hl2 hb10 hn2
        go_wp2_with (with_reducible refine wp_stop_store (o := ⟨none, .store _ (.tmp 18) _, _, _, _, _⟩) _ _ _ rfl ?_)
        unfold Stop
        refine wp_store_all rfl _ _ _ rfl rfl rfl _ _ ((get_alloc _ _ _).trans (if_pos rfl)) info_ow rfl (by simp [Value.oneCell']) ?_
        intro w11 h11 k11 s11
        obtain ⟨Z2, hZ2⟩ : ∃ Z2, w10.heap.size = Z2 := ⟨_, rfl⟩
        have hb1011 : Below w10.heap.size w10 w11 := below_at ((Below.refl _ w10).alloc (Nat.le_refl _) _) k11 (Nat.le_refl _)
        have M11 := Lib.hid (M10.out.below hb1011)
        have HL11 := Lib.hid (HL10.out.below hb1011)
        have HB911 := Lib.hid (HB10.out.trans (hb1011.mono HB10.out.size))
        rw [hZ2] at h11 ⊢
        have HR11 := Lib.hid h11
        clear hb1011 h11 k11 s11 hZ2
        have HLA := Lib.hid (HL9.out.below HB911.out)
        have HSA := Lib.hid (HS9.out.below HB911.out)
        have HRA := Lib.hid ((Keep.of_below HB911.out : Keep (fun _ => False) w9 w11).at HR9.out fun e => e)
        have HAS1 : Hid (∀ W, Below w11.heap.size w11 W → _) := Lib.hid (fun W hb => asOwned_calls W _ _ _ _ (HLA.out.below hb))
        have HAS2 : Hid (∀ W, Below w11.heap.size w11 W → _) := Lib.hid (fun W hb => asOwned_calls W _ _ _ _ (HL11.out.below hb))
        have HSAM : Hid (∀ W, Below w11.heap.size w11 W → _) := Lib.hid (fun W hb => same14o_calls W _ _ _ _ _ _ _ (HLA.out.below hb) (HL11.out.below hb) (by have := HSM.out; dsimp only; omega) (by have := HSM.out; dsimp only; omega) (by have := HSM.out; dsimp only; omega))
        have HFL : Hid (∀ W, Below w11.heap.size w11 W → _) := Lib.hid (fun W hb => HLST.out W (M11.out.below hb))
        have HSM14 : Hid (∀ W v, Below w11.heap.size w11 W → strs W v U.list → _) := Lib.hid (fun W v hb h => same14_calls W _ v U.list (HSA.out.below hb) h HLSM.out)
        simp only [agO] at HAS1 HAS2 HSAM
        have HSS : Hid (∀ W, Below w11.heap.size w11 W → ((W.cell? ⟨Z1, 0, none⟩ = some (.string ow) ∧ W.cell? ⟨Z1, 1, none⟩ = some (.string fi) ∧ W.cell? ⟨Z1, 2, none⟩ = some (.int .i64 ep) ∧ W.cell? ⟨Z1, 3, none⟩ = some (.slice A1 rd.length ca1) ∧ W.cell? ⟨Z1, 4, none⟩ = some (.slice C1 wl.length cb1) ∧ W.cell? ⟨Z1, 5, none⟩ = some (.int .u64 ver) ∧ W.cell? ⟨Z1, 6, none⟩ = some (.string root) ∧ W.cell? ⟨Z1, 7, none⟩ = some (.slice D1 sg.length cd1) ∧ W.cell? ⟨Z1, 8, none⟩ = some (.bool gone)) ∧ (W.cell? ⟨Z2, 0, none⟩ = some (.string ow) ∧ W.cell? ⟨Z2, 1, none⟩ = some (.string fi) ∧ W.cell? ⟨Z2, 2, none⟩ = some (.int .i64 ep) ∧ W.cell? ⟨Z2, 3, none⟩ = some (.slice A2 rd.length ca2) ∧ W.cell? ⟨Z2, 4, none⟩ = some (.slice C2 wl.length cb2) ∧ W.cell? ⟨Z2, 5, none⟩ = some (.int .u64 ver) ∧ W.cell? ⟨Z2, 6, none⟩ = some (.string root) ∧ W.cell? ⟨Z2, 7, none⟩ = some (.slice D2 sg.length cd2) ∧ W.cell? ⟨Z2, 8, none⟩ = some (.bool gone)))) := Lib.hid (fun W hb => ⟨row9 ((Keep.of_below hb : Keep (fun _ => False) w11 W).at HRA.out fun e => e), row9 ((Keep.of_below hb : Keep (fun _ => False) w11 W).at HR11.out fun e => e)⟩)
        go_wp2_with fail
        refine wp_region_G (fun W => (W.cell? ⟨Z1, 0, none⟩ = some (.string ow) ∧ W.cell? ⟨Z1, 1, none⟩ = some (.string fi) ∧ W.cell? ⟨Z1, 2, none⟩ = some (.int .i64 ep) ∧ W.cell? ⟨Z1, 3, none⟩ = some (.slice A1 rd.length ca1) ∧ W.cell? ⟨Z1, 4, none⟩ = some (.slice C1 wl.length cb1) ∧ W.cell? ⟨Z1, 5, none⟩ = some (.int .u64 ver) ∧ W.cell? ⟨Z1, 6, none⟩ = some (.string root) ∧ W.cell? ⟨Z1, 7, none⟩ = some (.slice D1 sg.length cd1) ∧ W.cell? ⟨Z1, 8, none⟩ = some (.bool gone)) ∧ (W.cell? ⟨Z2, 0, none⟩ = some (.string ow) ∧ W.cell? ⟨Z2, 1, none⟩ = some (.string fi) ∧ W.cell? ⟨Z2, 2, none⟩ = some (.int .i64 ep) ∧ W.cell? ⟨Z2, 3, none⟩ = some (.slice A2 rd.length ca2) ∧ W.cell? ⟨Z2, 4, none⟩ = some (.slice C2 wl.length cb2) ∧ W.cell? ⟨Z2, 5, none⟩ = some (.int .u64 ver) ∧ W.cell? ⟨Z2, 6, none⟩ = some (.string root) ∧ W.cell? ⟨Z2, 7, none⟩ = some (.slice D2 sg.length cd2) ∧ W.cell? ⟨Z2, 8, none⟩ = some (.bool gone))) [17] (by kernel_rfl) ?_
        have hb0 : Below w11.heap.size w11 w11.drew := (Below.refl _ w11).drew
        have hS := HSS.out _ hb0
        refine wpAnyG_pure (i := 0) (v := ?vi10) at0 (by kernel_rfl) (fun _ _ _ h => h) (Or.inl ⟨by rfl, ?hi10⟩) (Or.inr (by assumption)) ?ri10
        case hi10 => (intro w hSw; (try dsimp only at hSw); go_simp; try with_reducible rfl)
        case' ri10 => skip
        try simp only [Act.put, List.setIfInBounds_toArray, List.set_cons_zero, List.set_cons_succ]
        refine wpAnyG_pure (i := 1) (v := ?vi11) at1 (by kernel_rfl) (fun _ _ _ h => h) (Or.inl ⟨by rfl, ?hi11⟩) (Or.inr (by assumption)) ?ri11
        case hi11 => (intro w hSw; (try dsimp only at hSw); go_simp; try with_reducible rfl)
        case' ri11 => skip
        try simp only [Act.put, List.setIfInBounds_toArray, List.set_cons_zero, List.set_cons_succ]
        refine wpAnyG_pure (i := 2) (v := ?vi12) at2 (by kernel_rfl) (fun _ _ _ h => h) (Or.inl ⟨by rfl, ?hi12⟩) (Or.inr (by assumption)) ?ri12
        case hi12 => (intro w hSw; (try dsimp only at hSw); go_simp; try with_reducible rfl)
        case' ri12 => skip
        try simp only [Act.put, List.setIfInBounds_toArray, List.set_cons_zero, List.set_cons_succ]
        refine wpAnyG_pure (i := 3) (v := ?vi13) at3 (by kernel_rfl) (fun _ _ _ h => h) (Or.inl ⟨by rfl, ?hi13⟩) (Or.inr (by assumption)) ?ri13
        case hi13 => (intro w hSw; (try dsimp only at hSw); go_simp; try with_reducible rfl)
        case' ri13 => skip
        try simp only [Act.put, List.setIfInBounds_toArray, List.set_cons_zero, List.set_cons_succ]
        refine wpAnyG_pure (i := 4) (v := ?vi14) at4 (by kernel_rfl) (fun _ _ _ h => h) (Or.inl ⟨by rfl, ?hi14⟩) (Or.inr (by assumption)) ?ri14
        case hi14 => (intro w hSw; (try dsimp only at hSw); go_simp; try with_reducible rfl)
        case' ri14 => skip
        try simp only [Act.put, List.setIfInBounds_toArray, List.set_cons_zero, List.set_cons_succ]
        refine wpAnyG_pure (i := 5) (v := ?vi15) at5 (by kernel_rfl) (fun _ _ _ h => h) (Or.inl ⟨by rfl, ?hi15⟩) (Or.inr (by assumption)) ?ri15
        case hi15 => (intro w hSw; (try dsimp only at hSw); go_simp; try with_reducible rfl)
        case' ri15 => skip
        try simp only [Act.put, List.setIfInBounds_toArray, List.set_cons_zero, List.set_cons_succ]
        refine wpAnyG_one 6 at6 (by kernel_rfl) (fun Kn hK => ?_)
        go_simp
        refine (HFL.out _ hb0).mono ?_
        rintro e w12 ⟨⟨v6, rfl, hs6, hn6⟩, hbq⟩
        have hb1 := hb0.trans (hbq.mono hb0.size)
        clear hS
        have hS := HSS.out _ hb1
        refine hK.out _ _ (Or.inr hS) ?_
        obtain ⟨A6, ca6, rfl, _, _⟩ := hs6.form
        have HS6 := Lib.hid hs6
        clear hK Kn hbq hs6 hn6
        try simp only [Act.put, List.setIfInBounds_toArray, List.set_cons_zero, List.set_cons_succ]
        refine wpAnyG_one 7 at7 (by kernel_rfl) (fun Kn hK => ?_)
        go_simp
        refine (HSM14.out _ _ hb1 HS6.out).mono ?_
        rintro e w13 ⟨rfl, hbq⟩
        have hb2 := hb1.trans (hbq.mono hb1.size)
        clear hS
        have hS := HSS.out _ hb2
        refine hK.out _ _ (Or.inr hS) ?_
        clear hK Kn hbq hb1
        try simp only [Act.put, List.setIfInBounds_toArray, List.set_cons_zero, List.set_cons_succ]
        refine wpAnyG_pure (i := 8) (v := ?vi28) at8 (by kernel_rfl) (fun _ _ _ h => h) (Or.inl ⟨by rfl, ?hi28⟩) (Or.inr (by assumption)) ?ri28
        case hi28 => (intro w hSw; (try dsimp only at hSw); go_simp; try with_reducible rfl)
        case' ri28 => skip
        try simp only [Act.put, List.setIfInBounds_toArray, List.set_cons_zero, List.set_cons_succ]
        refine wpAnyG_pure (i := 9) (v := ?vi29) at9 (by kernel_rfl) (fun _ _ _ h => h) (Or.inl ⟨by rfl, ?hi29⟩) (Or.inr (by assumption)) ?ri29
        case hi29 => (intro w hSw; (try dsimp only at hSw); go_simp; try with_reducible rfl)
        case' ri29 => skip
        try simp only [Act.put, List.setIfInBounds_toArray, List.set_cons_zero, List.set_cons_succ]
        refine wpAnyG_pure (i := 10) (v := ?vi210) at10 (by kernel_rfl) (fun _ _ _ h => h) (Or.inl ⟨by rfl, ?hi210⟩) (Or.inr (by assumption)) ?ri210
        case hi210 => (intro w hSw; (try dsimp only at hSw); go_simp; try with_reducible rfl)
        case' ri210 => skip
        try simp only [Act.put, List.setIfInBounds_toArray, List.set_cons_zero, List.set_cons_succ]
        refine wpAnyG_take (ws := [0,1,2,3,4,5,6,7,8,9,10,11,12,13,14,15,16]) (i := 11) (v := ?vi211) at11 (by kernel_rfl) (fun _ _ _ h => h) (Or.inl ⟨by rfl, ?hi211⟩) (by assumption) ?ri211
        case hi211 => (intro w hSw; (try dsimp only at hSw); go_simp; try with_reducible rfl)
        case' ri211 => skip
        try simp only [Act.put, List.setIfInBounds_toArray, List.set_cons_zero, List.set_cons_succ]
        refine wpAnyG_take (ws := [0,1,2,3,4,5,6,7,8,9,10,11,12,13,14,15,16]) (i := 13) (v := ?vi213) at13 (by kernel_rfl) (fun _ _ _ h => h) (Or.inl ⟨by rfl, ?hi213⟩) (by assumption) ?ri213
        case hi213 => (intro w hSw; (try dsimp only at hSw); go_simp; try with_reducible rfl)
        case' ri213 => skip
        try simp only [Act.put, List.setIfInBounds_toArray, List.set_cons_zero, List.set_cons_succ]
        refine wpAnyG_one 12 at12 (by kernel_rfl) (fun Kn hK => ?_)
        go_simp
        refine (HAS1.out _ hb2).mono ?_
        rintro e w14 ⟨rfl, hbq⟩
        have hb3 := hb2.trans (hbq.mono hb2.size)
        clear hS
        have hS := HSS.out _ hb3
        refine hK.out _ _ (Or.inr hS) ?_
        clear hK Kn hbq hb2
        try simp only [Act.put, List.setIfInBounds_toArray, List.set_cons_zero, List.set_cons_succ]
        refine wpAnyG_one 14 at14 (by kernel_rfl) (fun Kn hK => ?_)
        go_simp
        refine (HAS2.out _ hb3).mono ?_
        rintro e w15 ⟨rfl, hbq⟩
        have hb4 := hb3.trans (hbq.mono hb3.size)
        clear hS
        have hS := HSS.out _ hb4
        refine hK.out _ _ (Or.inr hS) ?_
        clear hK Kn hbq hb3
        try simp only [Act.put, List.setIfInBounds_toArray, List.set_cons_zero, List.set_cons_succ]
        refine wpAnyG_one 15 at15 (by kernel_rfl) (fun Kn hK => ?_)
        go_simp
        refine (HSAM.out _ hb4).mono ?_
        rintro e w16 ⟨rfl, hbq⟩
        have hb5 := hb4.trans (hbq.mono hb4.size)
        clear hS
        have hS := HSS.out _ hb5
        refine hK.out _ _ (Or.inr hS) ?_
        clear hK Kn hbq hb4
        try simp only [Act.put, List.setIfInBounds_toArray, List.set_cons_zero, List.set_cons_succ]
        refine wpAnyG_pure (i := 16) (v := ?vi416) at16 (by kernel_rfl) (fun _ _ _ h => h) (Or.inl ⟨by rfl, ?hi416⟩) (Or.inr (by assumption)) ?ri416
        case hi416 => (intro w hSw; (try dsimp only at hSw); go_simp; try with_reducible rfl)
        case' ri416 => skip
        try simp only [Act.put, List.setIfInBounds_toArray, List.set_cons_zero, List.set_cons_succ]
        refine wpAnyG_one 17 at17 (by kernel_rfl) (fun Kn hK => ?_)
        go_simp
        refine hK.out _ _ (Or.inl (by kernel_rfl)) ?_
        have HST : Hid (GrSt w w16 seed U ⟨pu, du, bu, mu⟩ VB (.slice D9 S.length cd9) S) := Lib.hid ⟨HOK.out, HNM.out, HSD.out, M11.out.below hb5, HSE.out⟩
        clear hK Kn hS hb5
        refine wpAnyG_done (by kernel_rfl) ?_
        try simp only [Act.put, List.setIfInBounds_toArray, List.set_cons_zero, List.set_cons_succ]
        go_wp2_with fail
        go_roundw
        case rel => exact ⟨k + 1, U, S, by omega, by go_num, by omega, by omega, fun j => Nat.le_succ_of_le (HVK.out j), HST⟩
        case measure => simp [intOf]; omega
    · obtain rfl : k = n := by omega
      obtain ⟨N, hN⟩ : ∃ N, S.length = N := ⟨_, rfl⟩
      have HNN := Lib.hid hN
      have HST := Lib.hid (strs_own HG.out.m.own)
      have HSE := Lib.hid HG.out.sec
      have HBW := Lib.hid HG.out.m.one.1
      rw [hN] at hsl ⊢
      clear hN HG
      go_wp2_with fail
      go_loopw [20] (fun i wz => ∃ a : Nat, a ≤ N ∧ i = .int .i64 a ∧ Hid (Below wr.heap.size wr wz)) (fun i _ => N - (intOf i).toNat)
      case atStart => exact ⟨0, Nat.zero_le _, rfl, Lib.hid (Below.refl _ _)⟩
      case round =>
        obtain ⟨a, ha, rfl, HBa⟩ := hrel
        by_cases hla : a < N
        · go_wp2_with fail
          go_loopw [21] (fun i wz => ∃ b : Nat, b ≤ a ∧ i = .int .i64 b ∧ Hid (Below wr.heap.size wr wz)) (fun i _ => a - (intOf i).toNat)
          case atStart => exact ⟨0, Nat.zero_le _, rfl, Lib.hid (Below.refl _ _)⟩
          case round =>
            obtain ⟨b, hb, rfl, HBb⟩ := hrel
            have hbc := HBa.out.trans (HBb.out.mono HBa.out.size)
            have HBC := Lib.hid hbc
            by_cases hlb : b < a
            · obtain ⟨s, hs⟩ : ∃ s, S[a]? = some s := ⟨_, List.getElem?_eq_getElem (by rw [HNN.out]; exact hla)⟩
              obtain ⟨t, ht⟩ : ∃ t, S[b]? = some t := ⟨_, List.getElem?_eq_getElem (by rw [HNN.out]; omega)⟩
              have hne := HSE.out.differ (by omega) hs ht hlb
              obtain ⟨g, off, c1, hv1, _, _, hc1⟩ := (HST.out.below hbc).cell hs
              cases hv1
              obtain ⟨g2, off2, c2, hv2, _, _, hc2⟩ := (HST.out.below hbc).cell ht
              cases hv2
              have e1 : (s.toList == t.toList) = false := by rw [beq_eq_false_iff_ne]; exact fun e => hne (blist_inj e)
              have hbn : (b : Int) < (N : Int) := by omega
              clear hs ht hne hbc
              go_wp2_with fail
              refine wp_region_G (fun w' => w'.cell? ⟨g, off + a, none⟩ = some (.string s) ∧ w'.cell? ⟨g, off + b, none⟩ = some (.string t)) [8] (by kernel_rfl) ?_
              have hS : (fun w' : World => w'.cell? ⟨g, off + a, none⟩ = some (.string s) ∧ w'.cell? ⟨g, off + b, none⟩ = some (.string t)) wr.drew := ⟨hc1, hc2⟩
              have HB2 := Lib.hid HBb.out.drew
              refine wpAnyG_pure (i := 0) (v := ?va0) at0 (by kernel_rfl) (fun _ _ _ h => h) (Or.inl ⟨by rfl, ?ha0⟩) (Or.inr (by assumption)) ?ra0
              case ha0 => (intro w hSw; (try dsimp only at hSw); go_simp; try with_reducible rfl)
              case' ra0 => skip
              try simp only [Act.put, List.setIfInBounds_toArray, List.set_cons_zero, List.set_cons_succ]
              refine wpAnyG_pure (i := 1) (v := ?va1) at1 (by kernel_rfl) (fun _ _ _ h => h) (Or.inl ⟨by rfl, ?ha1⟩) (Or.inr (by assumption)) ?ra1
              case ha1 => (intro w hSw; (try dsimp only at hSw); go_simp; try with_reducible rfl)
              case' ra1 => skip
              try simp only [Act.put, List.setIfInBounds_toArray, List.set_cons_zero, List.set_cons_succ]
              refine wpAnyG_pure (i := 2) (v := ?va2) at2 (by kernel_rfl) (fun _ _ _ h => h) (Or.inl ⟨by rfl, ?ha2⟩) (Or.inr (by assumption)) ?ra2
              case ha2 => (intro w hSw; (try dsimp only at hSw); go_simp; try with_reducible rfl)
              case' ra2 => skip
              try simp only [Act.put, List.setIfInBounds_toArray, List.set_cons_zero, List.set_cons_succ]
              refine wpAnyG_take (ws := [0,1,2,3,4,5,6,7]) (i := 3) (v := ?va3) at3 (by kernel_rfl) (fun _ _ _ h => h) (Or.inl ⟨by rfl, ?ha3⟩) (by assumption) ?ra3
              case ha3 => (intro w hSw; (try dsimp only at hSw); go_simp; try with_reducible rfl)
              case' ra3 => skip
              try simp only [Act.put, List.setIfInBounds_toArray, List.set_cons_zero, List.set_cons_succ]
              refine wpAnyG_pure (i := 4) (v := ?va4) at4 (by kernel_rfl) (fun _ _ _ h => h) (Or.inl ⟨by rfl, ?ha4⟩) (Or.inr (by assumption)) ?ra4
              case ha4 => (intro w hSw; (try dsimp only at hSw); go_simp; try with_reducible rfl)
              case' ra4 => skip
              try simp only [Act.put, List.setIfInBounds_toArray, List.set_cons_zero, List.set_cons_succ]
              refine wpAnyG_pure (i := 5) (v := ?va5) at5 (by kernel_rfl) (fun _ _ _ h => h) (Or.inl ⟨by rfl, ?ha5⟩) (Or.inr (by assumption)) ?ra5
              case ha5 => (intro w hSw; (try dsimp only at hSw); go_simp; try with_reducible rfl)
              case' ra5 => skip
              try simp only [Act.put, List.setIfInBounds_toArray, List.set_cons_zero, List.set_cons_succ]
              refine wpAnyG_pure (i := 6) (v := ?va6) at6 (by kernel_rfl) (fun _ _ _ h => h) (Or.inl ⟨by rfl, ?ha6⟩) (Or.inr (by assumption)) ?ra6
              case ha6 => (intro w hSw; (try dsimp only at hSw); go_simp; try with_reducible rfl)
              case' ra6 => skip
              try simp only [Act.put, List.setIfInBounds_toArray, List.set_cons_zero, List.set_cons_succ]
              refine wpAnyG_take (ws := [0,1,2,3,4,5,6,7]) (i := 7) (v := ?va7) at7 (by kernel_rfl) (fun _ _ _ h => h) (Or.inl ⟨by rfl, ?ha7⟩) (by assumption) ?ra7
              case ha7 => (intro w hSw; (try dsimp only at hSw); go_simp; try with_reducible rfl)
              case' ra7 => skip
              try simp only [Act.put, List.setIfInBounds_toArray, List.set_cons_zero, List.set_cons_succ]
              refine wpAnyG_one 8 at8 (by kernel_rfl) (fun Kn hK => ?_)
              go_simp
              refine hK.out _ _ (Or.inl (by kernel_rfl)) ?_
              clear hK Kn hS hc1 hc2
              refine wpAnyG_done (by kernel_rfl) ?_
              try simp only [Act.put, List.setIfInBounds_toArray, List.set_cons_zero, List.set_cons_succ]
              go_wp2_with fail
              go_roundw
              case rel => exact ⟨b + 1, by omega, by go_num, HB2⟩
              case measure => simp [intOf]; omega
            · obtain rfl : b = a := by omega
              clear hbc
              go_wp2_with fail
              go_roundw
              case rel => exact ⟨b + 1, by omega, by go_num, HBC⟩
              case measure => simp [intOf]; omega
        · obtain rfl : a = N := by omega
          go_wp2_with fail
          go_ret
          exact ⟨rfl, HBW.out.trans (HBa.out.mono HBW.out.size)⟩
end Go.Proofs.YtckblcfkajpofaaGreatDoor
