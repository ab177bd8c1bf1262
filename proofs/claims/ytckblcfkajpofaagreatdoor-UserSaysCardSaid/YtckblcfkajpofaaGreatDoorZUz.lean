/- law 14: UserSays. (Printed by tools/gus.py.) -/
import Derived.Test.YtckblcfkajpofaaGreatDoorZU2
import Derived.Test.YtckblcfkajpofaaGreatDoorZU3
namespace Go.Proofs.YtckblcfkajpofaaGreatDoor
open Go.RowKit Go.Sort
set_option linter.unusedVariables false
set_option linter.unusedSimpArgs false

theorem One.metaOf {w0 w : World} {U : Us} {x : H4} {X : Nat → Prop} (h : One w0 w U x X) (hok : U.ok) (f : ByteArray) (vk : Value) (kn : Knowns) (pk : ByteArray → ByteArray) (hkn : rowsOf 2 twoV w vk kn) (hks : ∀ x ∈ kn, x.2.size ≤ 9223372036854775807) (hbld : ∀ o, U.own f = some o → Bld U.secret o.r o.root o.sg kn pk ∧ o.ver < 18446744073709551616) (hT : Tabs w) :
    Calls Tryz.prog 93 #[.pointer (some ⟨x.p, 0, none⟩), .string f, vk] w fun e w' => MetaRet w U.secret (U.own f) pk e w' ∧ One w0 w' U x X := by
  have h' := h
  obtain ⟨h1, ⟨F, rows, h2, h3⟩, h4⟩ := h
  exact (umeta_calls h2 hok f vk kn pk hkn hks hbld hT).mono fun e w' hm => ⟨hm, h'.below hm.1⟩
theorem One.pubOf {w0 w : World} {U : Us} {x : H4} {X : Nat → Prop} (h : One w0 w U x X) (hs : U.secret.size ≤ 4000) :
    Calls Tryz.prog 26 #[.pointer (some ⟨x.p, 0, none⟩)] w fun e w' => e = .returned (.string (pubT U.secret)) ∧ Below w.heap.size w w' := by
  obtain ⟨h1, ⟨F, rows, h2, h3⟩, h4⟩ := h
  exact public_calls h2 hs
theorem pubT_is {s : ByteArray} (h : isT 4 100 (toL s)) : toL (pubT s) = 117 :: toL s := by
  unfold pubT
  rw [ofOne_is h rfl (by omega) (by omega), toL_mkB]; rfl
theorem who_not_anna {k : Nat} (h1 : 1 ≤ k) (h8 : k < 8) : whoB k ≠ annaB := by
  have h : ∀ j : Nat, j < 8 → whoB j = whoList.getD j ByteArray.empty := fun j hj => by
    have hp : pickZ (j : Int) 8 = j := by unfold pickZ; rw [if_neg (by omega)]; omega
    unfold whoB
    rw [hp, Int.toNat_natCast]
  rw [h k h8]
  intro e
  have e2 : (whoList.getD k ByteArray.empty).data.toList = annaB.data.toList := by rw [e]
  have hk : k = 1 ∨ k = 2 ∨ k = 3 ∨ k = 4 ∨ k = 5 ∨ k = 6 ∨ k = 7 := by omega
  rcases hk with rfl | rfl | rfl | rfl | rfl | rfl | rfl <;> exact absurd e2 (by decide)
theorem can_others {r : Rt} {u : ByteArray} (hr : r.right = true) (hu : u ≠ r.owner) : r.can u false = memB u (others r) := by
  unfold Rt.can
  rw [hr, decide_eq_false hu, Bool.true_and, Bool.false_or, Bool.not_false, Bool.true_and]
  rw [Bool.eq_iff_iff, Bool.or_eq_true, memB_iff, memB_iff, memB_iff, others_mem, List.mem_append]
  exact Or.comm
set_option maxRecDepth 100000 in
set_option maxHeartbeats 8000000 in
theorem userSays_calls (w : World) (seed : Nat) (v : Value) (l : List ActU) (at_ : Int) (hd : seed < 18446744073709551616) (hv : rowsOf 3 actRow w v l) (hw : ∀ a ∈ l, a.wf) (hq1 : -9223372036854775808 ≤ at_) (hq2 : at_ ≤ 9223372036854775807) (hT : Tabs w) :
    Calls Tryz.prog 16 #[.int .u64 seed, v, .int .i64 at_] w fun e w' => e = .returned (.bool true) ∧ Below w.heap.size w w' := by
  have HS1 := Lib.hid (shown14_calls hT)
  have HN := Lib.hid (fun W (hb : Below w.heap.size w W) => unew_calls' W annaB seed (by decide) hd (hT.below hb) name_anna)
  have hok0 := unew_ok name_anna hd
  have hut0 := UsT.new seed
  have hs0 : isT 4 100 (toL (unew annaB seed).secret) := secT_is (by decide) (mixN_lt _)
  have HFL := Lib.hid (fun W => file_calls at_ W hq1 hq2)
  have HT := Lib.hid hT
  have HV := Lib.hid hv
  have HW := Lib.hid hw
  obtain ⟨A, c, rfl, hlc, hlm, hA⟩ := id hv
  have HA := Lib.hid hA
  obtain ⟨U0, hU0⟩ : ∃ U0, unew annaB seed = U0 := ⟨_, rfl⟩
  have hdr0 : U0.drew = 1 := by rw [← hU0]; rfl
  rw [hU0] at HN hok0 hut0 hs0
  obtain ⟨sec, hsec⟩ : ∃ s, U0.secret = s := ⟨_, rfl⟩
  rw [hsec] at hs0
  have HSEC := Lib.hid hs0
  have HINI := Lib.hid (And.intro hok0 (And.intro hut0 (And.intro hsec hdr0)))
  obtain ⟨n, hn⟩ : ∃ n, l.length = n := ⟨_, rfl⟩
  have HLEN := Lib.hid hn
  rw [hn] at hlc hlm HV ⊢
  clear hv hw hA hT hok0 hut0 hs0 hU0 hn hsec hdr0 hq1 hq2
  go_enter Tryz.func16, Tryz.ntmps16
  go_wp2_with fail
  refine HS1.out.mono ?_
  rintro e w1 ⟨rfl, hb⟩
  have B1 := Lib.hid hb
  clear hb
  go_wp2_with fail
  refine (HN.out _ B1.out).mono ?_
  rintro e w2 ⟨hb, pu, du, bu, mu, rfl, hu, hun⟩
  have B2 := Lib.hid (B1.out.trans (hb.mono B1.out.size))
  have HST : Hid (One w w2 U0 ⟨pu, du, bu, mu⟩ (fun _ => False)) := Lib.hid ⟨B2.out, ⟨_, _, hu, fun i hi => ⟨Nat.le_trans B1.out.size (hun i hi), fun e => e⟩⟩, fun i hi => hi.elim⟩
  clear hb hu hun
  by_cases hbig : 40 < n
  · go_wp2_with fail
    go_ret
    exact ⟨rfl, B2.out⟩
  go_wp2_with fail
  go_loopw [10] (fun i wr => ∃ (k : Nat) (U : Us), k ≤ n ∧ i = .int .i64 k ∧ Hid (U.drew ≤ 1 + 2 * k ∧ U.ok ∧ UsT U ∧ U.secret = sec ∧ One w wr U ⟨pu, du, bu, mu⟩ (fun _ => False))) (fun i _ => n - (intOf i).toNat)
  case atStart => exact ⟨0, U0, Nat.zero_le _, rfl, Lib.hid ⟨by have := HINI.out.2.2.2; omega, HINI.out.1, HINI.out.2.1, HINI.out.2.2.1, HST.out⟩⟩
  case round =>
    obtain ⟨k, U, hk, rfl, HG⟩ := hrel
    by_cases hlt : k < n
    · obtain ⟨x, hx⟩ : ∃ x, l[k]? = some x := ⟨_, List.getElem?_eq_getElem (by rw [HLEN.out]; exact hlt)⟩
      obtain ⟨b, off, hAe, _⟩ := HA.out (by rw [HLEN.out]; omega)
      obtain ⟨c0, c1, c2⟩ := act14_at HV.out HG.out.2.2.2.2.1 hx b off hAe
      have hxw := HW.out x (List.mem_of_getElem? hx)
      have hds := HG.out.2.2.2.2.does HG.out.2.1 HT.out (by have := HG.out.1; omega) x hxw
      have HG2 : Hid ((U.act x).1.drew ≤ 1 + 2 * (k + 1) ∧ (U.act x).1.ok ∧ UsT (U.act x).1 ∧ (U.act x).1.secret = sec) := Lib.hid ⟨by have := (Us.act_drew U x).1; have := HG.out.1; omega, Us.act_ok HG.out.2.1 x, HG.out.2.2.1.act x, (Us.act_same U x).2.trans HG.out.2.2.2.1⟩
      subst hAe
      obtain ⟨o1, o2, o3⟩ := x
      dsimp only [actA] at hds
      dsimp only at c0 c1 c2
      obtain ⟨R, hR⟩ : ∃ R, U.act ⟨o1, o2, o3⟩ = R := ⟨_, rfl⟩
      rw [hR] at hds HG2
      have HDS := Lib.hid hds
      clear hx hxw hds hR
      go_wp2_with fail
      refine HDS.out.mono ?_
      rintro e w5 ⟨rfl, ho5, hk5⟩
      have HG3 : Hid (R.1.drew ≤ 1 + 2 * (k + 1) ∧ R.1.ok ∧ UsT R.1 ∧ R.1.secret = sec ∧ One w w5 R.1 ⟨pu, du, bu, mu⟩ (fun _ => False)) := Lib.hid ⟨HG2.out.1, HG2.out.2.1, HG2.out.2.2.1, HG2.out.2.2.2, ho5⟩
      clear ho5 hk5 c0 c1 c2
      go_wp2_with fail
      go_roundw
      case rel => exact ⟨k + 1, R.1, by omega, by go_num, HG3⟩
      case measure => simp [intOf]; omega
    · obtain rfl : k = n := by omega
      have HON := Lib.hid HG.out.2.2.2.2
      have HUK := Lib.hid HG.out.2.1
      have HUT := Lib.hid HG.out.2.2.1
      have HSC := Lib.hid HG.out.2.2.2.1
      clear HG hk hlt
      obtain ⟨f, hf⟩ : ∃ f, fileB at_ = f := ⟨_, rfl⟩
      rw [hf] at HFL
      clear hf
      go_wp2_with fail
      refine (HFL.out _).mono ?_
      rintro e w3 ⟨rfl, hb3⟩
      have HO3 := Lib.hid (HON.out.below hb3)
      clear hb3
      have how := HO3.out.owns HUK.out f
      have hsm := ownOut_small HUK.out f
      have hbld : ∀ o, U.own f = some o → Bld U.secret o.r o.root o.sg kn8 pkOf ∧ o.ver < 18446744073709551616 := fun o ho => ⟨HUT.out.bld HUK.out ho (by rw [HSC.out]; exact HSEC.out), (HUK.out.all f o (Us.own_get ho)).ver⟩
      have hks : ∀ x ∈ kn8, x.2.size ≤ 9223372036854775807 := fun x hx => by
        unfold kn8 at hx
        obtain ⟨u, hu, rfl⟩ := List.mem_map.1 hx
        have := whoList_size u hu
        obtain ⟨⟨_, _, _, h3⟩, _⟩ := pkOf_is (u := u) (by omega)
        rw [toL_len] at h3
        show (pkOf u).size ≤ _
        omega
      have HME := Lib.hid (fun W (h : One w W U ⟨pu, du, bu, mu⟩ (fun _ => False)) (vk : Value) (hk : rowsOf 2 twoV W vk kn8) => h.metaOf HUK.out f vk kn8 pkOf hk hks hbld (HT.out.below h.1))
      have HBLD := Lib.hid hbld
      clear hks hbld
      cases ho : U.own f with
      | none =>
        rw [ho] at how
        simp only [ho] at HME
        dsimp only [ownOut, agO, zeroOw] at how
        have HOW := Lib.hid how
        clear how hsm ho
        go_wp2_with fail
        refine HOW.out.mono ?_
        rintro e w4 ⟨⟨vr, vw, vs, rfl, hol⟩, hb4, ho4⟩
        obtain ⟨A1, ca1, rfl, _, _⟩ := hol.rt.rd.form
        obtain ⟨C1, cb1, rfl, _, _⟩ := hol.rt.wr.form
        obtain ⟨D1, cd1, rfl, _, _⟩ := hol.sg.form
        have HO4 := Lib.hid ho4
        clear hol hb4 ho4
        go_wp2_with (with_reducible refine wp_stop_store (o := ⟨none, .store _ (.tmp 12) _, _, _, _, _⟩) _ _ _ rfl ?_)
        unfold Stop
        refine wp_store_all rfl _ _ _ rfl rfl rfl _ _ ((get_alloc _ _ _).trans (if_pos rfl)) info_ow rfl (by simp [Value.oneCell']) ?_
        intro w5 h5 k5 s5
        obtain ⟨Zo, hZo⟩ : ∃ Z, w4.heap.size = Z := ⟨_, rfl⟩
        have hb45 : Below w4.heap.size w4 w5 := below_at ((Below.refl w4.heap.size w4).alloc (Nat.le_refl _) _) k5 (Nat.le_refl _)
        have HO5 := Lib.hid (HO4.out.below hb45)
        rw [hZo] at h5 ⊢
        have HR5 := Lib.hid h5
        clear h5 k5 s5 hb45 hZo
        go_wp2_with fail
        refine (known14_calls w5).mono ?_
        rintro e w6 ⟨v6, rfl, ho6, hb6⟩
        have HO6 := Lib.hid (HO5.out.below hb6)
        have HR6 := Lib.hid ((Keep.of_below hb6 : Keep (fun _ => False) w5 w6).at HR5.out fun e => e)
        have HK6 := Lib.hid (rows_own ho6)
        obtain ⟨A6, c6, rfl, _, _⟩ := own_slice ho6
        clear ho6 hb6
        go_wp2_with fail
        refine (HME.out _ HO6.out _ HK6.out).mono ?_
        rintro e w7 ⟨⟨hb7, he⟩, ho7⟩
        dsimp only at he
        subst he
        have HO7 := Lib.hid ho7
        have HR7 := Lib.hid ((Keep.of_below hb7 : Keep (fun _ => False) w6 w7).at HR6.out fun e => e)
        clear hb7 ho7
        dsimp only [zero9]
        go_wp2_with (with_reducible refine wp_stop_store (o := ⟨none, .store _ (.tmp 14) _, _, _, _, _⟩) _ _ _ rfl ?_)
        unfold Stop
        refine wp_store_all rfl _ _ _ rfl rfl rfl _ _ ((get_alloc _ _ _).trans (if_pos rfl)) info_mt rfl (by simp [Value.oneCell']) ?_
        intro w8 h8 k8' s8
        obtain ⟨Zm, hZm⟩ : ∃ Z, w7.heap.size = Z := ⟨_, rfl⟩
        have hb78 : Below w7.heap.size w7 w8 := below_at ((Below.refl w7.heap.size w7).alloc (Nat.le_refl _) _) k8' (Nat.le_refl _)
        have HO8 := Lib.hid (HO7.out.below hb78)
        rw [hZm] at h8 ⊢
        obtain ⟨e0, e1, e2, e3, e4, e5, e6, e7, e8⟩ := row9 ((Keep.of_below hb78 : Keep (fun _ => False) w7 w8).at HR7.out fun e => e)
        obtain ⟨k0, k1, k2, k3, k4, k5, k6, k7, k8⟩ := row9 h8
        clear h8 k8' s8 hb78 hZm
        go_wp2_with fail
        go_ret
        exact ⟨rfl, HO8.out.1⟩
      | some o =>
        rw [ho] at how
        simp only [ho] at HME
        rw [ho] at hsm
        dsimp only [ownOut, agO] at how hsm
        obtain ⟨hbl, hov⟩ := HBLD.out o ho
        have hko := HUK.out.all f o (Us.own_get ho)
        have hto := HUT.out.all f o (Us.own_get ho)
        have hgone : o.gone = false := (Us.own_some ho).2
        have hown : o.r.owner = annaB := hko.owner.trans HUT.out.name
        have hsc : isT 4 100 (toL U.secret) := by rw [HSC.out]; exact HSEC.out
        have hss : U.secret.size ≤ 4000 := HUK.out.secret
        have hgr := Rt.right_good hko.right
        have hlo := hgr.lo
        have hhi := hgr.hi
        have hsg := hko.sgn
        obtain ⟨_, hgood, hbody⟩ := hbl.ok o.ver hov
        have hsig := hbl.sig o.ver
        have hopn : ∀ k : Nat, 1 ≤ k → k < 8 → openM (builtM U.secret o.r o.ver o.root o.sg pkOf) (whoB k) (secOf (whoB k)) = if memB (whoB k) (others o.r) = true then (mkB (stateL o.root o.r.epoch), if o.r.can (whoB k) true = true then lastB o.r o.sg else ⟨#[]⟩, 0) else (⟨#[]⟩, ⟨#[]⟩, 6) := fun k _ _ =>
          hbl.opens o.ver hov (whoB k) (secOf (whoB k)) (secOf_is (by have := whoB_size k; omega)) (fun _ => by unfold pkOf; exact toL_mkB _) fun s hs => (hto.sg s hs).2
        have hcan : ∀ k : Nat, 1 ≤ k → k < 8 → o.r.can (whoB k) false = memB (whoB k) (others o.r) := fun k h1 h8 => can_others hko.right (by rw [hown]; exact who_not_anna h1 h8)
        have hlast : o.sg[o.r.epoch.toNat]? = some (lastB o.r o.sg) := by
          unfold lastB
          rw [List.getD_eq_getElem?_getD, List.getElem?_eq_getElem (by omega)]; rfl
        obtain ⟨BM, hBM⟩ : ∃ B, builtM U.secret o.r o.ver o.root o.sg pkOf = B := ⟨_, rfl⟩
        have hBr : BM.r = o.r := by rw [← hBM]; rfl
        have hBv : BM.ver = o.ver := by rw [← hBM]; rfl
        rw [hBM] at hgood hbody hsig
        simp only [hBM] at hopn
        have hchk : checkM BM (pubT U.secret) annaB f = 0 := by
          rw [checkM_ok hgood (by omega) hsc hsig _ (pubT_is hsc), if_neg]
          rintro (h | h)
          · exact h (by rw [hBr]; exact hown)
          · exact h (by rw [hBr]; exact hko.file)
        have hwf := hgood.wf (by rw [hBv]; exact hov)
        have hrm := good_rightM hgood
        have hn5b : o.r.rd.length ≤ 5 ∧ o.r.wr.length ≤ 5 := by have := (Rt.right_iff.1 hko.right).1.2.2.2.2.1; omega
        obtain ⟨n5, hn5⟩ : ∃ n, o.r.rd.length = n := ⟨_, rfl⟩
        obtain ⟨n6, hn6⟩ : ∃ n, o.r.wr.length = n := ⟨_, rfl⟩
        obtain ⟨ns, hns⟩ : ∃ n, o.sg.length = n := ⟨_, rfl⟩
        obtain ⟨nv, hnv⟩ : ∃ n, BM.vf.length = n := ⟨_, rfl⟩
        obtain ⟨nb, hnb⟩ : ∃ n, BM.bl.length = n := ⟨_, rfl⟩
        obtain ⟨SG, hSG⟩ : ∃ n, BM.sig = n := ⟨_, rfl⟩
        have HLN := Lib.hid (And.intro hn5 (And.intro hn6 (And.intro hns (And.intro hnv (And.intro hnb (And.intro hBr (And.intro hBv hSG)))))))
        have HOW := Lib.hid how
        have HBM := Lib.hid hBM
        have HOPN := Lib.hid hopn
        have HCAN := Lib.hid hcan
        have HCHK := Lib.hid hchk
        have HWF := Lib.hid hwf
        have HRM := Lib.hid hrm
        have HKR := Lib.hid hko.right
        have HRT := Lib.hid hto.root
        have HN5 := Lib.hid hn5b
        have HEPB : Hid (0 ≤ o.r.epoch ∧ o.r.epoch ≤ 7 ∧ (ns : Int) = o.r.epoch + 1) := Lib.hid (by omega)
        have HSS0 := Lib.hid hss
        have HSC4 := Lib.hid hsc
        have HLAST := Lib.hid hlast
        have HGO := Lib.hid hgone
        clear how hsm ho hbl hov hko hto hgone hown hsc hss hgr hlo hhi hsg hgood hbody hsig hopn hcan hlast hBM hBr hBv hchk hwf hrm hn5b hn5 hn6 hns hnv hnb hSG HBLD
        go_wp2_with fail
        refine HOW.out.mono ?_
        rintro e w4 ⟨⟨vr, vw, vs, rfl, hol⟩, hb4, ho4⟩
        obtain ⟨A1, ca1, rfl, _, _⟩ := hol.rt.rd.form
        obtain ⟨C1, cb1, rfl, _, _⟩ := hol.rt.wr.form
        obtain ⟨D1, cd1, rfl, _, _⟩ := hol.sg.form
        rw [HLN.out.1, HLN.out.2.1, HLN.out.2.2.1] at hol
        rw [HLN.out.1, HLN.out.2.1, HLN.out.2.2.1, HGO.out]
        have HO4 := Lib.hid ho4
        have HL4 := Lib.hid hol
        clear hol hb4 ho4
        go_wp2_with (with_reducible refine wp_stop_store (o := ⟨none, .store _ (.tmp 12) _, _, _, _, _⟩) _ _ _ rfl ?_)
        unfold Stop
        refine wp_store_all rfl _ _ _ rfl rfl rfl _ _ ((get_alloc _ _ _).trans (if_pos rfl)) info_ow rfl (by simp [Value.oneCell']) ?_
        intro w5 h5 k5 s5
        obtain ⟨Zo, hZo⟩ : ∃ Z, w4.heap.size = Z := ⟨_, rfl⟩
        have hb45 : Below w4.heap.size w4 w5 := below_at ((Below.refl w4.heap.size w4).alloc (Nat.le_refl _) _) k5 (Nat.le_refl _)
        have HO5 := Lib.hid (HO4.out.below hb45)
        have HL5 := Lib.hid (HL4.out.below hb45)
        rw [hZo] at h5 ⊢
        have HR5 := Lib.hid h5
        clear h5 k5 s5 hb45 hZo
        go_wp2_with fail
        refine (known14_calls w5).mono ?_
        rintro e w6 ⟨v6, rfl, ho6, hb6⟩
        have HO6 := Lib.hid (HO5.out.below hb6)
        have HL6 := Lib.hid (HL5.out.below hb6)
        have HR6 := Lib.hid ((Keep.of_below hb6 : Keep (fun _ => False) w5 w6).at HR5.out fun e => e)
        have HK6 := Lib.hid (rows_own ho6)
        obtain ⟨A6, c6, rfl, _, _⟩ := own_slice ho6
        clear ho6 hb6
        go_wp2_with fail
        refine (HME.out _ HO6.out _ HK6.out).mono ?_
        rintro e w7 ⟨⟨hb7, he⟩, ho7⟩
        dsimp only at he
        rw [HBM.out] at he
        obtain ⟨vr2, vw2, vv2, vb2, rfl, hml⟩ := he
        obtain ⟨P5, d5, rfl, _, _⟩ := hml.rt.rd.form
        obtain ⟨P6, d6, rfl, _, _⟩ := hml.rt.wr.form
        obtain ⟨P7, d7, rfl, _, _⟩ := hml.vf.form
        obtain ⟨P8, d8, rfl, _, _⟩ := hml.bl.form
        have HO7 := Lib.hid ho7
        have HL7 := Lib.hid (HL6.out.below hb7)
        have HR7 := Lib.hid ((Keep.of_below hb7 : Keep (fun _ => False) w6 w7).at HR6.out fun e => e)
        rw [HLN.out.2.2.2.2.2.1, HLN.out.1, HLN.out.2.1, HLN.out.2.2.2.1, HLN.out.2.2.2.2.1] at hml
        dsimp only [agM]
        rw [HLN.out.2.2.2.2.2.1, HLN.out.1, HLN.out.2.1, HLN.out.2.2.2.1, HLN.out.2.2.2.2.1, HLN.out.2.2.2.2.2.2.1, HLN.out.2.2.2.2.2.2.2]
        have HM7 := Lib.hid hml
        clear hb7 ho7 hml
        go_wp2_with (with_reducible refine wp_stop_store (o := ⟨none, .store _ (.tmp 14) _, _, _, _, _⟩) _ _ _ rfl ?_)
        unfold Stop
        refine wp_store_all rfl _ _ _ rfl rfl rfl _ _ ((get_alloc _ _ _).trans (if_pos rfl)) info_mt rfl (by simp [Value.oneCell']) ?_
        intro w8 h8 k8' s8
        obtain ⟨Zm, hZm⟩ : ∃ Z, w7.heap.size = Z := ⟨_, rfl⟩
        have hb78 : Below w7.heap.size w7 w8 := below_at ((Below.refl w7.heap.size w7).alloc (Nat.le_refl _) _) k8' (Nat.le_refl _)
        have HO8 := Lib.hid (HO7.out.below hb78)
        have HL8 := Lib.hid (HL7.out.below hb78)
        have HM8 := Lib.hid (HM7.out.below hb78)
        rw [hZm] at h8 ⊢
        have HR8 := Lib.hid ((Keep.of_below hb78 : Keep (fun _ => False) w7 w8).at HR7.out fun e => e)
        have HRm := Lib.hid h8
        have HSS : Hid (∀ W2, Below w8.heap.size w8 W2 → ((W2.cell? ⟨Zm, 0, none⟩ = some (.string o.r.owner) ∧ W2.cell? ⟨Zm, 1, none⟩ = some (.string o.r.file) ∧ W2.cell? ⟨Zm, 2, none⟩ = some (.int .i64 o.r.epoch) ∧ W2.cell? ⟨Zm, 3, none⟩ = some (.slice P5 n5 d5) ∧ W2.cell? ⟨Zm, 4, none⟩ = some (.slice P6 n6 d6) ∧ W2.cell? ⟨Zm, 5, none⟩ = some (.int .u64 o.ver) ∧ W2.cell? ⟨Zm, 6, none⟩ = some (.slice P7 nv d7) ∧ W2.cell? ⟨Zm, 7, none⟩ = some (.slice P8 nb d8) ∧ W2.cell? ⟨Zm, 8, none⟩ = some (.string SG)) ∧ (W2.cell? ⟨Zo, 0, none⟩ = some (.string o.r.owner) ∧ W2.cell? ⟨Zo, 1, none⟩ = some (.string o.r.file) ∧ W2.cell? ⟨Zo, 2, none⟩ = some (.int .i64 o.r.epoch) ∧ W2.cell? ⟨Zo, 3, none⟩ = some (.slice A1 n5 ca1) ∧ W2.cell? ⟨Zo, 4, none⟩ = some (.slice C1 n6 cb1) ∧ W2.cell? ⟨Zo, 5, none⟩ = some (.int .u64 o.ver) ∧ W2.cell? ⟨Zo, 6, none⟩ = some (.string o.root) ∧ W2.cell? ⟨Zo, 7, none⟩ = some (.slice D1 ns cd1) ∧ W2.cell? ⟨Zo, 8, none⟩ = some (.bool false)))) := Lib.hid (fun W2 hb => ⟨row9 ((Keep.of_below hb : Keep (fun _ => False) w8 W2).at HRm.out fun e => e), row9 ((Keep.of_below hb : Keep (fun _ => False) w8 W2).at HR8.out fun e => e)⟩)
        have hsm := fun W (hb : Below w8.heap.size w8 W) => same7_calls W o.r _ _ _ _ (by have := (HM8.out.below hb).rt; rw [HLN.out.2.2.2.2.2.1] at this; exact this) (HL8.out.below hb).rt (by have := HN5.out; omega) (by have := HN5.out; omega)
        have hpb := fun W (hb : Below w8.heap.size w8 W) => (HO8.out.below hb).pubOf HSS0.out
        have hck := fun W (hb : Below w8.heap.size w8 W) => check_calls W BM _ _ _ _ (pubT U.secret) annaB f (HM8.out.below hb) (HT.out.below (HO8.out.below hb).1) HWF.out (by have := pubT_size U.secret; omega)
        simp only [HCHK.out] at hck
        dsimp only [agM] at hck
        simp only [HLN.out.2.2.2.2.2.1, HLN.out.2.2.2.2.2.2.1, HLN.out.2.2.2.2.2.2.2] at hck
        obtain ⟨PUB, hPUB⟩ : ∃ P, pubT U.secret = P := ⟨_, rfl⟩
        simp only [hPUB] at hck hpb
        have HSM := Lib.hid hsm
        have HPB := Lib.hid hpb
        have HCK := Lib.hid hck
        have hvn : ((o.ver : Int) != (o.ver : Int)) = false := by simp
        have hwr1 : IntKind.i64.wrap (o.r.epoch + 1) = (ns : Int) := by
          have := HEPB.out
          rw [show (ns : Int) = o.r.epoch + 1 by omega]
          simp only [IntKind.wrap, IntKind.bits, IntKind.signed]
          first | omega | (simp; omega) | (split <;> omega)
        clear h8 k8' s8 hb78 hZm hsm hpb hck hPUB
        go_wp2_with fail
        refine wp_region_G (fun W2 => (W2.cell? ⟨Zm, 0, none⟩ = some (.string o.r.owner) ∧ W2.cell? ⟨Zm, 1, none⟩ = some (.string o.r.file) ∧ W2.cell? ⟨Zm, 2, none⟩ = some (.int .i64 o.r.epoch) ∧ W2.cell? ⟨Zm, 3, none⟩ = some (.slice P5 n5 d5) ∧ W2.cell? ⟨Zm, 4, none⟩ = some (.slice P6 n6 d6) ∧ W2.cell? ⟨Zm, 5, none⟩ = some (.int .u64 o.ver) ∧ W2.cell? ⟨Zm, 6, none⟩ = some (.slice P7 nv d7) ∧ W2.cell? ⟨Zm, 7, none⟩ = some (.slice P8 nb d8) ∧ W2.cell? ⟨Zm, 8, none⟩ = some (.string SG)) ∧ (W2.cell? ⟨Zo, 0, none⟩ = some (.string o.r.owner) ∧ W2.cell? ⟨Zo, 1, none⟩ = some (.string o.r.file) ∧ W2.cell? ⟨Zo, 2, none⟩ = some (.int .i64 o.r.epoch) ∧ W2.cell? ⟨Zo, 3, none⟩ = some (.slice A1 n5 ca1) ∧ W2.cell? ⟨Zo, 4, none⟩ = some (.slice C1 n6 cb1) ∧ W2.cell? ⟨Zo, 5, none⟩ = some (.int .u64 o.ver) ∧ W2.cell? ⟨Zo, 6, none⟩ = some (.string o.root) ∧ W2.cell? ⟨Zo, 7, none⟩ = some (.slice D1 ns cd1) ∧ W2.cell? ⟨Zo, 8, none⟩ = some (.bool false))) [38] (by kernel_rfl) ?_
        have hb0 : Below w8.heap.size w8 w8.drew := (Below.refl w8.heap.size w8).drew
        have hS := HSS.out _ hb0
        refine wpAnyG_pure (i := 0) (v := ?vsa0) at0 (by kernel_rfl) (fun _ _ _ h => h) (Or.inl ⟨by rfl, ?hsa0⟩) (Or.inr (by assumption)) ?rsa0
        case hsa0 => (intro w hSw; (try dsimp only at hSw); go_simp; try with_reducible rfl)
        case' rsa0 => skip
        try simp only [Act.put, List.setIfInBounds_toArray, List.set_cons_zero, List.set_cons_succ]
        refine wpAnyG_pure (i := 1) (v := ?vsa1) at1 (by kernel_rfl) (fun _ _ _ h => h) (Or.inl ⟨by rfl, ?hsa1⟩) (Or.inr (by assumption)) ?rsa1
        case hsa1 => (intro w hSw; (try dsimp only at hSw); go_simp; try with_reducible rfl)
        case' rsa1 => skip
        try simp only [Act.put, List.setIfInBounds_toArray, List.set_cons_zero, List.set_cons_succ]
        refine wpAnyG_pure (i := 2) (v := ?vsa2) at2 (by kernel_rfl) (fun _ _ _ h => h) (Or.inl ⟨by rfl, ?hsa2⟩) (Or.inr (by assumption)) ?rsa2
        case hsa2 => (intro w hSw; (try dsimp only at hSw); go_simp; try with_reducible rfl)
        case' rsa2 => skip
        try simp only [Act.put, List.setIfInBounds_toArray, List.set_cons_zero, List.set_cons_succ]
        refine wpAnyG_pure (i := 3) (v := ?vsa3) at3 (by kernel_rfl) (fun _ _ _ h => h) (Or.inl ⟨by rfl, ?hsa3⟩) (Or.inr (by assumption)) ?rsa3
        case hsa3 => (intro w hSw; (try dsimp only at hSw); go_simp; try with_reducible rfl)
        case' rsa3 => skip
        try simp only [Act.put, List.setIfInBounds_toArray, List.set_cons_zero, List.set_cons_succ]
        refine wpAnyG_take (ws := [4,7,8,9,16,17,24,25,34,35]) (i := 4) (v := ?vsa4) at4 (by kernel_rfl) (fun _ _ _ h => h) (Or.inl ⟨by rfl, ?hsa4⟩) (by assumption) ?rsa4
        case hsa4 => (intro w hSw; (try dsimp only at hSw); go_simp; try with_reducible rfl)
        case' rsa4 => skip
        try simp only [Act.put, List.setIfInBounds_toArray, List.set_cons_zero, List.set_cons_succ]
        refine wpAnyG_pure (i := 5) (v := ?vsb5) at5 (by kernel_rfl) (fun _ _ _ h => h) (Or.inl ⟨by rfl, ?hsb5⟩) (Or.inr (by assumption)) ?rsb5
        case hsb5 => (intro w hSw; (try dsimp only at hSw); go_simp; try with_reducible rfl)
        case' rsb5 => skip
        try simp only [Act.put, List.setIfInBounds_toArray, List.set_cons_zero, List.set_cons_succ]
        refine wpAnyG_take (ws := [6,7,8,9,16,17,24,25,34,35]) (i := 6) (v := ?vsb6) at6 (by kernel_rfl) (fun _ _ _ h => h) (Or.inl ⟨by rfl, ?hsb6⟩) (by assumption) ?rsb6
        case hsb6 => (intro w hSw; (try dsimp only at hSw); go_simp; try with_reducible rfl)
        case' rsb6 => skip
        try simp only [Act.put, List.setIfInBounds_toArray, List.set_cons_zero, List.set_cons_succ]
        refine wpAnyG_pure (i := 7) (v := ?vsc7) at7 (by kernel_rfl) (fun _ _ _ h => h) (Or.inl ⟨by rfl, ?hsc7⟩) (Or.inr (by assumption)) ?rsc7
        case hsc7 => (intro w hSw; (try dsimp only at hSw); go_simp; try with_reducible rfl)
        case' rsc7 => skip
        try simp only [Act.put, List.setIfInBounds_toArray, List.set_cons_zero, List.set_cons_succ]
        refine wpAnyG_pure (i := 8) (v := ?vsc8) at8 (by kernel_rfl) (fun _ _ _ h => h) (Or.inl ⟨by rfl, ?hsc8⟩) (Or.inr (by assumption)) ?rsc8
        case hsc8 => (intro w hSw; (try dsimp only at hSw); go_simp; try with_reducible rfl)
        case' rsc8 => skip
        try simp only [Act.put, List.setIfInBounds_toArray, List.set_cons_zero, List.set_cons_succ]
        refine wpAnyG_pure (i := 9) (v := ?vsc9) at9 (by kernel_rfl) (fun _ _ _ h => h) (Or.inl ⟨by rfl, ?hsc9⟩) (Or.inr (by assumption)) ?rsc9
        case hsc9 => (intro w hSw; (try dsimp only at hSw); go_simp; try with_reducible rfl)
        case' rsc9 => skip
        try simp only [Act.put, List.setIfInBounds_toArray, List.set_cons_zero, List.set_cons_succ]
        refine wpAnyG_pure (i := 10) (v := ?vsc10) at10 (by kernel_rfl) (fun _ _ _ h => h) (Or.inl ⟨by rfl, ?hsc10⟩) (Or.inr (by assumption)) ?rsc10
        case hsc10 => (intro w hSw; (try dsimp only at hSw); go_simp; try with_reducible rfl)
        case' rsc10 => skip
        try simp only [Act.put, List.setIfInBounds_toArray, List.set_cons_zero, List.set_cons_succ]
        refine wpAnyG_take (ws := [11,14,15,16,17,24,25,34,35]) (i := 11) (v := ?vsc11) at11 (by kernel_rfl) (fun _ _ _ h => h) (Or.inl ⟨by rfl, ?hsc11⟩) (by assumption) ?rsc11
        case hsc11 => (intro w hSw; (try dsimp only at hSw); go_simp; try with_reducible rfl)
        case' rsc11 => skip
        try simp only [Act.put, List.setIfInBounds_toArray, List.set_cons_zero, List.set_cons_succ]
        refine wpAnyG_pure (i := 12) (v := ?vsd12) at12 (by kernel_rfl) (fun _ _ _ h => h) (Or.inl ⟨by rfl, ?hsd12⟩) (Or.inr (by assumption)) ?rsd12
        case hsd12 => (intro w hSw; (try dsimp only at hSw); go_simp; try with_reducible rfl)
        case' rsd12 => skip
        try simp only [Act.put, List.setIfInBounds_toArray, List.set_cons_zero, List.set_cons_succ]
        refine wpAnyG_take (ws := [13,14,15,16,17,24,25,34,35]) (i := 13) (v := ?vsd13) at13 (by kernel_rfl) (fun _ _ _ h => h) (Or.inl ⟨by rfl, ?hsd13⟩) (by assumption) ?rsd13
        case hsd13 => (intro w hSw; (try dsimp only at hSw); go_simp; try with_reducible rfl)
        case' rsd13 => skip
        try simp only [Act.put, List.setIfInBounds_toArray, List.set_cons_zero, List.set_cons_succ]
        refine wpAnyG_one 14 at14 (by kernel_rfl) (fun Kn hK => ?_)
        go_simp
        refine (HSM.out _ hb0).mono ?_
        rintro e x1 ⟨rfl, hq⟩
        have hb1 := hb0.trans (hq.mono hb0.size)
        clear hS
        have hS := HSS.out _ hb1
        refine hK.out _ _ (Or.inr hS) ?_
        clear hK Kn hq
        try simp only [Act.put, List.setIfInBounds_toArray, List.set_cons_zero, List.set_cons_succ]
        refine wpAnyG_pure (i := 15) (v := ?vse15) at15 (by kernel_rfl) (fun _ _ _ h => h) (Or.inl ⟨by rfl, ?hse15⟩) (Or.inr (by assumption)) ?rse15
        case hse15 => (intro w hSw; (try dsimp only at hSw); go_simp; try with_reducible rfl)
        case' rse15 => skip
        try simp only [Act.put, List.setIfInBounds_toArray, List.set_cons_zero, List.set_cons_succ]
        refine wpAnyG_pure (i := 16) (v := ?vse16) at16 (by kernel_rfl) (fun _ _ _ h => h) (Or.inl ⟨by rfl, ?hse16⟩) (Or.inr (by assumption)) ?rse16
        case hse16 => (intro w hSw; (try dsimp only at hSw); go_simp; try with_reducible rfl)
        case' rse16 => skip
        try simp only [Act.put, List.setIfInBounds_toArray, List.set_cons_zero, List.set_cons_succ]
        refine wpAnyG_pure (i := 17) (v := ?vse17) at17 (by kernel_rfl) (fun _ _ _ h => h) (Or.inl ⟨by rfl, ?hse17⟩) (Or.inr (by assumption)) ?rse17
        case hse17 => (intro w hSw; (try dsimp only at hSw); go_simp; try with_reducible rfl)
        case' rse17 => skip
        try simp only [Act.put, List.setIfInBounds_toArray, List.set_cons_zero, List.set_cons_succ]
        refine wpAnyG_take (ws := [18,22,23,24,25,34,35]) (i := 18) (v := ?vse18) at18 (by kernel_rfl) (fun _ _ _ h => h) (Or.inl ⟨by rfl, ?hse18⟩) (by assumption) ?rse18
        case hse18 => (intro w hSw; (try dsimp only at hSw); go_simp; try with_reducible rfl)
        case' rse18 => skip
        try simp only [Act.put, List.setIfInBounds_toArray, List.set_cons_zero, List.set_cons_succ]
        refine wpAnyG_pure (i := 19) (v := ?vse19) at19 (by kernel_rfl) (fun _ _ _ h => h) (Or.inl ⟨by rfl, ?hse19⟩) (Or.inr (by assumption)) ?rse19
        case hse19 => (intro w hSw; (try dsimp only at hSw); go_simp; try with_reducible rfl)
        case' rse19 => skip
        try simp only [Act.put, List.setIfInBounds_toArray, List.set_cons_zero, List.set_cons_succ]
        refine wpAnyG_pure (i := 21) (v := ?vse21) at21 (by kernel_rfl) (fun _ _ _ h => h) (Or.inl ⟨by rfl, ?hse21⟩) (Or.inr (by assumption)) ?rse21
        case hse21 => (intro w hSw; (try dsimp only at hSw); go_simp; try with_reducible rfl)
        case' rse21 => skip
        try simp only [Act.put, List.setIfInBounds_toArray, List.set_cons_zero, List.set_cons_succ]
        refine wpAnyG_one 20 at20 (by kernel_rfl) (fun Kn hK => ?_)
        go_simp
        refine (HPB.out _ hb1).mono ?_
        rintro e x2 ⟨rfl, hq⟩
        have hb2 := hb1.trans (hq.mono hb1.size)
        clear hS
        have hS := HSS.out _ hb2
        refine hK.out _ _ (Or.inr hS) ?_
        clear hK Kn hq
        try simp only [Act.put, List.setIfInBounds_toArray, List.set_cons_zero, List.set_cons_succ]
        refine wpAnyG_one 22 at22 (by kernel_rfl) (fun Kn hK => ?_)
        go_simp
        refine (HCK.out _ hb2).mono ?_
        rintro e x3 ⟨rfl, hq⟩
        have hb3 := hb2.trans (hq.mono hb2.size)
        clear hS
        have hS := HSS.out _ hb3
        refine hK.out _ _ (Or.inr hS) ?_
        clear hK Kn hq
        try simp only [Act.put, List.setIfInBounds_toArray, List.set_cons_zero, List.set_cons_succ]
        refine wpAnyG_pure (i := 23) (v := ?vsf23) at23 (by kernel_rfl) (fun _ _ _ h => h) (Or.inl ⟨by rfl, ?hsf23⟩) (Or.inr (by assumption)) ?rsf23
        case hsf23 => (intro w hSw; (try dsimp only at hSw); go_simp; try with_reducible rfl)
        case' rsf23 => skip
        try simp only [Act.put, List.setIfInBounds_toArray, List.set_cons_zero, List.set_cons_succ]
        refine wpAnyG_pure (i := 24) (v := ?vsf24) at24 (by kernel_rfl) (fun _ _ _ h => h) (Or.inl ⟨by rfl, ?hsf24⟩) (Or.inr (by assumption)) ?rsf24
        case hsf24 => (intro w hSw; (try dsimp only at hSw); go_simp; try with_reducible rfl)
        case' rsf24 => skip
        try simp only [Act.put, List.setIfInBounds_toArray, List.set_cons_zero, List.set_cons_succ]
        refine wpAnyG_pure (i := 25) (v := ?vsf25) at25 (by kernel_rfl) (fun _ _ _ h => h) (Or.inl ⟨by rfl, ?hsf25⟩) (Or.inr (by assumption)) ?rsf25
        case hsf25 => (intro w hSw; (try dsimp only at hSw); go_simp; try with_reducible rfl)
        case' rsf25 => skip
        try simp only [Act.put, List.setIfInBounds_toArray, List.set_cons_zero, List.set_cons_succ]
        refine wpAnyG_pure (i := 26) (v := ?vsf26) at26 (by kernel_rfl) (fun _ _ _ h => h) (Or.inl ⟨by rfl, ?hsf26⟩) (Or.inr (by assumption)) ?rsf26
        case hsf26 => (intro w hSw; (try dsimp only at hSw); go_simp; try with_reducible rfl)
        case' rsf26 => skip
        try simp only [Act.put, List.setIfInBounds_toArray, List.set_cons_zero, List.set_cons_succ]
        refine wpAnyG_take (ws := [27,28,33,34,35]) (i := 27) (v := ?vsf27) at27 (by kernel_rfl) (fun _ _ _ h => h) (Or.inl ⟨by rfl, ?hsf27⟩) (by assumption) ?rsf27
        case hsf27 => (intro w hSw; (try dsimp only at hSw); go_simp; try with_reducible rfl)
        case' rsf27 => skip
        try simp only [Act.put, List.setIfInBounds_toArray, List.set_cons_zero, List.set_cons_succ]
        refine wpAnyG_pure (i := 28) (v := ?vsg28) at28 (by kernel_rfl) (fun _ _ _ h => h) (Or.inl ⟨by rfl, ?hsg28⟩) (Or.inr (by assumption)) ?rsg28
        case hsg28 => (intro w hSw; (try dsimp only at hSw); go_simp; try with_reducible rfl)
        case' rsg28 => skip
        try simp only [Act.put, List.setIfInBounds_toArray, List.set_cons_zero, List.set_cons_succ]
        refine wpAnyG_pure (i := 29) (v := ?vsg29) at29 (by kernel_rfl) (fun _ _ _ h => h) (Or.inl ⟨by rfl, ?hsg29⟩) (Or.inr (by assumption)) ?rsg29
        case hsg29 => (intro w hSw; (try dsimp only at hSw); go_simp; try with_reducible rfl)
        case' rsg29 => skip
        try simp only [Act.put, List.setIfInBounds_toArray, List.set_cons_zero, List.set_cons_succ]
        refine wpAnyG_pure (i := 30) (v := ?vsg30) at30 (by kernel_rfl) (fun _ _ _ h => h) (Or.inl ⟨by rfl, ?hsg30⟩) (Or.inr (by assumption)) ?rsg30
        case hsg30 => (intro w hSw; (try dsimp only at hSw); go_simp; try with_reducible rfl)
        case' rsg30 => skip
        try simp only [Act.put, List.setIfInBounds_toArray, List.set_cons_zero, List.set_cons_succ]
        refine wpAnyG_take (ws := [31,32,33,34,35]) (i := 31) (v := ?vsg31) at31 (by kernel_rfl) (fun _ _ _ h => h) (Or.inl ⟨by rfl, ?hsg31⟩) (by assumption) ?rsg31
        case hsg31 => (intro w hSw; (try dsimp only at hSw); go_simp; try with_reducible rfl)
        case' rsg31 => skip
        try simp only [Act.put, List.setIfInBounds_toArray, List.set_cons_zero, List.set_cons_succ]
        refine wpAnyG_pure (i := 32) (v := ?vsh32) at32 (by kernel_rfl) (fun _ _ _ h => h) (Or.inl ⟨by rfl, ?hsh32⟩) (Or.inr (by assumption)) ?rsh32
        case hsh32 => (intro w hSw; (try dsimp only at hSw); go_simp; try with_reducible rfl)
        case' rsh32 => skip
        try simp only [Act.put, List.setIfInBounds_toArray, List.set_cons_zero, List.set_cons_succ]
        refine wpAnyG_pure (i := 33) (v := ?vsh33) at33 (by kernel_rfl) (fun _ _ _ h => h) (Or.inl ⟨by rfl, ?hsh33⟩) (Or.inr (by assumption)) ?rsh33
        case hsh33 => (intro w hSw; (try dsimp only at hSw); go_simp; try with_reducible rfl)
        case' rsh33 => skip
        try simp only [Act.put, List.setIfInBounds_toArray, List.set_cons_zero, List.set_cons_succ]
        refine wpAnyG_pure (i := 34) (v := ?vsh34) at34 (by kernel_rfl) (fun _ _ _ h => h) (Or.inl ⟨by rfl, ?hsh34⟩) (Or.inr (by assumption)) ?rsh34
        case hsh34 => (intro w hSw; (try dsimp only at hSw); go_simp; try with_reducible rfl)
        case' rsh34 => skip
        try simp only [Act.put, List.setIfInBounds_toArray, List.set_cons_zero, List.set_cons_succ]
        refine wpAnyG_pure (i := 35) (v := ?vsh35) at35 (by kernel_rfl) (fun _ _ _ h => h) (Or.inl ⟨by rfl, ?hsh35⟩) (Or.inr (by assumption)) ?rsh35
        case hsh35 => (intro w hSw; (try dsimp only at hSw); go_simp; try with_reducible rfl)
        case' rsh35 => skip
        try simp only [Act.put, List.setIfInBounds_toArray, List.set_cons_zero, List.set_cons_succ]
        refine wpAnyG_pure (i := 36) (v := ?vsh36) at36 (by kernel_rfl) (fun _ _ _ h => h) (Or.inl ⟨by rfl, ?hsh36⟩) (Or.inr (by assumption)) ?rsh36
        case hsh36 => (intro w hSw; (try dsimp only at hSw); go_simp; try with_reducible rfl)
        case' rsh36 => skip
        try simp only [Act.put, List.setIfInBounds_toArray, List.set_cons_zero, List.set_cons_succ]
        refine wpAnyG_take (ws := [37]) (i := 37) (v := ?vsh37) at37 (by kernel_rfl) (fun _ _ _ h => h) (Or.inl ⟨by rfl, ?hsh37⟩) (by assumption) ?rsh37
        case hsh37 => (intro w hSw; (try dsimp only at hSw); go_simp; try with_reducible rfl)
        case' rsh37 => skip
        try simp only [Act.put, List.setIfInBounds_toArray, List.set_cons_zero, List.set_cons_succ]
        refine wpAnyG_one 38 at38 (by kernel_rfl) (fun Kn hK => ?_)
        go_simp
        refine hK.out _ _ (Or.inl (by kernel_rfl)) ?_
        clear hK Kn
        have HB3 := Lib.hid hb3
        clear hb0 hb1 hb2 hb3 hvn hwr1
        obtain ⟨_, j0, j1, j2, j3, j4, j5, j6, j7, j8⟩ := hS
        refine wpAnyG_done (by kernel_rfl) ?_
        try simp only [Act.put, List.setIfInBounds_toArray, List.set_cons_zero, List.set_cons_succ]
        have HSTA := Lib.hid (fun W => state6_calls o.root o.r.epoch W HRT.out HEPB.out.1 HEPB.out.2.1)
        obtain ⟨ST, hST⟩ : ∃ s, mkB (stateL o.root o.r.epoch) = s := ⟨_, rfl⟩
        have HOPN2 := HOPN
        simp only [hST] at HSTA HOPN2
        have HO2 := HOPN2
        clear hST HOPN HOPN2
        go_wp2_with fail
        refine (HSTA.out _).mono ?_
        rintro e w9 ⟨rfl, hb9⟩
        have HB9 := Lib.hid (HB3.out.trans (hb9.mono HB3.out.size))
        clear hb9 j0 j1 j2 j3 j4 j5 j6 j7 j8
        go_wp2_with fail
        go_loopw [18, 19, 20, 21, 22] (fun i a b c d wr => ∃ k : Nat, 1 ≤ k ∧ k ≤ 8 ∧ i = .int .i64 k ∧ Hid (Below w8.heap.size w8 wr)) (fun i _ _ _ _ _ => 8 - (intOf i).toNat)
        case atStart => exact ⟨1, Nat.le_refl _, by omega, rfl, HB9⟩
        case round =>
          obtain ⟨k, hk1, hk8, rfl, HB⟩ := hrel
          by_cases hlt : k < 8
          · have hkk : (k : Int) < 8 := by omega
            have hO := HO2.out k hk1 hlt
            have hC := HCAN.out k hk1 hlt
            have HWH := Lib.hid (fun W => who_calls (k : Int) W (by omega) (by omega))
            have HSE := Lib.hid (fun W => secretOf14_calls (whoB k) W (by have := whoB_size k; omega))
            have hop := fun W (hb : Below w8.heap.size w8 W) => open_calls W BM _ _ _ _ (whoB k) (secOf (whoB k)) (HM8.out.below hb) (HT.out.below (HO8.out.below hb).1) HWF.out HRM.out ((secOf_is (u := whoB k) (by have := whoB_size k; omega)).right (by omega) (by omega)) (by obtain ⟨_, _, _, h3⟩ := secOf_is (u := whoB k) (by have := whoB_size k; omega); rw [toL_len] at h3; omega)
            have hc1 := fun W (hb : Below w8.heap.size w8 W) => can7_calls W o.r _ _ (whoB k) false (HL8.out.below hb).rt HKR.out
            have hc2 := fun W (hb : Below w8.heap.size w8 W) => can7_calls W o.r _ _ (whoB k) true (HL8.out.below hb).rt HKR.out
            obtain ⟨u, hu⟩ : ∃ u, whoB k = u := ⟨_, rfl⟩
            simp only [hu] at hO hC HWH HSE hop hc1 hc2
            obtain ⟨su, hsu⟩ : ∃ s, secOf u = s := ⟨_, rfl⟩
            simp only [hsu] at hO HSE hop
            obtain ⟨cc, hcc⟩ : ∃ c, o.r.can u true = c := ⟨_, rfl⟩
            obtain ⟨LB, hLB⟩ : ∃ x, lastB o.r o.sg = x := ⟨_, rfl⟩
            have hls := HLAST.out
            simp only [hcc] at hc2 hO
            simp only [hLB] at hO hls
            simp only [hC] at hc1
            obtain ⟨bb, hbb⟩ : ∃ b, memB u (others o.r) = b := ⟨_, rfl⟩
            simp only [hbb] at hO hc1
            obtain ⟨X, hX⟩ : ∃ x, openM BM u su = x := ⟨_, rfl⟩
            simp only [hX] at hO hop
            unfold openV at hop
            dsimp only [agM] at hop
            simp only [HLN.out.2.2.2.2.2.1, HLN.out.2.2.2.2.2.2.1, HLN.out.2.2.2.2.2.2.2] at hop
            obtain ⟨X1, X2, X3⟩ := X
            dsimp only at hop
            have HO3' := Lib.hid hO
            have HOP := Lib.hid hop
            have HC1 := Lib.hid hc1
            have HC2 := Lib.hid hc2
            have HLS := Lib.hid hls
            clear hO hC hop hc1 hc2 hu hsu hcc hLB hls hbb hX
            go_wp2_with fail
            refine wp_region_G (fun W2 => (W2.cell? ⟨Zm, 0, none⟩ = some (.string o.r.owner) ∧ W2.cell? ⟨Zm, 1, none⟩ = some (.string o.r.file) ∧ W2.cell? ⟨Zm, 2, none⟩ = some (.int .i64 o.r.epoch) ∧ W2.cell? ⟨Zm, 3, none⟩ = some (.slice P5 n5 d5) ∧ W2.cell? ⟨Zm, 4, none⟩ = some (.slice P6 n6 d6) ∧ W2.cell? ⟨Zm, 5, none⟩ = some (.int .u64 o.ver) ∧ W2.cell? ⟨Zm, 6, none⟩ = some (.slice P7 nv d7) ∧ W2.cell? ⟨Zm, 7, none⟩ = some (.slice P8 nb d8) ∧ W2.cell? ⟨Zm, 8, none⟩ = some (.string SG)) ∧ (W2.cell? ⟨Zo, 0, none⟩ = some (.string o.r.owner) ∧ W2.cell? ⟨Zo, 1, none⟩ = some (.string o.r.file) ∧ W2.cell? ⟨Zo, 2, none⟩ = some (.int .i64 o.r.epoch) ∧ W2.cell? ⟨Zo, 3, none⟩ = some (.slice A1 n5 ca1) ∧ W2.cell? ⟨Zo, 4, none⟩ = some (.slice C1 n6 cb1) ∧ W2.cell? ⟨Zo, 5, none⟩ = some (.int .u64 o.ver) ∧ W2.cell? ⟨Zo, 6, none⟩ = some (.string o.root) ∧ W2.cell? ⟨Zo, 7, none⟩ = some (.slice D1 ns cd1) ∧ W2.cell? ⟨Zo, 8, none⟩ = some (.bool false))) [11] (by kernel_rfl) ?_
            have hb0 := HB.out.drew
            have hS := HSS.out _ hb0
            refine wpAnyG_take (ws := [0,6,7,8]) (i := 0) (v := ?vra0) at0 (by kernel_rfl) (fun _ _ _ h => h) (Or.inl ⟨by rfl, ?hra0⟩) (by assumption) ?rra0
            case hra0 => (intro w hSw; (try dsimp only at hSw); go_simp; try with_reducible rfl)
            case' rra0 => skip
            try simp only [Act.put, List.setIfInBounds_toArray, List.set_cons_zero, List.set_cons_succ]
            refine wpAnyG_pure (i := 1) (v := ?vra1) at1 (by kernel_rfl) (fun _ _ _ h => h) (Or.inl ⟨by rfl, ?hra1⟩) (Or.inr (by assumption)) ?rra1
            case hra1 => (intro w hSw; (try dsimp only at hSw); go_simp; try with_reducible rfl)
            case' rra1 => skip
            try simp only [Act.put, List.setIfInBounds_toArray, List.set_cons_zero, List.set_cons_succ]
            refine wpAnyG_pure (i := 3) (v := ?vra3) at3 (by kernel_rfl) (fun _ _ _ h => h) (Or.inl ⟨by rfl, ?hra3⟩) (Or.inr (by assumption)) ?rra3
            case hra3 => (intro w hSw; (try dsimp only at hSw); go_simp; try with_reducible rfl)
            case' rra3 => skip
            try simp only [Act.put, List.setIfInBounds_toArray, List.set_cons_zero, List.set_cons_succ]
            refine wpAnyG_one 2 at2 (by kernel_rfl) (fun Kn hK => ?_)
            go_simp
            refine (HWH.out _).mono ?_
            rintro e y1 ⟨rfl, hq⟩
            have hb1 := hb0.trans (hq.mono hb0.size)
            clear hS
            have hS := HSS.out _ hb1
            refine hK.out _ _ (Or.inr hS) ?_
            clear hK Kn hq
            try simp only [Act.put, List.setIfInBounds_toArray, List.set_cons_zero, List.set_cons_succ]
            refine wpAnyG_one 4 at4 (by kernel_rfl) (fun Kn hK => ?_)
            go_simp
            refine (HWH.out _).mono ?_
            rintro e y2 ⟨rfl, hq⟩
            have hb2 := hb1.trans (hq.mono hb1.size)
            clear hS
            have hS := HSS.out _ hb2
            refine hK.out _ _ (Or.inr hS) ?_
            clear hK Kn hq
            try simp only [Act.put, List.setIfInBounds_toArray, List.set_cons_zero, List.set_cons_succ]
            refine wpAnyG_one 5 at5 (by kernel_rfl) (fun Kn hK => ?_)
            go_simp
            refine (HSE.out _).mono ?_
            rintro e y3 ⟨rfl, hq⟩
            have hb3 := hb2.trans (hq.mono hb2.size)
            clear hS
            have hS := HSS.out _ hb3
            refine hK.out _ _ (Or.inr hS) ?_
            clear hK Kn hq
            try simp only [Act.put, List.setIfInBounds_toArray, List.set_cons_zero, List.set_cons_succ]
            refine wpAnyG_one 6 at6 (by kernel_rfl) (fun Kn hK => ?_)
            go_simp
            refine (HOP.out _ hb3).mono ?_
            rintro e y4 ⟨rfl, hq⟩
            have hb4 := hb3.trans (hq.mono hb3.size)
            clear hS
            have hS := HSS.out _ hb4
            refine hK.out _ _ (Or.inr hS) ?_
            clear hK Kn hq
            try simp only [Act.put, List.setIfInBounds_toArray, List.set_cons_zero, List.set_cons_succ]
            refine wpAnyG_pure (i := 7) (v := ?vrb7) at7 (by kernel_rfl) (fun _ _ _ h => h) (Or.inl ⟨by rfl, ?hrb7⟩) (Or.inr (by assumption)) ?rrb7
            case hrb7 => (intro w hSw; (try dsimp only at hSw); go_simp; try with_reducible rfl)
            case' rrb7 => skip
            try simp only [Act.put, List.setIfInBounds_toArray, List.set_cons_zero, List.set_cons_succ]
            refine wpAnyG_pure (i := 8) (v := ?vrb8) at8 (by kernel_rfl) (fun _ _ _ h => h) (Or.inl ⟨by rfl, ?hrb8⟩) (Or.inr (by assumption)) ?rrb8
            case hrb8 => (intro w hSw; (try dsimp only at hSw); go_simp; try with_reducible rfl)
            case' rrb8 => skip
            try simp only [Act.put, List.setIfInBounds_toArray, List.set_cons_zero, List.set_cons_succ]
            refine wpAnyG_pure (i := 9) (v := ?vrb9) at9 (by kernel_rfl) (fun _ _ _ h => h) (Or.inl ⟨by rfl, ?hrb9⟩) (Or.inr (by assumption)) ?rrb9
            case hrb9 => (intro w hSw; (try dsimp only at hSw); go_simp; try with_reducible rfl)
            case' rrb9 => skip
            try simp only [Act.put, List.setIfInBounds_toArray, List.set_cons_zero, List.set_cons_succ]
            refine wpAnyG_pure (i := 10) (v := ?vrb10) at10 (by kernel_rfl) (fun _ _ _ h => h) (Or.inl ⟨by rfl, ?hrb10⟩) (Or.inr (by assumption)) ?rrb10
            case hrb10 => (intro w hSw; (try dsimp only at hSw); go_simp; try with_reducible rfl)
            case' rrb10 => skip
            try simp only [Act.put, List.setIfInBounds_toArray, List.set_cons_zero, List.set_cons_succ]
            refine wpAnyG_one 11 at11 (by kernel_rfl) (fun Kn hK => ?_)
            go_simp
            refine hK.out _ _ (Or.inl (by kernel_rfl)) ?_
            clear hK Kn
            try simp only [Act.put, List.setIfInBounds_toArray, List.set_cons_zero, List.set_cons_succ]
            refine wpAnyG_one 12 at12 (by kernel_rfl) (fun Kn hK => ?_)
            go_simp
            refine hK.out _ _ (Or.inl (by kernel_rfl)) ?_
            clear hK Kn
            try simp only [Act.put, List.setIfInBounds_toArray, List.set_cons_zero, List.set_cons_succ]
            refine wpAnyG_one 13 at13 (by kernel_rfl) (fun Kn hK => ?_)
            go_simp
            refine hK.out _ _ (Or.inl (by kernel_rfl)) ?_
            clear hK Kn
            try simp only [Act.put, List.setIfInBounds_toArray, List.set_cons_zero, List.set_cons_succ]
            have HBa := Lib.hid hb4
            clear hS hb0 hb1 hb2 hb3 hb4
            refine wpAnyG_done (by kernel_rfl) ?_
            try simp only [Act.put, List.setIfInBounds_toArray, List.set_cons_zero, List.set_cons_succ]
            go_wp2_with fail
            refine wp_region_G (fun W2 => (W2.cell? ⟨Zm, 0, none⟩ = some (.string o.r.owner) ∧ W2.cell? ⟨Zm, 1, none⟩ = some (.string o.r.file) ∧ W2.cell? ⟨Zm, 2, none⟩ = some (.int .i64 o.r.epoch) ∧ W2.cell? ⟨Zm, 3, none⟩ = some (.slice P5 n5 d5) ∧ W2.cell? ⟨Zm, 4, none⟩ = some (.slice P6 n6 d6) ∧ W2.cell? ⟨Zm, 5, none⟩ = some (.int .u64 o.ver) ∧ W2.cell? ⟨Zm, 6, none⟩ = some (.slice P7 nv d7) ∧ W2.cell? ⟨Zm, 7, none⟩ = some (.slice P8 nb d8) ∧ W2.cell? ⟨Zm, 8, none⟩ = some (.string SG)) ∧ (W2.cell? ⟨Zo, 0, none⟩ = some (.string o.r.owner) ∧ W2.cell? ⟨Zo, 1, none⟩ = some (.string o.r.file) ∧ W2.cell? ⟨Zo, 2, none⟩ = some (.int .i64 o.r.epoch) ∧ W2.cell? ⟨Zo, 3, none⟩ = some (.slice A1 n5 ca1) ∧ W2.cell? ⟨Zo, 4, none⟩ = some (.slice C1 n6 cb1) ∧ W2.cell? ⟨Zo, 5, none⟩ = some (.int .u64 o.ver) ∧ W2.cell? ⟨Zo, 6, none⟩ = some (.string o.root) ∧ W2.cell? ⟨Zo, 7, none⟩ = some (.slice D1 ns cd1) ∧ W2.cell? ⟨Zo, 8, none⟩ = some (.bool false))) [5] (by kernel_rfl) ?_
            have hb0 := HBa.out.drew
            have hS := HSS.out _ hb0
            refine wpAnyG_pure (i := 0) (v := ?vrc0) at0 (by kernel_rfl) (fun _ _ _ h => h) (Or.inl ⟨by rfl, ?hrc0⟩) (Or.inr (by assumption)) ?rrc0
            case hrc0 => (intro w hSw; (try dsimp only at hSw); go_simp; try with_reducible rfl)
            case' rrc0 => skip
            try simp only [Act.put, List.setIfInBounds_toArray, List.set_cons_zero, List.set_cons_succ]
            refine wpAnyG_take (ws := [1,4]) (i := 1) (v := ?vrc1) at1 (by kernel_rfl) (fun _ _ _ h => h) (Or.inl ⟨by rfl, ?hrc1⟩) (by assumption) ?rrc1
            case hrc1 => (intro w hSw; (try dsimp only at hSw); go_simp; try with_reducible rfl)
            case' rrc1 => skip
            try simp only [Act.put, List.setIfInBounds_toArray, List.set_cons_zero, List.set_cons_succ]
            refine wpAnyG_pure (i := 2) (v := ?vrc2) at2 (by kernel_rfl) (fun _ _ _ h => h) (Or.inl ⟨by rfl, ?hrc2⟩) (Or.inr (by assumption)) ?rrc2
            case hrc2 => (intro w hSw; (try dsimp only at hSw); go_simp; try with_reducible rfl)
            case' rrc2 => skip
            try simp only [Act.put, List.setIfInBounds_toArray, List.set_cons_zero, List.set_cons_succ]
            refine wpAnyG_one 3 at3 (by kernel_rfl) (fun Kn hK => ?_)
            go_simp
            refine (HWH.out _).mono ?_
            rintro e y5 ⟨rfl, hq⟩
            have hb1 := hb0.trans (hq.mono hb0.size)
            clear hS
            have hS := HSS.out _ hb1
            refine hK.out _ _ (Or.inr hS) ?_
            clear hK Kn hq
            try simp only [Act.put, List.setIfInBounds_toArray, List.set_cons_zero, List.set_cons_succ]
            refine wpAnyG_one 4 at4 (by kernel_rfl) (fun Kn hK => ?_)
            go_simp
            refine (HC1.out _ hb1).mono ?_
            rintro e y6 ⟨rfl, hq⟩
            have hb2 := hb1.trans (hq.mono hb1.size)
            clear hS
            have hS := HSS.out _ hb2
            refine hK.out _ _ (Or.inr hS) ?_
            clear hK Kn hq
            try simp only [Act.put, List.setIfInBounds_toArray, List.set_cons_zero, List.set_cons_succ]
            refine wpAnyG_one 5 at5 (by kernel_rfl) (fun Kn hK => ?_)
            go_simp
            refine hK.out _ _ (Or.inl (by kernel_rfl)) ?_
            clear hK Kn
            try simp only [Act.put, List.setIfInBounds_toArray, List.set_cons_zero, List.set_cons_succ]
            have HBb := Lib.hid hb2
            clear hS hb0 hb1 hb2
            refine wpAnyG_done (by kernel_rfl) ?_
            try simp only [Act.put, List.setIfInBounds_toArray, List.set_cons_zero, List.set_cons_succ]
            cases bb with
            | false =>
              have hx := HO3'.out
              simp only [Bool.false_eq_true, if_false, Prod.mk.injEq] at hx
              obtain ⟨rfl, rfl, rfl⟩ := hx
              go_wp2_with fail
              go_roundw
              case rel => exact ⟨k + 1, by omega, by omega, by go_num, HBb⟩
              case measure => simp [intOf]; omega
            | true =>
              have hx := HO3'.out
              simp only [if_true, Prod.mk.injEq] at hx
              obtain ⟨rfl, hx2, rfl⟩ := hx
              have HX2 := Lib.hid hx2
              clear hx2
              go_wp2_with fail
              refine wp_region_G (fun W2 => (W2.cell? ⟨Zm, 0, none⟩ = some (.string o.r.owner) ∧ W2.cell? ⟨Zm, 1, none⟩ = some (.string o.r.file) ∧ W2.cell? ⟨Zm, 2, none⟩ = some (.int .i64 o.r.epoch) ∧ W2.cell? ⟨Zm, 3, none⟩ = some (.slice P5 n5 d5) ∧ W2.cell? ⟨Zm, 4, none⟩ = some (.slice P6 n6 d6) ∧ W2.cell? ⟨Zm, 5, none⟩ = some (.int .u64 o.ver) ∧ W2.cell? ⟨Zm, 6, none⟩ = some (.slice P7 nv d7) ∧ W2.cell? ⟨Zm, 7, none⟩ = some (.slice P8 nb d8) ∧ W2.cell? ⟨Zm, 8, none⟩ = some (.string SG)) ∧ (W2.cell? ⟨Zo, 0, none⟩ = some (.string o.r.owner) ∧ W2.cell? ⟨Zo, 1, none⟩ = some (.string o.r.file) ∧ W2.cell? ⟨Zo, 2, none⟩ = some (.int .i64 o.r.epoch) ∧ W2.cell? ⟨Zo, 3, none⟩ = some (.slice A1 n5 ca1) ∧ W2.cell? ⟨Zo, 4, none⟩ = some (.slice C1 n6 cb1) ∧ W2.cell? ⟨Zo, 5, none⟩ = some (.int .u64 o.ver) ∧ W2.cell? ⟨Zo, 6, none⟩ = some (.string o.root) ∧ W2.cell? ⟨Zo, 7, none⟩ = some (.slice D1 ns cd1) ∧ W2.cell? ⟨Zo, 8, none⟩ = some (.bool false))) [4] (by kernel_rfl) ?_
              have hb0 := HBb.out.drew
              have hS := HSS.out _ hb0
              refine wpAnyG_pure (i := 0) (v := ?vrd0) at0 (by kernel_rfl) (fun _ _ _ h => h) (Or.inl ⟨by rfl, ?hrd0⟩) (Or.inr (by assumption)) ?rrd0
              case hrd0 => (intro w hSw; (try dsimp only at hSw); go_simp; try with_reducible rfl)
              case' rrd0 => skip
              try simp only [Act.put, List.setIfInBounds_toArray, List.set_cons_zero, List.set_cons_succ]
              refine wpAnyG_take (ws := [1]) (i := 1) (v := ?vrd1) at1 (by kernel_rfl) (fun _ _ _ h => h) (Or.inl ⟨by rfl, ?hrd1⟩) (by assumption) ?rrd1
              case hrd1 => (intro w hSw; (try dsimp only at hSw); go_simp; try with_reducible rfl)
              case' rrd1 => skip
              try simp only [Act.put, List.setIfInBounds_toArray, List.set_cons_zero, List.set_cons_succ]
              refine wpAnyG_pure (i := 2) (v := ?vrd2) at2 (by kernel_rfl) (fun _ _ _ h => h) (Or.inl ⟨by rfl, ?hrd2⟩) (Or.inr (by assumption)) ?rrd2
              case hrd2 => (intro w hSw; (try dsimp only at hSw); go_simp; try with_reducible rfl)
              case' rrd2 => skip
              try simp only [Act.put, List.setIfInBounds_toArray, List.set_cons_zero, List.set_cons_succ]
              refine wpAnyG_one 3 at3 (by kernel_rfl) (fun Kn hK => ?_)
              go_simp
              refine (HWH.out _).mono ?_
              rintro e y7 ⟨rfl, hq⟩
              have hb1 := hb0.trans (hq.mono hb0.size)
              clear hS
              have hS := HSS.out _ hb1
              refine hK.out _ _ (Or.inr hS) ?_
              clear hK Kn hq
              try simp only [Act.put, List.setIfInBounds_toArray, List.set_cons_zero, List.set_cons_succ]
              refine wpAnyG_one 4 at4 (by kernel_rfl) (fun Kn hK => ?_)
              go_simp
              refine (HC2.out _ hb1).mono ?_
              rintro e y8 ⟨rfl, hq⟩
              have hb2 := hb1.trans (hq.mono hb1.size)
              clear hS
              have hS := HSS.out _ hb2
              refine hK.out _ _ (Or.inl (by kernel_rfl)) ?_
              clear hK Kn hq
              try simp only [Act.put, List.setIfInBounds_toArray, List.set_cons_zero, List.set_cons_succ]
              have HBc := Lib.hid hb2
              obtain ⟨_, j0, j1, j2, j3, j4, j5, j6, j7, j8⟩ := hS
              clear hb0 hb1 hb2
              refine wpAnyG_done (by kernel_rfl) ?_
              try simp only [Act.put, List.setIfInBounds_toArray, List.set_cons_zero, List.set_cons_succ]
              cases cc with
              | true =>
                obtain ⟨gs, os, y, hy, _, _, hcl⟩ := (HL8.out.below HBc.out).sg.cell HLS.out
                obtain ⟨rfl, rfl⟩ : D1 = some ⟨gs, os, none⟩ ∧ cd1 = y := by cases hy; exact ⟨rfl, rfl⟩
                have he0 : 0 ≤ o.r.epoch := HEPB.out.1
                have he1 : o.r.epoch < (ns : Int) := by have := HEPB.out; omega
                have hx2 := HX2.out
                rw [if_pos rfl] at hx2
                subst hx2
                clear hy HX2
                go_wp2_with fail
                go_roundw
                case rel => exact ⟨k + 1, by omega, by omega, by go_num, HBc⟩
                case measure => simp [intOf]; omega
              | false =>
                have hx2 := HX2.out
                rw [if_neg (by decide)] at hx2
                subst hx2
                clear HX2
                go_wp2_with fail
                go_roundw
                case rel => exact ⟨k + 1, by omega, by omega, by go_num, HBc⟩
                case measure => simp [intOf]; omega
          · obtain rfl : k = 8 := by omega
            have HF := Lib.hid ((HO8.out.below HB.out).1)
            go_wp2_with fail
            go_ret
            exact ⟨rfl, HF.out⟩
end Go.Proofs.YtckblcfkajpofaaGreatDoor
