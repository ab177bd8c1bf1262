/- (*Ledger).mark: the walk. A step; (*Ledger).of: the life of a version. -/
import Derived.Test.YtgacfkenndhcnaaDoorZL1
import Derived.Deep.LoopGhost
import Derived.Handy
import Derived.Test.YtgacfkenndhcnaaDoorZA5
namespace Go.Proofs.YtgacfkenndhcnaaDoor
open Go.RowKit
set_option linter.unusedVariables false
set_option linter.unusedSimpArgs false

theorem MarkRel.next {w wr w1 : World} {role roler : Nat → Role} {G : LedM} {who : ByteArray} {it : Nat} {rows : LRows} {left : ByteArray → Bool} {cnt cnt1 : Nat} {k : ByteArray} (h : MarkRel w wr role G who it roler rows left cnt) (hlt : w.heap.size ≤ it)
    (hr : srange w1 Value.string G.bm it (valsOf G.rows) (fun x => left x && !decide (x = k)) cnt1) (hg : wr.grownBy w1 (some it)) (hs : w1.heap.size = wr.heap.size) :
    IsLed w1 roler { G with rows := rows } ∧ Keep (fun q => role q ≠ .none) w w1 := by
  have K : Keep (fun q => q = it) wr w1 := Keep.of_grown hg fun k hk => by cases hk; rfl
  exact ⟨h.led.keep K (fun g e hlt2 => by rw [e]; exact h.oth) (fun _ _ => rfl) (fun q hq => by rw [hs]; exact h.led.low q hq), h.keep.trans K fun i e => Or.inr (by rw [e]; exact hlt)⟩

theorem akeys_vals (rows : LRows) : akeys (valsOf rows) = akeys rows := akeys_amap _ _
theorem pure_at {G : LedM} (hn : (akeys G.rows).Nodup) {k : ByteArray} {r : Value × List LifeM} (hk : aget G.rows k = some r) {p : ByteArray × List Life} (hp : p ∈ G.pure) (e : p.1 = k) : p.2 = r.2.map LifeM.life := by
  have h1 : aget G.pure k = some (r.2.map LifeM.life) := by unfold LedM.pure; rw [aget_amap, hk]; rfl
  have h2 : (akeys G.pure).Nodup := by unfold LedM.pure; rw [akeys_amap]; exact hn
  have h3 := aget_of_mem h2 (k := p.1) (v := p.2) hp
  rw [e, h1] at h3
  exact (Option.some.inj h3).symm
theorem MarkRel.skip {w wr w1 : World} {role roler : Nat → Role} {G : LedM} {who : ByteArray} {it : Nat} {rows : LRows} {left : ByteArray → Bool} {cnt cnt1 : Nat} {k : ByteArray} {r : Value × List LifeM} (h : MarkRel w wr role G who it roler rows left cnt) (hn : (akeys G.rows).Nodup)
    (N : IsLed w1 roler { G with rows := rows } ∧ Keep (fun q => role q ≠ .none) w w1) (hr : srange w1 Value.string G.bm it (valsOf G.rows) (fun x => left x && !decide (x = k)) cnt1) (hk : aget rows k = some r) (hl : left k = true)
    (hm : markIn G.now who k (r.2.map LifeM.life) = r.2.map LifeM.life) : MarkRel w w1 role G who it roler rows (fun x => left x && !decide (x = k)) cnt1 := by
  refine ⟨N.1, hr, h.oth, h.same, fun j hj => h.todo j (by simp at hj; exact hj.1), ?_, N.2, h.old⟩
  rw [h.pure]
  apply List.map_congr_left
  intro p hp
  by_cases e : p.1 = k
  · rw [e, hl, pure_at hn ((h.todo k hl).symm.trans hk) hp e]
    simp [hm]
  · simp [e]
theorem MarkRel.one {w wr w2 : World} {role roler role2 : Nat → Role} {G : LedM} {who : ByteArray} {it : Nat} {rows rows2 : LRows} {left : ByteArray → Bool} {cnt cnt1 : Nat} {k : ByteArray} {v : Value} {xs ys : List LifeM} (h : MarkRel w wr role G who it roler rows left cnt) (hn : (akeys G.rows).Nodup)
    (hk : aget rows k = some (v, xs)) (hl : left k = true) (hr2 : rows2 = aput rows k (v, ys)) (N : IsLed w2 role2 { G with rows := rows2 } ∧ Keep (fun q => role q ≠ .none) w w2) (hr : srange w2 Value.string G.bm it (valsOf G.rows) (fun x => left x && !decide (x = k)) cnt1)
    (ho : role2 it = .oth) (hq : ∀ q, q < w.heap.size → role2 q = role q) (hm : markIn G.now who k (xs.map LifeM.life) = ys.map LifeM.life) : MarkRel w w2 role G who it role2 rows2 (fun x => left x && !decide (x = k)) cnt1 := by
  have hnr : (akeys rows).Nodup := h.led.nodup
  subst hr2
  refine ⟨N.1, hr, ho, ?_, fun j hj => ?_, ?_, N.2, hq⟩
  · rw [← h.same]
    unfold valsOf
    rw [← aput_amap]
    exact aput_same (by rw [aget_amap, hk]; rfl) (by rw [akeys_amap]; exact hnr)
  · simp at hj
    rw [aget_aput, if_neg hj.2]
    exact h.todo j hj.1
  · rw [← aput_amap, h.pure]
    have hs : (aget (G.pure.map fun p => (p.1, if left p.1 then p.2 else markIn G.now who p.1 p.2)) k).isSome = true := by
      rw [← h.pure, aget_amap, hk]; rfl
    unfold aput
    rw [if_pos hs, List.map_map]
    apply List.map_congr_left
    intro p hp
    simp only [Function.comp]
    by_cases e : p.1 = k
    · rw [if_pos e, ← e]
      have := pure_at hn ((h.todo k hl).symm.trans hk) hp e
      rw [this]
      simp only [decide_true, Bool.not_true, Bool.and_false, Bool.false_eq_true, if_false]
      rw [e, hm]
    · simp [e]

set_option maxRecDepth 100000 in
set_option maxHeartbeats 2000000 in
theorem mark_calls {w : World} {role : Nat → Role} {G : LedM} (h : IsLed w role G) (who : ByteArray) (hw : who.size ≤ 1000) (hsm : ∀ k r, aget G.rows k = some r → ∀ x ∈ r.2, x.ms.length ≤ 100000) :
    Calls Tryd.prog 19 #[.pointer (some ⟨G.b, 0, none⟩), .string who] w fun e w' => e = .returned (.tuple #[]) ∧ ∃ role' rows, IsLed w' role' { G with rows := rows } ∧ valsOf rows = valsOf G.rows ∧ amap (fun p : Value × List LifeM => p.2.map LifeM.life) rows = G.pure.map (fun p => (p.1, markIn G.now who p.1 p.2)) ∧ Keep (fun q => role q ≠ .none) w w' ∧ ∀ q, q < w.heap.size → role' q = role q := by
  have HH := Lib.hid h
  have HS := Lib.hid hsm
  have c3 := h.cells.2.2.2
  clear h hsm
  go_enter Tryd.func19, Tryd.ntmps19
  go_wp2_with (at_range; refine wp_srange rfl _ _ rfl _ Tryd.underlying52 (fun e => by cases e; rfl) rfl HH.out.map ?_; intro w0 hr0 hg0 hs0; have M0 := Lib.hid (markrel_start HH.out who hr0 hg0 hs0); have HLT := Lib.hid (Nat.le_refl w.heap.size); clear hr0 hg0 hs0)
  go_frame
  obtain ⟨it, hit⟩ : ∃ it, w.heap.size = it := ⟨_, rfl⟩
  have HIT : Hid (w.heap.size ≤ it) := Lib.hid (by omega)
  rw [hit] at M0 ⊢
  clear hit HLT
  go_loopg [] (valsOf G.rows).length (fun g wr => ∃ roler rows left, Hid (MarkRel w wr role G who it roler rows left g))
  case atStart => exact ⟨_, _, _, M0.out⟩
  case round =>
    obtain ⟨roler, rows, left, HO⟩ := hrel
    clear M0
    go_wp2_with (at_next; refine wp_snext rfl _ rfl (fun e => by cases e; rfl) rfl HO.out.rng ?_ ?_)
    · intro hc0 hl0
      have HE : Hid (IsLed wr roler { G with rows := rows } ∧ valsOf rows = valsOf G.rows ∧ amap (fun p : Value × List LifeM => p.2.map LifeM.life) rows = G.pure.map (fun p => (p.1, markIn G.now who p.1 p.2)) ∧ Keep (fun q => role q ≠ .none) w wr ∧ ∀ q, q < w.heap.size → roler q = role q) := Lib.hid ⟨HO.out.led, HO.out.same, by rw [HO.out.pure]; simp [hl0], HO.out.keep, HO.out.old⟩
      clear hc0 hl0
      go_wp2_with fail
      go_returns
      exact ⟨rfl, roler, rows, HE.out⟩
    · intro k v w1 cnt1 hkv hlk hrg1 hlt hg1 hs1 hen
      have HN := Lib.hid (HO.out.next HIT.out hrg1 hg1 hs1)
      have HR := Lib.hid hrg1
      obtain ⟨xs, hkr⟩ : ∃ xs, aget rows k = some (v, xs) := by
        have h1 := HO.out.same
        have h2 : aget (valsOf rows) k = some v := by rw [h1]; exact hkv
        unfold valsOf at h2
        rw [aget_amap] at h2
        cases e : aget rows k with
        | none => rw [e] at h2; cases h2
        | some r => rw [e] at h2; cases h2; exact ⟨r.2, rfl⟩
      have HK := Lib.hid hkr
      have HLK := Lib.hid hlk
      have HC := Lib.hid hlt
      have HNN := Lib.hid HH.out.nodup
      obtain ⟨A, c, hv, _, _⟩ := own_slice (HN.out.1.row k _ hkr)
      dsimp only at hv
      subst hv
      have hpre := hasPrefix_calls k (who ++ slash) w1
      obtain ⟨pb, hpb⟩ : ∃ pb, Lib.hasPrefix k.data.toList (who ++ slash).data.toList = pb := ⟨_, rfl⟩
      rw [hpb] at hpre
      have HPB := Lib.hid hpb
      have HPR := Lib.hid hpre
      have e1 : who ++ ⟨#[47]⟩ = who ++ slash := rfl
      clear hkv hlk hrg1 hlt hg1 hs1 hkr hpb hpre
      cases pb with
      | false =>
        have HM := Lib.hid (HO.out.skip HNN.out HN.out HR.out HK.out HLK.out (by unfold markIn; rw [HPB.out]; rfl))
        go_wp2_with fail
        refine HPR.out.mono ?_
        rintro e w2 ⟨rfl, hw2⟩
        obtain rfl : w1 = w2 := hw2.symm
        clear hw2
        go_wp2_with fail
        go_roundg cnt1
        case rel => exact ⟨roler, rows, _, HM.out⟩
        case measure => exact HC.out
      | true =>
        by_cases h0 : xs.length = 0
        · have HM := Lib.hid (HO.out.skip HNN.out HN.out HR.out HK.out HLK.out (by unfold markIn; rw [HPB.out, List.eq_nil_of_length_eq_zero h0]; rfl))
          go_wp2_with fail
          refine HPR.out.mono ?_
          rintro e w2 ⟨rfl, hw2⟩
          obtain rfl : w1 = w2 := hw2.symm
          clear hw2
          go_wp2_with fail
          go_roundg cnt1
          case rel => exact ⟨roler, rows, _, HM.out⟩
          case measure => exact HC.out
        · obtain ⟨n, hn⟩ : ∃ n, xs.length = n + 1 := ⟨xs.length - 1, by omega⟩
          obtain ⟨x, hx⟩ : ∃ x, xs[n]? = some x := ⟨_, List.getElem?_eq_getElem (by omega)⟩
          obtain ⟨g, c', hv, hcn, hm, hcell⟩ := HN.out.1.last HK.out (by omega)
          cases hv
          have hwn : wrap64 (n : Int) = (n : Int) := by unfold maxLen at hm; simp (disch := omega) only [IntWalk.wrap64_in]
          have hwi : IntKind.i64.wrap (n : Int) = (n : Int) := by unfold maxLen at hm; rw [IntKind.wrap_i64]; omega
          have hl1 : (n : Int) < (n : Int) + 1 := by omega
          have hlast : (xs.map LifeM.life).getLast? = some x.life := by rw [List.getLast?_map, List.getLast?_eq_getElem?, hn]; show Option.map _ xs[n]? = _; rw [hx]; rfl
          rw [hn] at HK hcn hen ⊢
          have HXN := Lib.hid hn
          have HX := Lib.hid hx
          cases hgo : x.gone with
          | true =>
            have cg := (hcell n x hx 2 _ rfl).1
            rw [hgo] at cg
            have HM := Lib.hid (HO.out.skip HNN.out HN.out HR.out HK.out HLK.out (by unfold markIn; rw [HPB.out]; unfold markLast; rw [hlast]; show (if x.gone = true then _ else _) = _; rw [hgo]; rfl))
            clear hcell hlast hx hn hm h0 hgo
            go_wp2_with fail
            refine HPR.out.mono ?_
            rintro e w2 ⟨rfl, hw2⟩
            obtain rfl : w1 = w2 := hw2.symm
            clear hw2
            go_wp2_with fail
            go_roundg cnt1
            case rel => exact ⟨roler, rows, _, HM.out⟩
            case measure => exact HC.out
          | false =>
            have cg := (hcell n x hx 2 _ rfl).1
            rw [hgo] at cg
            have k0 := (hcell n x hx 0 _ rfl).1
            have k3 := (hcell n x hx 3 _ rfl).1
            have k4 := (hcell n x hx 4 _ rfl).1
            have k5 := (hcell n x hx 5 _ rfl).1
            have k6 := (hcell n x hx 6 _ rfl).1
            have k7 := (hcell n x hx 7 _ rfl).1
            have k8 := (hcell n x hx 8 _ rfl).1
            have f0 := (hcell n x hx 0 _ rfl).2
            have cn := HN.out.1.cells.2.1
            dsimp only [Nat.add_zero] at k0 f0
            have HGO := Lib.hid hgo
            have HLA := Lib.hid hlast
            clear hcell hlast hx hn hm h0 hgo
            go_wp2_with fail
            refine HPR.out.mono ?_
            rintro e w2 ⟨rfl, hw2⟩
            obtain rfl : w1 = w2 := hw2.symm
            clear hw2
            have HLF := Lib.hid (HN.out.1.life k _ HK.out n x HX.out)
            have ov : x.vr.oneCell' = true ∧ x.vw.oneCell' = true := by
              obtain ⟨_, _, e1, _⟩ := HLF.out.rt.lists.rd
              obtain ⟨_, _, e2, _⟩ := HLF.out.rt.lists.wr
              rw [e1, e2]; exact ⟨rfl, rfl⟩
            have HND := Lib.hid (HN.out.1.below (Below.refl _ w1).drew)
            have HRD := Lib.hid (HR.out.keep (w' := w1.drew) (Keep.drew (fun _ => False) w1) (fun e => e) (fun e => e))
            obtain ⟨wd, hwd⟩ : ∃ y, w1.drew = y := ⟨_, rfl⟩
            have hS : (fun W : World => W.cell? ⟨g, n * 9, none⟩ = some x.vm ∧ W.cell? ⟨G.b, 1, none⟩ = some (.int .u64 G.now) ∧ W.cell? ⟨g, n * 9 + 8, none⟩ = some (.int .u64 x.ver) ∧ W.cell? ⟨g, n * 9 + 3, none⟩ = some (.string x.r.owner) ∧ W.cell? ⟨g, n * 9 + 4, none⟩ = some (.string x.r.file) ∧ W.cell? ⟨g, n * 9 + 5, none⟩ = some (.int .i64 x.r.epoch) ∧ W.cell? ⟨g, n * 9 + 6, none⟩ = some x.vr ∧ W.cell? ⟨g, n * 9 + 7, none⟩ = some x.vw) w1.drew := ⟨k0, cn, k8, k3, k4, k5, k6, k7⟩
            have hsz : w1.heap.size = wd.heap.size := by rw [← hwd]; rfl
            have hKd : Keep (fun q => role q ≠ .none) w wd := by rw [← hwd]; exact HN.out.2.same (Keep.drew _ _)
            rw [hwd] at HND HRD hS
            have HLD := HND.out.life k _ HK.out n x HX.out
            obtain ⟨A2, cp, w3, hrun, ho3, hk3, hl3, hs3⟩ := append_mark HLD.mrk (x.mark G.now) ov.1 ov.2 (HS.out k _ ((HO.out.todo k HLK.out).symm.trans HK.out) x (List.mem_of_getElem? HX.out))
            obtain ⟨r2, hI, hK2, hr2⟩ := HND.out.marked HK.out HX.out ho3 hk3 hl3 hs3
            dsimp only [LifeM.mark] at hrun
            have hng : ¬ x.vm.ownBlock = some g := fun e => by
              have a := HLD.rm g e
              have b := HND.out.rr k _ HK.out g rfl
              rw [a] at b; cases b
            have hnb : ¬ x.vm.ownBlock = some G.b := fun e => by
              have a := HLD.rm _ e
              rw [HND.out.rb] at a; cases a
            have hnm : ¬ x.vm.ownBlock = some G.bm := fun e => by
              have a := HLD.rm _ e
              rw [HND.out.rmp] at a; cases a
            have hni : ¬ x.vm.ownBlock = some it := fun e => by
              have a := HLD.rm _ e
              rw [HO.out.oth] at a; cases a
            have hgi : g ≠ it := fun e => by
              have a := HND.out.rr k _ HK.out g rfl
              rw [e, HO.out.oth] at a; cases a
            have hgb : g ≠ G.bm := fun e => by
              have a := HND.out.rr k _ HK.out g rfl
              rw [e, HND.out.rmp] at a; cases a
            have hS3 : w3.cell? ⟨g, n * 9, none⟩ = some x.vm ∧ w3.cell? ⟨G.b, 1, none⟩ = some (.int .u64 G.now) ∧ w3.cell? ⟨g, n * 9 + 8, none⟩ = some (.int .u64 x.ver) ∧ w3.cell? ⟨g, n * 9 + 3, none⟩ = some (.string x.r.owner) ∧ w3.cell? ⟨g, n * 9 + 4, none⟩ = some (.string x.r.file) ∧ w3.cell? ⟨g, n * 9 + 5, none⟩ = some (.int .i64 x.r.epoch) ∧ w3.cell? ⟨g, n * 9 + 6, none⟩ = some x.vr ∧ w3.cell? ⟨g, n * 9 + 7, none⟩ = some x.vw := ⟨hk3.cell hS.1 hng, hk3.cell hS.2.1 hnb, hk3.cell hS.2.2.1 hng, hk3.cell hS.2.2.2.1 hng, hk3.cell hS.2.2.2.2.1 hng, hk3.cell hS.2.2.2.2.2.1 hng, hk3.cell hS.2.2.2.2.2.2.1 hng, hk3.cell hS.2.2.2.2.2.2.2 hng⟩
            have hSa : ∀ ob, ((wd.alloc ob).cell? ⟨g, n * 9, none⟩ = some x.vm ∧ (wd.alloc ob).cell? ⟨G.b, 1, none⟩ = some (.int .u64 G.now) ∧ (wd.alloc ob).cell? ⟨g, n * 9 + 8, none⟩ = some (.int .u64 x.ver) ∧ (wd.alloc ob).cell? ⟨g, n * 9 + 3, none⟩ = some (.string x.r.owner) ∧ (wd.alloc ob).cell? ⟨g, n * 9 + 4, none⟩ = some (.string x.r.file) ∧ (wd.alloc ob).cell? ⟨g, n * 9 + 5, none⟩ = some (.int .i64 x.r.epoch) ∧ (wd.alloc ob).cell? ⟨g, n * 9 + 6, none⟩ = some x.vr ∧ (wd.alloc ob).cell? ⟨g, n * 9 + 7, none⟩ = some x.vw) := fun ob => by
              have K := Keep.alloc (fun _ => False) wd ob
              exact ⟨K.cell hS.1 fun e => e, K.cell hS.2.1 fun e => e, K.cell hS.2.2.1 fun e => e, K.cell hS.2.2.2.1 fun e => e, K.cell hS.2.2.2.2.1 fun e => e, K.cell hS.2.2.2.2.2.1 fun e => e, K.cell hS.2.2.2.2.2.2.1 fun e => e, K.cell hS.2.2.2.2.2.2.2 fun e => e⟩
            have hrow3 := hk3.own (HND.out.row k _ HK.out) fun q hq e => by
              have a := HLD.rm q e
              have b := HND.out.rr k _ HK.out q hq
              rw [a] at b; cases b
            have hf3 : w3.frozen? ⟨g, n * 9, none⟩ = false := by
              obtain ⟨g', c'', e', _, hcell3⟩ := own_block hrow3 (by show 0 < xs.length; rw [HXN.out]; omega)
              have hgg : g = g' := by have := congrArg Value.ownBlock e'; simpa [Value.ownBlock] using this
              subst hgg
              exact (hcell3 (n * 9 + 0) x.vm (by rw [flat_get lifeV_len HX.out (by omega)]; rfl)).2
            have hr3 : srange (w3.setCell ⟨g, n * 9, none⟩ (.slice A2 (x.ms.length + 1) cp)) Value.string G.bm it (valsOf G.rows) (fun y => left y && !decide (y = k)) cnt1 := (HRD.out.keep hk3 hnm hni).keep (Keep.setCell (fun q => q = g) w3 (p := ⟨g, n * 9, none⟩) rfl _) (fun e => hgb e.symm) (fun e => hgi e.symm)
            have hlt_it : it < wd.heap.size := HRD.out.lt
            have HM := Lib.hid (HO.out.one (rows2 := aput rows k (.slice (some ⟨g, 0, none⟩) (n + 1) c, xs.set n (x.marked G.now (.slice A2 (x.ms.length + 1) cp)))) (role2 := r2) HNN.out HK.out HLK.out rfl ⟨hI, hKd.trans hK2 fun q hq => by
                by_cases hql : q < w.heap.size
                · left; rw [HO.out.old q hql] at hq; exact hq
                · right; omega⟩ hr3 ((hr2 it hlt_it).trans HO.out.oth) (fun q hq => (hr2 q (Nat.lt_of_lt_of_le hq hKd.size)).trans (HO.out.old q hq)) (by
                unfold markIn
                rw [HPB.out, if_pos rfl]
                unfold markLast
                rw [HLA.out]
                show (if x.gone = true then _ else _) = _
                rw [HGO.out, if_neg (by decide), List.length_map, HXN.out, Nat.add_sub_cancel, List.map_set]
                congr 1
                simp [addMark, LifeM.life, LifeM.marked, LifeM.mark]))
            have HSA := Lib.hid hSa
            clear ov HLD ho3 hk3 hl3 hs3 hI hK2 hr2 hng hnb hnm hni hgi hgb hSa hrow3 hr3 hlt_it hKd hsz
            go_wp2_with fail
            clear hen
            refine wp_region_G (fun W : World => W.cell? ⟨g, n * 9, none⟩ = some x.vm ∧ W.cell? ⟨G.b, 1, none⟩ = some (.int .u64 G.now) ∧ W.cell? ⟨g, n * 9 + 8, none⟩ = some (.int .u64 x.ver) ∧ W.cell? ⟨g, n * 9 + 3, none⟩ = some (.string x.r.owner) ∧ W.cell? ⟨g, n * 9 + 4, none⟩ = some (.string x.r.file) ∧ W.cell? ⟨g, n * 9 + 5, none⟩ = some (.int .i64 x.r.epoch) ∧ W.cell? ⟨g, n * 9 + 6, none⟩ = some x.vr ∧ W.cell? ⟨g, n * 9 + 7, none⟩ = some x.vw) [32] (by kernel_rfl) ?_
            rw [hwd]
            clear hwd
            refine wpAnyG_pure (i := 0) (v := ?va0) at0 (by kernel_rfl) (fun _ _ _ h => h) (Or.inl ⟨by rfl, ?ha0⟩) (Or.inr (by assumption)) ?ra0
            case ha0 => (intro w hSw; (try dsimp only at hSw); go_simp; try with_reducible rfl)
            case' ra0 => skip
            try simp only [Act.put, List.setIfInBounds_toArray, List.set_cons_zero, List.set_cons_succ]
            refine wpAnyG_pure (i := 1) (v := ?va1) at1 (by kernel_rfl) (fun _ _ _ h => h) (Or.inl ⟨by rfl, ?ha1⟩) (Or.inr (by assumption)) ?ra1
            case ha1 => (intro w hSw; (try dsimp only at hSw); go_simp; try with_reducible rfl)
            case' ra1 => skip
            try simp only [Act.put, List.setIfInBounds_toArray, List.set_cons_zero, List.set_cons_succ]
            refine wpAnyG_pure (i := 2) (v := ?va2) at2 (by kernel_rfl) (fun _ _ _ h => h) (Or.inl ⟨by rfl, ?ha2⟩) (Or.inr (by assumption)) ?ra2
            case ha2 => (intro w hSw; (try dsimp only at hSw); go_simp; try with_reducible rfl)
            case' ra2 => skip
            try simp only [Act.put, List.setIfInBounds_toArray, List.set_cons_zero, List.set_cons_succ]
            refine wpAnyG_pure (i := 3) (v := ?va3) at3 (by kernel_rfl) (fun _ _ _ h => h) (Or.inl ⟨by rfl, ?ha3⟩) (Or.inr (by assumption)) ?ra3
            case ha3 => (intro w hSw; (try dsimp only at hSw); go_simp; try with_reducible rfl)
            case' ra3 => skip
            try simp only [Act.put, List.setIfInBounds_toArray, List.set_cons_zero, List.set_cons_succ]
            refine wpAnyG_pure (i := 4) (v := ?va4) at4 (by kernel_rfl) (fun _ _ _ h => h) (Or.inl ⟨by rfl, ?ha4⟩) (Or.inr (by assumption)) ?ra4
            case ha4 => (intro w hSw; (try dsimp only at hSw); go_simp; try with_reducible rfl)
            case' ra4 => skip
            try simp only [Act.put, List.setIfInBounds_toArray, List.set_cons_zero, List.set_cons_succ]
            refine wpAnyG_pure (i := 5) (v := ?va5) at5 (by kernel_rfl) (fun _ _ _ h => h) (Or.inl ⟨by rfl, ?ha5⟩) (Or.inr (by assumption)) ?ra5
            case ha5 => (intro w hSw; (try dsimp only at hSw); go_simp; try with_reducible rfl)
            case' ra5 => skip
            try simp only [Act.put, List.setIfInBounds_toArray, List.set_cons_zero, List.set_cons_succ]
            refine wpAnyG_pure (i := 6) (v := ?va6) at6 (by kernel_rfl) (fun _ _ _ h => h) (Or.inl ⟨by rfl, ?ha6⟩) (Or.inr (by assumption)) ?ra6
            case ha6 => (intro w hSw; (try dsimp only at hSw); go_simp; try with_reducible rfl)
            case' ra6 => skip
            try simp only [Act.put, List.setIfInBounds_toArray, List.set_cons_zero, List.set_cons_succ]
            refine wpAnyG_pure (i := 7) (v := ?va7) at7 (by kernel_rfl) (fun _ _ _ h => h) (Or.inl ⟨by rfl, ?ha7⟩) (Or.inr (by assumption)) ?ra7
            case ha7 => (intro w hSw; (try dsimp only at hSw); go_simp; try with_reducible rfl)
            case' ra7 => skip
            try simp only [Act.put, List.setIfInBounds_toArray, List.set_cons_zero, List.set_cons_succ]
            refine wpAnyG_pure (i := 8) (v := ?va8) at8 (by kernel_rfl) (fun _ _ _ h => h) (Or.inl ⟨by rfl, ?ha8⟩) (Or.inr (by assumption)) ?ra8
            case ha8 => (intro w hSw; (try dsimp only at hSw); go_simp; try with_reducible rfl)
            case' ra8 => skip
            try simp only [Act.put, List.setIfInBounds_toArray, List.set_cons_zero, List.set_cons_succ]
            refine wpAnyG_take (ws := [9,13,19,25,26]) (i := 9) (v := ?va9) at9 (by kernel_rfl) (fun _ _ _ h => h) (Or.inl ⟨by rfl, ?ha9⟩) (by assumption) ?ra9
            case ha9 => (intro w hSw; (try dsimp only at hSw); go_simp; try with_reducible rfl)
            case' ra9 => skip
            try simp only [Act.put, List.setIfInBounds_toArray, List.set_cons_zero, List.set_cons_succ]
            refine wpAnyG_pure (i := 10) (v := ?va10) at10 (by kernel_rfl) (fun _ _ _ h => h) (Or.inl ⟨by rfl, ?ha10⟩) (Or.inr (by assumption)) ?ra10
            case ha10 => (intro w hSw; (try dsimp only at hSw); go_simp; try with_reducible rfl)
            case' ra10 => skip
            try simp only [Act.put, List.setIfInBounds_toArray, List.set_cons_zero, List.set_cons_succ]
            refine wpAnyG_pure (i := 11) (v := ?va11) at11 (by kernel_rfl) (fun _ _ _ h => h) (Or.inl ⟨by rfl, ?ha11⟩) (Or.inr (by assumption)) ?ra11
            case ha11 => (intro w hSw; (try dsimp only at hSw); go_simp; try with_reducible rfl)
            case' ra11 => skip
            try simp only [Act.put, List.setIfInBounds_toArray, List.set_cons_zero, List.set_cons_succ]
            refine wpAnyG_pure (i := 12) (v := ?va12) at12 (by kernel_rfl) (fun _ _ _ h => h) (Or.inl ⟨by rfl, ?ha12⟩) (Or.inr (by assumption)) ?ra12
            case ha12 => (intro w hSw; (try dsimp only at hSw); go_simp; try with_reducible rfl)
            case' ra12 => skip
            try simp only [Act.put, List.setIfInBounds_toArray, List.set_cons_zero, List.set_cons_succ]
            refine wpAnyG_take (ws := [9,13,19,25,26]) (i := 13) (v := ?va13) at13 (by kernel_rfl) (fun _ _ _ h => h) (Or.inl ⟨by rfl, ?ha13⟩) (by assumption) ?ra13
            case ha13 => (intro w hSw; (try dsimp only at hSw); go_simp; try with_reducible rfl)
            case' ra13 => skip
            try simp only [Act.put, List.setIfInBounds_toArray, List.set_cons_zero, List.set_cons_succ]
            refine wpAnyG_pure (i := 14) (v := ?va14) at14 (by kernel_rfl) (fun _ _ _ h => h) (Or.inl ⟨by rfl, ?ha14⟩) (Or.inr (by assumption)) ?ra14
            case ha14 => (intro w hSw; (try dsimp only at hSw); go_simp; try with_reducible rfl)
            case' ra14 => skip
            try simp only [Act.put, List.setIfInBounds_toArray, List.set_cons_zero, List.set_cons_succ]
            refine wpAnyG_pure (i := 15) (v := ?va15) at15 (by kernel_rfl) (fun _ _ _ h => h) (Or.inl ⟨by rfl, ?ha15⟩) (Or.inr (by assumption)) ?ra15
            case ha15 => (intro w hSw; (try dsimp only at hSw); go_simp; try with_reducible rfl)
            case' ra15 => skip
            try simp only [Act.put, List.setIfInBounds_toArray, List.set_cons_zero, List.set_cons_succ]
            refine wpAnyG_pure (i := 16) (v := ?va16) at16 (by kernel_rfl) (fun _ _ _ h => h) (Or.inl ⟨by rfl, ?ha16⟩) (Or.inr (by assumption)) ?ra16
            case ha16 => (intro w hSw; (try dsimp only at hSw); go_simp; try with_reducible rfl)
            case' ra16 => skip
            try simp only [Act.put, List.setIfInBounds_toArray, List.set_cons_zero, List.set_cons_succ]
            refine wpAnyG_pure (i := 17) (v := ?va17) at17 (by kernel_rfl) (fun _ _ _ h => h) (Or.inl ⟨by rfl, ?ha17⟩) (Or.inr (by assumption)) ?ra17
            case ha17 => (intro w hSw; (try dsimp only at hSw); go_simp; try with_reducible rfl)
            case' ra17 => skip
            try simp only [Act.put, List.setIfInBounds_toArray, List.set_cons_zero, List.set_cons_succ]
            refine wpAnyG_pure (i := 18) (v := ?va18) at18 (by kernel_rfl) (fun _ _ _ h => h) (Or.inl ⟨by rfl, ?ha18⟩) (Or.inr (by assumption)) ?ra18
            case ha18 => (intro w hSw; (try dsimp only at hSw); go_simp; try with_reducible rfl)
            case' ra18 => skip
            try simp only [Act.put, List.setIfInBounds_toArray, List.set_cons_zero, List.set_cons_succ]
            refine wpAnyG_take (ws := [9,13,19,25,26]) (i := 19) (v := ?va19) at19 (by kernel_rfl) (fun _ _ _ h => h) (Or.inl ⟨by rfl, ?ha19⟩) (by assumption) ?ra19
            case ha19 => (intro w hSw; (try dsimp only at hSw); go_simp; try with_reducible rfl)
            case' ra19 => skip
            try simp only [Act.put, List.setIfInBounds_toArray, List.set_cons_zero, List.set_cons_succ]
            refine wpAnyG_pure (i := 20) (v := ?va20) at20 (by kernel_rfl) (fun _ _ _ h => h) (Or.inl ⟨by rfl, ?ha20⟩) (Or.inr (by assumption)) ?ra20
            case ha20 => (intro w hSw; (try dsimp only at hSw); go_simp; try with_reducible rfl)
            case' ra20 => skip
            try simp only [Act.put, List.setIfInBounds_toArray, List.set_cons_zero, List.set_cons_succ]
            refine wpAnyG_pure (i := 21) (v := ?va21) at21 (by kernel_rfl) (fun _ _ _ h => h) (Or.inl ⟨by rfl, ?ha21⟩) (Or.inr (by assumption)) ?ra21
            case ha21 => (intro w hSw; (try dsimp only at hSw); go_simp; try with_reducible rfl)
            case' ra21 => skip
            try simp only [Act.put, List.setIfInBounds_toArray, List.set_cons_zero, List.set_cons_succ]
            refine wpAnyG_pure (i := 22) (v := ?va22) at22 (by kernel_rfl) (fun _ _ _ h => h) (Or.inl ⟨by rfl, ?ha22⟩) (Or.inr (by assumption)) ?ra22
            case ha22 => (intro w hSw; (try dsimp only at hSw); go_simp; try with_reducible rfl)
            case' ra22 => skip
            try simp only [Act.put, List.setIfInBounds_toArray, List.set_cons_zero, List.set_cons_succ]
            refine wpAnyG_pure (i := 23) (v := ?va23) at23 (by kernel_rfl) (fun _ _ _ h => h) (Or.inl ⟨by rfl, ?ha23⟩) (Or.inr (by assumption)) ?ra23
            case ha23 => (intro w hSw; (try dsimp only at hSw); go_simp; try with_reducible rfl)
            case' ra23 => skip
            try simp only [Act.put, List.setIfInBounds_toArray, List.set_cons_zero, List.set_cons_succ]
            refine wpAnyG_pure (i := 24) (v := ?va24) at24 (by kernel_rfl) (fun _ _ _ h => h) (Or.inl ⟨by rfl, ?ha24⟩) (Or.inr (by assumption)) ?ra24
            case ha24 => (intro w hSw; (try dsimp only at hSw); go_simp; try with_reducible rfl)
            case' ra24 => skip
            try simp only [Act.put, List.setIfInBounds_toArray, List.set_cons_zero, List.set_cons_succ]
            refine wpAnyG_take (ws := [9,13,19,25,26]) (i := 25) (v := ?va25) at25 (by kernel_rfl) (fun _ _ _ h => h) (Or.inl ⟨by rfl, ?ha25⟩) (by assumption) ?ra25
            case ha25 => (intro w hSw; (try dsimp only at hSw); go_simp; try with_reducible rfl)
            case' ra25 => skip
            try simp only [Act.put, List.setIfInBounds_toArray, List.set_cons_zero, List.set_cons_succ]
            refine wpAnyG_pure (i := 26) (v := ?va26) at26 (by kernel_rfl) (fun _ _ _ h => h) (Or.inl ⟨by rfl, ?ha26⟩) (Or.inr (by assumption)) ?ra26
            case ha26 => (intro w hSw; (try dsimp only at hSw); go_simp; try with_reducible rfl)
            case' ra26 => skip
            try simp only [Act.put, List.setIfInBounds_toArray, List.set_cons_zero, List.set_cons_succ]
            refine wpAnyG_one 27 at27 (by kernel_rfl) (fun Kn hK => ?_)
            go_simp
            refine hK.out _ _ (Or.inr (HSA.out _)) ?_
            clear hK Kn hS
            try simp only [Act.put, List.setIfInBounds_toArray, List.set_cons_zero, List.set_cons_succ]
            refine wpAnyG_one 28 at28 (by kernel_rfl) (fun Kn hK => ?_)
            refine step_append_run rfl _ _ _ rfl rfl rfl hrun ?_
            refine hK.out _ _ (Or.inr hS3) ?_
            clear hK Kn hrun
            try simp only [Act.put, List.setIfInBounds_toArray, List.set_cons_zero, List.set_cons_succ]
            have hS := hS3
            refine wpAnyG_pure (i := 29) (v := ?vb29) at29 (by kernel_rfl) (fun _ _ _ h => h) (Or.inl ⟨by rfl, ?hb29⟩) (Or.inr (by assumption)) ?rb29
            case hb29 => (intro w hSw; (try dsimp only at hSw); go_simp; try with_reducible rfl)
            case' rb29 => skip
            try simp only [Act.put, List.setIfInBounds_toArray, List.set_cons_zero, List.set_cons_succ]
            refine wpAnyG_pure (i := 30) (v := ?vb30) at30 (by kernel_rfl) (fun _ _ _ h => h) (Or.inl ⟨by rfl, ?hb30⟩) (Or.inr (by assumption)) ?rb30
            case hb30 => (intro w hSw; (try dsimp only at hSw); go_simp; try with_reducible rfl)
            case' rb30 => skip
            try simp only [Act.put, List.setIfInBounds_toArray, List.set_cons_zero, List.set_cons_succ]
            refine wpAnyG_pure (i := 31) (v := ?vb31) at31 (by kernel_rfl) (fun _ _ _ h => h) (Or.inl ⟨by rfl, ?hb31⟩) (Or.inr (by assumption)) ?rb31
            case hb31 => (intro w hSw; (try dsimp only at hSw); go_simp; try with_reducible rfl)
            case' rb31 => skip
            try simp only [Act.put, List.setIfInBounds_toArray, List.set_cons_zero, List.set_cons_succ]
            refine wpAnyG_one 32 at32 (by kernel_rfl) (fun Kn hK => ?_)
            go_simp
            refine hK.out _ _ (Or.inl (by kernel_rfl)) ?_
            clear hK Kn hS hS3 hf3
            refine wpAnyG_done (by kernel_rfl) ?_
            try simp only [Act.put, List.setIfInBounds_toArray, List.set_cons_zero, List.set_cons_succ]
            go_wp2_with fail
            go_roundg cnt1
            case rel => exact ⟨r2, _, _, HM.out⟩
            case measure => exact HC.out
end Go.Proofs.YtgacfkenndhcnaaDoor
namespace Go.Proofs.YtgacfkenndhcnaaDoor
open Go.RowKit
set_option linter.unusedVariables false
set_option linter.unusedSimpArgs false

structure ChA where
  kind : Int
  back : Int
  key : ByteArray
  bytes : ByteArray
structure StA where
  kind : Int
  who : ByteArray
  owner : ByteArray
  file : ByteArray
  user : ByteArray
  wt : Bool
  text : ByteArray
  n : Nat
  env : ChA
  data : ChA
  short : Bool
  cut : Int
  err : Int
  rtext : ByteArray
  vn : Value
  ver : Int
  epoch : Int
def cmdC (s : StA) : List Value := [.int .u8 s.kind, .string s.who, .string s.owner, .string s.file, .string s.user, .bool s.wt, .string s.text, .int .u64 s.n, .int .u8 s.env.kind, .int .i64 s.env.back, .string s.env.key, .string s.env.bytes, .int .u8 s.data.kind, .int .i64 s.data.back, .string s.data.key, .string s.data.bytes, .bool s.short, .int .i64 s.cut]
def stepC (s : StA) : List Value := cmdC s ++ [.int .i64 s.err, .string s.rtext, s.vn, .int .u64 s.ver, .int .i64 s.epoch]
/-! ### the first one in a row -/
def idxJ {α : Type} (p : α → Bool) (l : List α) : Int := match l.findIdx? p with
  | some i => i
  | none => -1
theorem take_any_succ {α : Type} {p : α → Bool} {l : List α} {k : Nat} {x : α} (h : l[k]? = some x) : (l.take (k + 1)).any p = ((l.take k).any p || p x) := by rw [List.take_add_one, h]; simp
theorem findIdx_at {α : Type} {p : α → Bool} {l : List α} {k : Nat} {x : α} (h : l[k]? = some x) (h0 : (l.take k).any p = false) (hp : p x = true) : l.findIdx? p = some k := by
  rw [List.findIdx?_eq_some_iff_getElem]
  obtain ⟨hlt, hx⟩ := List.getElem?_eq_some_iff.1 h
  refine ⟨hlt, by rw [hx]; exact hp, fun j hj => ?_⟩
  exact List.any_eq_false.1 h0 l[j] (by
    rw [List.mem_iff_getElem?]
    exact ⟨j, by rw [List.getElem?_take_of_lt hj]; exact List.getElem?_eq_getElem _⟩)
theorem findIdx_no {α : Type} {p : α → Bool} {l : List α} (h : l.any p = false) : l.findIdx? p = none := by
  rw [List.findIdx?_eq_none_iff]
  intro x hx
  exact Bool.eq_false_iff.2 (List.any_eq_false.1 h x hx)
theorem idxJ_any {α : Type} (p : α → Bool) (l : List α) : decide (0 ≤ idxJ p l) = l.any p := by
  unfold idxJ
  cases h : l.findIdx? p with
  | none =>
    have := List.findIdx?_eq_none_iff.1 h
    have h2 : l.any p = false := List.any_eq_false.2 fun x hx => by rw [this x hx]; simp
    rw [h2]; rfl
  | some i =>
    obtain ⟨hlt, hp, _⟩ := List.findIdx?_eq_some_iff_getElem.1 h
    have h2 : l.any p = true := List.any_eq_true.2 ⟨_, List.getElem_mem hlt, hp⟩
    rw [h2]; simp
/-- marks, somewhere -/
theorem rows_flat {α : Type} {f : α → List Value} {k : Nat} (hf : ∀ x, (f x).length = k) {w : World} {base : Nat} {e : TypeId} {v : Value} {l : List α} (h : w.ownsRow base e k v l.length (l.flatMap f)) : rowsOf k f w v l := by
  rcases h.2 with ⟨rfl, h0⟩ | ⟨g, cap, cur, rfl, hb, hg, hnc, hcm, hcs, htake⟩
  · have : l = [] := List.eq_nil_of_length_eq_zero h0
    subst this; exact ⟨none, 0, rfl, Nat.le_refl _, by simp, fun h => absurd h (Nat.lt_irrefl 0)⟩
  · refine ⟨_, cap, rfl, hnc, by unfold maxLen at hcm; omega, fun h0 => ⟨g, 0, rfl, fun i x hx j u hu => ?_⟩⟩
    have hj : j < k := by have := (List.getElem?_eq_some_iff.1 hu).1; rw [hf] at this; exact this
    rw [Nat.zero_add, cell_of_row w g _ cur e (0, 0) hg]
    have h1 : (l.flatMap f)[i * k + j]? = some u := (flat_get hf hx hj).trans hu
    rw [← htake, List.getElem?_take] at h1
    split at h1
    · simpa using h1
    · cases h1
theorem markRow_cells {w : World} {v : Value} {l : List MarkM} (h : rowsOf 7 markV w v l) {i : Nat} {x : MarkM} (hx : l[i]? = some x) : ∃ b off c, v = .slice (some ⟨b, off, none⟩) l.length c ∧ w.cell? ⟨b, off + i * 7, none⟩ = some (.int .u64 x.m.t) ∧ w.cell? ⟨b, off + i * 7 + 1, none⟩ = some (.int .u64 x.m.v) ∧ w.cell? ⟨b, off + i * 7 + 2, none⟩ = some (.string x.m.r.owner) ∧ w.cell? ⟨b, off + i * 7 + 3, none⟩ = some (.string x.m.r.file) ∧ w.cell? ⟨b, off + i * 7 + 4, none⟩ = some (.int .i64 x.m.r.epoch) ∧ w.cell? ⟨b, off + i * 7 + 5, none⟩ = some x.vr ∧ w.cell? ⟨b, off + i * 7 + 6, none⟩ = some x.vw := by
  obtain ⟨A, c, rfl, h1, h2, h3⟩ := h
  obtain ⟨b, off, rfl, hc⟩ := h3 (by have := (List.getElem?_eq_some_iff.1 hx).1; omega)
  exact ⟨b, off, c, rfl, hc i x hx 0 _ rfl, hc i x hx 1 _ rfl, hc i x hx 2 _ rfl, hc i x hx 3 _ rfl, hc i x hx 4 _ rfl, hc i x hx 5 _ rfl, hc i x hx 6 _ rfl⟩
def markA (x : MarkM) : Value := .agg #[.int .u64 x.m.t, .int .u64 x.m.v, .string x.m.r.owner, .string x.m.r.file, .int .i64 x.m.r.epoch, x.vr, x.vw]
set_option maxRecDepth 100000 in
set_option maxHeartbeats 1000000 in
theorem idxMark_calls (K : FuncId) (hF : ∀ args w, (callFunc K args).run Tryd.prog w = .ok (.enter K args) w) (cp : Value) (p : MarkM → Bool) (w : World) (v : Value) (l : List MarkM) (hv : rowsOf 7 markV w v l) (hK : ∀ x ∈ l, ∀ wr, Below w.heap.size w wr → Calls Tryd.prog K #[markA x, cp] wr fun e w' => e = .returned (.bool (p x)) ∧ Below wr.heap.size wr w') :
    Calls Tryd.prog 39 #[v, .func (.func K) #[] #[cp]] w fun e w' => e = .returned (.int .i64 (idxJ p l)) ∧ Below w.heap.size w w' := by
  have HV := Lib.hid hv
  have HC := Lib.hid hK
  obtain ⟨A, c, rfl, h1, h2, _⟩ := id hv
  clear hv hK
  go_enter Tryd.func39, Tryd.ntmps39
  go_wp2_with fail
  go_loopw [5, 8] (fun j i wr => ∃ k : Nat, k ≤ l.length ∧ i = .int .i64 k ∧ Hid ((l.take k).any p = false ∧ Below w.heap.size w wr)) (fun _ i _ => l.length - (intOf i).toNat)
  case atStart => exact ⟨0, Nat.zero_le _, rfl, by simp, Below.refl _ _⟩
  case round =>
    obtain ⟨k, hk, rfl, HO⟩ := hrel
    by_cases hlt : k < l.length
    · obtain ⟨x, hx⟩ : ∃ x, l[k]? = some x := ⟨_, List.getElem?_eq_getElem hlt⟩
      obtain ⟨bb, off, c', hv', c0, c1, c2, c3, c4, c5, c6⟩ := markRow_cells (HV.out.below HO.out.2) hx
      cases hv'
      have hp := HC.out x (List.mem_of_getElem? hx) wr HO.out.2
      dsimp only [markA] at hp
      have HX := Lib.hid hx
      cases hd : p x with
      | true =>
        rw [hd] at hp
        have HP := Lib.hid hp
        have HE : Hid (idxJ p l = k) := Lib.hid (by unfold idxJ; rw [findIdx_at hx HO.out.1 hd])
        clear hx hp hd
        go_wp2_with fail
        refine HP.out.mono ?_
        rintro e w2 ⟨rfl, hb⟩
        have HB2 := Lib.hid (HO.out.2.trans (hb.mono HO.out.2.size))
        clear hb
        go_wp2_with fail
        go_ret
        exact ⟨by rw [HE.out]; rfl, HB2.out⟩
      | false =>
        rw [hd] at hp
        have HP := Lib.hid hp
        have HN : Hid ((l.take (k + 1)).any p = false) := Lib.hid (by rw [take_any_succ hx, HO.out.1, hd]; rfl)
        clear hx hp hd
        go_wp2_with fail
        refine HP.out.mono ?_
        rintro e w2 ⟨rfl, hb⟩
        have HB2 := Lib.hid (HO.out.2.trans (hb.mono HO.out.2.size))
        clear hb
        go_wp2_with fail
        go_roundw
        case rel => exact ⟨k + 1, by omega, by go_num, HN.out, HB2.out⟩
        case measure => simp [intOf]; omega
    · obtain rfl : k = l.length := by omega
      have HE : Hid (idxJ p l = -1) := Lib.hid (by unfold idxJ; rw [findIdx_no (by have := HO.out.1; rwa [List.take_length] at this)])
      go_wp2_with fail
      go_ret
      exact ⟨by rw [HE.out]; rfl, HO.out.2⟩
theorem anyMark_calls (K : FuncId) (hF : ∀ args w, (callFunc K args).run Tryd.prog w = .ok (.enter K args) w) (cp : Value) (p : MarkM → Bool) (w : World) (v : Value) (l : List MarkM) (hv : rowsOf 7 markV w v l) (hK : ∀ x ∈ l, ∀ wr, Below w.heap.size w wr → Calls Tryd.prog K #[markA x, cp] wr fun e w' => e = .returned (.bool (p x)) ∧ Below wr.heap.size wr w') :
    Calls Tryd.prog 22 #[v, .func (.func K) #[] #[cp]] w fun e w' => e = .returned (.bool (l.any p)) ∧ Below w.heap.size w w' := by
  have h := idxMark_calls K hF cp p w v l hv hK
  have hq := idxJ_any p l
  obtain ⟨i, hi⟩ : ∃ i, idxJ p l = i := ⟨_, rfl⟩
  rw [hi] at h hq
  obtain ⟨b, hb⟩ : ∃ b, l.any p = b := ⟨_, rfl⟩
  rw [hb] at hq ⊢
  have H := Lib.hid h
  have HQ := Lib.hid hq
  clear h hv hK hi hb hq
  go_enter Tryd.func22, Tryd.ntmps22
  go_wp2_with fail
  refine H.out.mono ?_
  rintro e w1 ⟨rfl, hb⟩
  have HB := Lib.hid hb
  clear hb
  go_wp2_with fail
  go_ret
  exact ⟨by rw [← HQ.out]; rfl, HB.out⟩
theorem of1_calls (x : MarkM) (V : Int) (b : Nat) (w : World) (hc : w.cell? ⟨b, 21, none⟩ = some (.int .u64 V)) : Calls Tryd.prog 34 #[markA x, .pointer (some ⟨b, 0, none⟩)] w fun e w' => e = .returned (.bool (decide (x.m.v = V))) ∧ Below w.heap.size w w' := by
  obtain ⟨⟨t, v, r⟩, vr, vw⟩ := x
  have hbl : b < w.heap.size := World.block_lt_of_cell? w _ hc
  have hq : decide (v = V) = (v == V) := by rw [Bool.eq_iff_iff, decide_eq_true_eq, beq_iff_eq]
  unfold markA
  dsimp only
  rw [hq]
  clear hq
  go_enter Tryd.func34, Tryd.ntmps34
  go_wp2
  go_ret
  exact ⟨rfl, (Below.refl _ w).alloc (Nat.le_refl _) _⟩
end Go.Proofs.YtgacfkenndhcnaaDoor
