/- law 8: as, and document 8's Same, of what is the same. -/
import Derived.Test.YtckblcfkajpofaaGreatDoorZSm
import Derived.Test.YtckblcfkajpofaaGreatDoorZC3
import Derived.Test.YtckblcfkajpofaaGreatDoorZC2
namespace Go.Proofs.YtckblcfkajpofaaGreatDoor
open Go.RowKit Go.Sort
set_option linter.unusedVariables false
set_option linter.unusedSimpArgs false

theorem info_mt8 : (Tryz.prog.info? 50).map (·.size) = some 9 := by kernel_rfl
theorem info_blk8 : (Tryz.prog.info? 198).map (fun i => (i.zero, i.size, i.bytes)) = some (some (.agg #[.string ⟨#[]⟩, .string ⟨#[]⟩]), 2, 32) := by kernel_rfl
def zero8 : Array Value := #[.string ⟨#[]⟩, .string ⟨#[]⟩, .int .i64 0, .slice none 0 0, .slice none 0 0, .int .u64 0, .slice none 0 0, .slice none 0 0, .string ⟨#[]⟩]
structure AsSt (w wr : World) (m : Mt) (vr vw vv vb : Value) (o : List (ByteArray × ByteArray)) (vq : Value) : Prop where
  hp : wr.heap[w.heap.size]? = some (.cells (mtCells m vr vw vv vb) 42 (0, 0))
  hr : wr.heap[w.heap.size + 1]? = some (.cells zero8 50 (0, 0))
  hz : wr.heap[w.heap.size + 2]? = some (.cells (mtCells m vr vw vv vq) 50 (0, 0))
  own : wr.ownsRow (w.heap.size + 3) 198 2 vq o.length (pairV o)
  below : Below w.heap.size w wr
  zb : w.heap.size + 3 ≤ wr.heap.size
theorem AsSt.next {w wr w' : World} {m : Mt} {vr vw vv vb vq : Value} {o : List (ByteArray × ByteArray)} (h : AsSt w wr m vr vw vv vb o vq) (k : Below wr.heap.size wr w') : AsSt w w' m vr vw vv vb o vq :=
  ⟨(Keep.of_below k : Keep (fun _ => False) wr w').at h.hp fun e => e, (Keep.of_below k : Keep (fun _ => False) wr w').at h.hr fun e => e, (Keep.of_below k : Keep (fun _ => False) wr w').at h.hz fun e => e, own_below h.own k, h.below.trans (k.mono h.below.size), Nat.le_trans h.zb k.size⟩
theorem AsSt.push {w wr w' : World} {m : Mt} {vr vw vv vb vq v' : Value} {o o' : List (ByteArray × ByteArray)} (h : AsSt w wr m vr vw vv vb o vq) (k : Keep (fun i => vq.ownBlock = some i) wr w') (ho : w'.ownsRow (w.heap.size + 3) 198 2 v' o'.length (pairV o')) :
    w'.heap[w.heap.size + 2]? = some (.cells (mtCells m vr vw vv vq) 50 (0, 0)) ∧ AsSt w (w'.setCell ⟨w.heap.size + 2, 7, none⟩ v') m vr vw vv vb o' v' := by
  have hn : ∀ g, g < w.heap.size + 3 → ¬ vq.ownBlock = some g := fun g hg e => by have := own_new h.own g e; omega
  have k2 : Keep (fun i => i = w.heap.size + 2) w' (w'.setCell ⟨w.heap.size + 2, 7, none⟩ v') := Keep.setCell (fun i => i = w.heap.size + 2) w' (p := ⟨w.heap.size + 2, 7, none⟩) rfl _
  have hz := k.at h.hz (hn _ (by omega))
  refine ⟨hz, k2.at (k.at h.hp (hn _ (by omega))) (by omega), k2.at (k.at h.hr (hn _ (by omega))) (by omega), ?_, k2.own ho (fun g hg e => by have := own_new ho g hg; omega), ?_, Nat.le_trans h.zb (Nat.le_trans k.size k2.size)⟩
  · rw [set_at hz]; rfl
  · exact (((Keep.of_below h.below : Keep (fun i => w.heap.size ≤ i) w wr).same (k.mono fun i hi => by have := own_new h.own i hi; omega)).same (k2.mono fun i hi => by have e : i = w.heap.size + 2 := hi; omega)).new
theorem below_drew {B : Nat} {w x : World} (_ : Below B w x) : Below x.heap.size x x.drew := (Below.refl _ x).drew
theorem cell_lt {w : World} {a : Addr} {v : Value} (h : w.cell? a = some v) : a.block < w.heap.size := by
  by_cases hl : a.block < w.heap.size
  · exact hl
  · rw [World.cell?, Array.getElem?_eq_none (by omega)] at h
    cases h
set_option maxRecDepth 100000 in
set_option maxHeartbeats 4000000 in
theorem as8_calls (w : World) (m : Mt) (vr vw vv vb : Value) (h : MLists w m vr vw vv vb) (hn : m.bl.length ≤ 1000) :
    Calls Tryz.prog 55 #[agM m vr vw vv vb] w fun e w' => (∃ vq, e = .returned (agM m vr vw vv vq) ∧ w'.ownsRow w.heap.size 198 2 vq m.bl.length (pairV m.bl)) ∧ Below w.heap.size w w' := by
  obtain ⟨A, ca, rfl, _, _⟩ := h.rt.rd.form
  obtain ⟨C, cb, rfl, _, _⟩ := h.rt.wr.form
  obtain ⟨D, cd, rfl, _, _⟩ := h.vf.form
  obtain ⟨E, ce, rfl, _, _⟩ := h.bl.form
  obtain ⟨ow, hO⟩ : ∃ x, m.r.owner = x := ⟨_, rfl⟩
  obtain ⟨fi, hF⟩ : ∃ x, m.r.file = x := ⟨_, rfl⟩
  obtain ⟨ep, hE⟩ : ∃ x, m.r.epoch = x := ⟨_, rfl⟩
  obtain ⟨n1, h1⟩ : ∃ x, m.r.rd.length = x := ⟨_, rfl⟩
  obtain ⟨n2, h2⟩ : ∃ x, m.r.wr.length = x := ⟨_, rfl⟩
  obtain ⟨n3, h3⟩ : ∃ x, m.vf.length = x := ⟨_, rfl⟩
  obtain ⟨n, h4⟩ : ∃ x, m.bl.length = x := ⟨_, rfl⟩
  obtain ⟨vn, h5⟩ : ∃ x, m.ver = x := ⟨_, rfl⟩
  obtain ⟨sg, h6⟩ : ∃ x, m.sig = x := ⟨_, rfl⟩
  rw [h1, h2, h3, h4]
  obtain ⟨vr, hvr⟩ : ∃ v, Value.slice A n1 ca = v := ⟨_, rfl⟩
  obtain ⟨vw, hvw⟩ : ∃ v, Value.slice C n2 cb = v := ⟨_, rfl⟩
  obtain ⟨vv, hvv⟩ : ∃ v, Value.slice D n3 cd = v := ⟨_, rfl⟩
  have HC : Hid (∀ a b c d, mtCells m a b c d = #[.string ow, .string fi, .int .i64 ep, a, b, .int .u64 vn, c, d, .string sg]) := Lib.hid (fun a b c d => by unfold mtCells; rw [hO, hF, hE, h5, h6])
  unfold agM
  rw [hO, hF, hE, h5, h6]
  have HN := Lib.hid (And.intro h4 hn)
  have HBL := Lib.hid h.bl
  rw [h4] at HBL
  obtain ⟨W, hW⟩ : ∃ W, (w.alloc (.cells #[.string ow, .string fi, .int .i64 ep, .slice A n1 ca, .slice C n2 cb, .int .u64 vn, .slice D n3 cd, .slice E n ce, .string sg] 42)).alloc (.cells #[.string ⟨#[]⟩, .string ⟨#[]⟩, .int .i64 0, .slice none 0 0, .slice none 0 0, .int .u64 0, .slice none 0 0, .slice none 0 0, .string ⟨#[]⟩] 50) = W := ⟨_, rfl⟩
  have hb : Below w.heap.size w W := by rw [← hW]; exact ((Below.refl _ w).alloc (Nat.le_refl _) _).alloc (by simp [size_alloc]) _
  have hsz : W.heap.size = w.heap.size + 2 := by rw [← hW]; simp [size_alloc]
  have hr0 : W.heap[w.heap.size]? = some (.cells #[.string ow, .string fi, .int .i64 ep, .slice A n1 ca, .slice C n2 cb, .int .u64 vn, .slice D n3 cd, .slice E n ce, .string sg] 42 (0, 0)) := by rw [← hW, get_alloc, if_neg (by simp [size_alloc]), get_alloc, if_pos rfl]
  have hr1 : W.heap[w.heap.size + 1]? = some (.cells zero8 50 (0, 0)) := by rw [← hW, get_alloc, if_pos (by simp [size_alloc])]; rfl
  have HB := Lib.hid hb
  have HR0 := Lib.hid hr0
  have HR1 := Lib.hid hr1
  have HSZ := Lib.hid hsz
  obtain ⟨c0, c1, c2, c3, c4, c5, c6, c7, c8⟩ := row9 hr0
  clear hb hr0 hr1 h hsz h1 h2 h3 h4 h5 h6 hO hF hE hn hvr hvw hvv
  go_enter Tryz.func55, Tryz.ntmps55
  go_wp2_with (with_reducible refine wp_stop_store (o := ⟨none, .store _ (.tmp 3) _, _, _, _, _⟩) _ _ _ rfl ?_)
  unfold Stop
  refine wp_store_all rfl _ _ _ rfl rfl rfl _ _ ((get_alloc _ _ _).trans (if_pos rfl)) info_mt8 rfl (by simp [Value.oneCell']) ?_
  intro w3 h3 k3 s3
  rw [HSZ.out] at h3 k3 ⊢
  have HK : Hid (AsSt w w3 m (.slice A n1 ca) (.slice C n2 cb) (.slice D n3 cd) (.slice E n ce) [] (.slice none 0 0)) := Lib.hid (by
    have ka : Keep (fun _ => False) W (W.alloc (.cells #[.string ⟨#[]⟩, .string ⟨#[]⟩, .int .i64 0, .slice none 0 0, .slice none 0 0, .int .u64 0, .slice none 0 0, .slice none 0 0, .string ⟨#[]⟩] 50)) := Keep.alloc _ _ _
    refine ⟨?_, k3.at (ka.at HR1.out fun e => e) (by omega), ?_, World.ownsRow_nil _ _ _ _, below_at (HB.out.alloc (by rw [HSZ.out]; omega) _) k3 (by omega), ?_⟩
    · rw [HC.out]; exact k3.at (ka.at HR0.out fun e => e) (by omega)
    · rw [HC.out]; exact h3
    · have := (Array.getElem?_eq_some_iff.1 h3).1; omega)
  have hfz : w3.frozen? ⟨w.heap.size + 2, 7, none⟩ = false := frozen_of_row h3 7
  clear c0 c1 c2 c3 c4 c5 c6 c7 c8 h3 k3 s3 hW hfz
  obtain ⟨PA, hPA⟩ : ∃ p, w.heap.size = p := ⟨_, rfl⟩
  obtain ⟨PR, hPR⟩ : ∃ p, w.heap.size + 1 = p := ⟨_, rfl⟩
  obtain ⟨PZ, hPZ⟩ : ∃ p, w.heap.size + 2 = p := ⟨_, rfl⟩
  have HP := Lib.hid (And.intro hPA (And.intro hPR hPZ))
  rw [hPZ, hPR, hPA]
  clear hPR hPZ hPA
  go_wp2_with fail
  go_loopw [4] (fun i wr => ∃ (k : Nat) (o : List (ByteArray × ByteArray)) (vq : Value), k ≤ n ∧ i = .int .i64 k ∧ o.length = k ∧ Hid (o = m.bl.take k) ∧ Hid (AsSt w wr m (.slice A n1 ca) (.slice C n2 cb) (.slice D n3 cd) (.slice E n ce) o vq)) (fun i _ => n - (intOf i).toNat)
  case atStart => exact ⟨0, [], .slice none 0 0, Nat.zero_le _, rfl, rfl, Lib.hid rfl, HK⟩
  case round =>
    obtain ⟨k, o, vq, hk, rfl, hol, HE, HK⟩ := hrel
    obtain ⟨Q, cq, rfl, _, _⟩ := own_slice HK.out.own
    have hp := HK.out.hp
    have hz := HK.out.hz
    rw [HC.out, HP.out.1] at hp
    rw [HC.out, HP.out.2.2, hol] at hz
    have k7 := (row9 hp).2.2.2.2.2.2.2.1
    by_cases hlt : k < n
    · obtain ⟨⟨X, Y⟩, hx⟩ : ∃ x, m.bl[k]? = some x := ⟨_, List.getElem?_eq_getElem (by rw [HN.out.1]; exact hlt)⟩
      have hnk := HN.out.2
      rw [HN.out.1] at hnk
      obtain ⟨ge, oe, ce', e1, _, _, hc1, hc2⟩ := (HBL.out.below HK.out.below).cell2 hx
      obtain ⟨rfl, rfl⟩ : E = some ⟨ge, oe, none⟩ ∧ ce = ce' := by cases e1; exact ⟨rfl, rfl⟩
      dsimp only at hc1 hc2
      clear e1
      have HE2 : Hid (o ++ [(X, Y)] = m.bl.take (k + 1)) := Lib.hid (by rw [HE.out, List.take_add_one, hx]; rfl)
      have HX := Lib.hid hx
      clear hx
      go_wp2_with fail
      have HKd := Lib.hid (HK.out.next (Below.refl _ wr).drew)
      obtain ⟨wd, hwd⟩ : ∃ x, wr.drew = x := ⟨_, rfl⟩
      have hgl : wr.cell? ⟨PZ, 7, none⟩ = some (.slice Q k cq) := (row9 hz).2.2.2.2.2.2.2.1
      have hS : (fun W : World => W.cell? ⟨PZ, 7, none⟩ = some (.slice Q k cq) ∧ W.cell? ⟨PA, 7, none⟩ = some (.slice (some ⟨ge, oe, none⟩) n ce) ∧ W.cell? ⟨ge, oe + k * 2, none⟩ = some (.string X) ∧ W.cell? ⟨ge, oe + k * 2 + 1, none⟩ = some (.string Y)) wr.drew := ⟨hgl, k7, hc1, hc2⟩
      have hge : ge < w.heap.size := by
        obtain ⟨ge2, oe2, ce2, e2, _, _, hd1, _⟩ := HBL.out.cell2 HX.out
        obtain ⟨rfl, rfl⟩ : ge = ge2 ∧ oe = oe2 := by cases e2; exact ⟨rfl, rfl⟩
        exact cell_lt hd1
      refine wp_region_G (fun W : World => W.cell? ⟨PZ, 7, none⟩ = some (.slice Q k cq) ∧ W.cell? ⟨PA, 7, none⟩ = some (.slice (some ⟨ge, oe, none⟩) n ce) ∧ W.cell? ⟨ge, oe + k * 2, none⟩ = some (.string X) ∧ W.cell? ⟨ge, oe + k * 2 + 1, none⟩ = some (.string Y)) [18] (by kernel_rfl) ?_
      rw [hwd] at HKd hS ⊢
      obtain ⟨v', w13, hrun, ho13, hk13, hn13⟩ := append_pair Tryz.underlying48 info_blk8 HKd.out.own (X, Y) (by omega) HKd.out.zb
      obtain ⟨A', c', rfl, _, _⟩ := own_slice ho13
      have hpush := HKd.out.push hk13 ho13
      rw [HP.out.2.2] at hpush
      have hnb : ∀ g, g < w.heap.size + 3 → ¬ (Value.slice Q o.length cq).ownBlock = some g := fun g hg e => by have := own_new HKd.out.own g e; omega
      have hpz : PZ < w.heap.size + 3 ∧ PA < w.heap.size + 3 := by have := HP.out; omega
      have hS13 : w13.cell? ⟨PZ, 7, none⟩ = some (.slice Q k cq) ∧ w13.cell? ⟨PA, 7, none⟩ = some (.slice (some ⟨ge, oe, none⟩) n ce) ∧ w13.cell? ⟨ge, oe + k * 2, none⟩ = some (.string X) ∧ w13.cell? ⟨ge, oe + k * 2 + 1, none⟩ = some (.string Y) := ⟨hk13.cell hS.1 (hnb _ hpz.1), hk13.cell hS.2.1 (hnb _ hpz.2), hk13.cell hS.2.2.1 (hnb _ (by show ge < _; omega)), hk13.cell hS.2.2.2 (hnb _ (by show ge < _; omega))⟩
      have hSa : ∀ ob, ((wd.alloc ob).cell? ⟨PZ, 7, none⟩ = some (.slice Q k cq) ∧ (wd.alloc ob).cell? ⟨PA, 7, none⟩ = some (.slice (some ⟨ge, oe, none⟩) n ce) ∧ (wd.alloc ob).cell? ⟨ge, oe + k * 2, none⟩ = some (.string X) ∧ (wd.alloc ob).cell? ⟨ge, oe + k * 2 + 1, none⟩ = some (.string Y)) := fun ob => ⟨(Keep.alloc (fun _ => False) wd ob).cell hS.1 fun e => e, (Keep.alloc (fun _ => False) wd ob).cell hS.2.1 fun e => e, (Keep.alloc (fun _ => False) wd ob).cell hS.2.2.1 fun e => e, (Keep.alloc (fun _ => False) wd ob).cell hS.2.2.2 fun e => e⟩
      have hf13 := frozen_of_row hpush.1 7
      have HPU := Lib.hid hpush.2
      have HSA := Lib.hid hSa
      dsimp only at hrun
      obtain ⟨pl, hpl⟩ : ∃ pl, (o ++ [(X, Y)]).length = pl := ⟨_, rfl⟩
      have hpl2 : pl = k + 1 := by rw [← hpl, List.length_append, hol]; rfl
      rw [hpl] at hrun HPU
      subst hpl2
      have HPLX := Lib.hid hpl
      rw [hol] at hrun
      clear hpush ho13 hk13 hn13 hSa hpl hnb hpz hge hc1 hc2 k7 hp hz hgl
      refine wpAnyG_pure (i := 0) (v := ?va0) at0 (by kernel_rfl) (fun _ _ _ h => h) (Or.inl ⟨by rfl, ?ha0⟩) (Or.inr (by assumption)) ?ra0
      case ha0 => (intro w hSw; (try dsimp only at hSw); go_simp; try with_reducible rfl)
      case' ra0 => skip
      try simp only [Act.put, List.setIfInBounds_toArray, List.set_cons_zero, List.set_cons_succ]
      refine wpAnyG_take (ws := [1,3,5,7,9,11,13,14]) (i := 1) (v := ?va1) at1 (by kernel_rfl) (fun _ _ _ h => h) (Or.inl ⟨by rfl, ?ha1⟩) (by assumption) ?ra1
      case ha1 => (intro w hSw; (try dsimp only at hSw); go_simp; try with_reducible rfl)
      case' ra1 => skip
      try simp only [Act.put, List.setIfInBounds_toArray, List.set_cons_zero, List.set_cons_succ]
      refine wpAnyG_pure (i := 2) (v := ?va2) at2 (by kernel_rfl) (fun _ _ _ h => h) (Or.inl ⟨by rfl, ?ha2⟩) (Or.inr (by assumption)) ?ra2
      case ha2 => (intro w hSw; (try dsimp only at hSw); go_simp; try with_reducible rfl)
      case' ra2 => skip
      try simp only [Act.put, List.setIfInBounds_toArray, List.set_cons_zero, List.set_cons_succ]
      refine wpAnyG_take (ws := [1,3,5,7,9,11,13,14]) (i := 3) (v := ?va3) at3 (by kernel_rfl) (fun _ _ _ h => h) (Or.inl ⟨by rfl, ?ha3⟩) (by assumption) ?ra3
      case ha3 => (intro w hSw; (try dsimp only at hSw); go_simp; try with_reducible rfl)
      case' ra3 => skip
      try simp only [Act.put, List.setIfInBounds_toArray, List.set_cons_zero, List.set_cons_succ]
      refine wpAnyG_pure (i := 4) (v := ?va4) at4 (by kernel_rfl) (fun _ _ _ h => h) (Or.inl ⟨by rfl, ?ha4⟩) (Or.inr (by assumption)) ?ra4
      case ha4 => (intro w hSw; (try dsimp only at hSw); go_simp; try with_reducible rfl)
      case' ra4 => skip
      try simp only [Act.put, List.setIfInBounds_toArray, List.set_cons_zero, List.set_cons_succ]
      refine wpAnyG_pure (i := 5) (v := ?va5) at5 (by kernel_rfl) (fun _ _ _ h => h) (Or.inl ⟨by rfl, ?ha5⟩) (Or.inr (by assumption)) ?ra5
      case ha5 => (intro w hSw; (try dsimp only at hSw); go_simp; try with_reducible rfl)
      case' ra5 => skip
      try simp only [Act.put, List.setIfInBounds_toArray, List.set_cons_zero, List.set_cons_succ]
      refine wpAnyG_pure (i := 6) (v := ?va6) at6 (by kernel_rfl) (fun _ _ _ h => h) (Or.inl ⟨by rfl, ?ha6⟩) (Or.inr (by assumption)) ?ra6
      case ha6 => (intro w hSw; (try dsimp only at hSw); go_simp; try with_reducible rfl)
      case' ra6 => skip
      try simp only [Act.put, List.setIfInBounds_toArray, List.set_cons_zero, List.set_cons_succ]
      refine wpAnyG_take (ws := [1,3,5,7,9,11,13,14]) (i := 7) (v := ?va7) at7 (by kernel_rfl) (fun _ _ _ h => h) (Or.inl ⟨by rfl, ?ha7⟩) (by assumption) ?ra7
      case ha7 => (intro w hSw; (try dsimp only at hSw); go_simp; try with_reducible rfl)
      case' ra7 => skip
      try simp only [Act.put, List.setIfInBounds_toArray, List.set_cons_zero, List.set_cons_succ]
      refine wpAnyG_pure (i := 8) (v := ?va8) at8 (by kernel_rfl) (fun _ _ _ h => h) (Or.inl ⟨by rfl, ?ha8⟩) (Or.inr (by assumption)) ?ra8
      case ha8 => (intro w hSw; (try dsimp only at hSw); go_simp; try with_reducible rfl)
      case' ra8 => skip
      try simp only [Act.put, List.setIfInBounds_toArray, List.set_cons_zero, List.set_cons_succ]
      refine wpAnyG_take (ws := [1,3,5,7,9,11,13,14]) (i := 9) (v := ?va9) at9 (by kernel_rfl) (fun _ _ _ h => h) (Or.inl ⟨by rfl, ?ha9⟩) (by assumption) ?ra9
      case ha9 => (intro w hSw; (try dsimp only at hSw); go_simp; try with_reducible rfl)
      case' ra9 => skip
      try simp only [Act.put, List.setIfInBounds_toArray, List.set_cons_zero, List.set_cons_succ]
      refine wpAnyG_pure (i := 10) (v := ?va10) at10 (by kernel_rfl) (fun _ _ _ h => h) (Or.inl ⟨by rfl, ?ha10⟩) (Or.inr (by assumption)) ?ra10
      case ha10 => (intro w hSw; (try dsimp only at hSw); go_simp; try with_reducible rfl)
      case' ra10 => skip
      try simp only [Act.put, List.setIfInBounds_toArray, List.set_cons_zero, List.set_cons_succ]
      refine wpAnyG_pure (i := 11) (v := ?va11) at11 (by kernel_rfl) (fun _ _ _ h => h) (Or.inl ⟨by rfl, ?ha11⟩) (Or.inr (by assumption)) ?ra11
      case ha11 => (intro w hSw; (try dsimp only at hSw); go_simp; try with_reducible rfl)
      case' ra11 => skip
      try simp only [Act.put, List.setIfInBounds_toArray, List.set_cons_zero, List.set_cons_succ]
      refine wpAnyG_pure (i := 12) (v := ?va12) at12 (by kernel_rfl) (fun _ _ _ h => h) (Or.inl ⟨by rfl, ?ha12⟩) (Or.inr (by assumption)) ?ra12
      case ha12 => (intro w hSw; (try dsimp only at hSw); go_simp; try with_reducible rfl)
      case' ra12 => skip
      try simp only [Act.put, List.setIfInBounds_toArray, List.set_cons_zero, List.set_cons_succ]
      refine wpAnyG_take (ws := [1,3,5,7,9,11,13,14]) (i := 13) (v := ?va13) at13 (by kernel_rfl) (fun _ _ _ h => h) (Or.inl ⟨by rfl, ?ha13⟩) (by assumption) ?ra13
      case ha13 => (intro w hSw; (try dsimp only at hSw); go_simp; try with_reducible rfl)
      case' ra13 => skip
      try simp only [Act.put, List.setIfInBounds_toArray, List.set_cons_zero, List.set_cons_succ]
      refine wpAnyG_pure (i := 14) (v := ?va14) at14 (by kernel_rfl) (fun _ _ _ h => h) (Or.inl ⟨by rfl, ?ha14⟩) (Or.inr (by assumption)) ?ra14
      case ha14 => (intro w hSw; (try dsimp only at hSw); go_simp; try with_reducible rfl)
      case' ra14 => skip
      try simp only [Act.put, List.setIfInBounds_toArray, List.set_cons_zero, List.set_cons_succ]
      refine wpAnyG_one 15 at15 (by kernel_rfl) (fun Kn hK => ?_)
      go_simp
      refine hK.out _ _ (Or.inr (HSA.out _)) ?_
      clear hK Kn hS
      try simp only [Act.put, List.setIfInBounds_toArray, List.set_cons_zero, List.set_cons_succ]
      refine wpAnyG_one 16 at16 (by kernel_rfl) (fun Kn hK => ?_)
      refine step_append_run rfl _ _ _ rfl rfl rfl hrun ?_
      refine hK.out _ _ (Or.inr hS13) ?_
      clear hK Kn hrun
      try simp only [Act.put, List.setIfInBounds_toArray, List.set_cons_zero, List.set_cons_succ]
      have hS := hS13
      refine wpAnyG_pure (i := 17) (v := ?vb17) at17 (by kernel_rfl) (fun _ _ _ h => h) (Or.inl ⟨by rfl, ?hb17⟩) (Or.inr (by assumption)) ?rb17
      case hb17 => (intro w hSw; (try dsimp only at hSw); go_simp; try with_reducible rfl)
      case' rb17 => skip
      try simp only [Act.put, List.setIfInBounds_toArray, List.set_cons_zero, List.set_cons_succ]
      refine wpAnyG_one 18 at18 (by kernel_rfl) (fun Kn hK => ?_)
      go_simp
      refine hK.out _ _ (Or.inl (by kernel_rfl)) ?_
      clear hK Kn hS hS13 hf13
      refine wpAnyG_done (by kernel_rfl) ?_
      try simp only [Act.put, List.setIfInBounds_toArray, List.set_cons_zero, List.set_cons_succ]
      go_wp2_with fail
      go_roundw
      case rel => exact ⟨k + 1, o ++ [(X, Y)], .slice A' (k + 1) c', by omega, by go_num, HPLX.out, HE2, HPU⟩
      case measure => simp [intOf]; omega
    · obtain rfl : k = n := by omega
      have hob : o = m.bl := by rw [HE.out, List.take_of_length_le (by rw [HN.out.1]; exact Nat.le_refl _)]
      have hr := HK.out.hr
      rw [HP.out.2.1] at hr
      have HHR := Lib.hid hr
      obtain ⟨z0, z1, z2, z3, z4, z5, z6, z7, z8⟩ := row9 hz
      have HOB := Lib.hid hob
      have HOL := Lib.hid hol
      clear hp hz hr hob hol
      go_wp2_with (with_reducible refine wp_stop_store (o := ⟨none, .store _ (.tmp 2) _, _, _, _, _⟩) _ _ _ rfl ?_)
      unfold Stop
      refine wp_store_all rfl _ _ _ rfl rfl rfl _ _ HHR.out info_mt8 rfl (by simp [Value.oneCell']) ?_
      intro w9 h9 k9 s9
      have HOWN : Hid (w9.ownsRow w.heap.size 198 2 (.slice Q k cq) k (pairV m.bl)) := Lib.hid (by
        have h1 := k9.own HK.out.own (fun g hg e => by have := own_new HK.out.own g hg; have := HP.out; have e2 : g = PR := e; omega)
        have h2 := own_lower h1 (B' := w.heap.size) (by omega)
        rw [HOL.out, HOB.out] at h2
        exact h2)
      have HBF : Hid (Below w.heap.size w w9) := Lib.hid (below_at HK.out.below k9 (by have := HP.out; omega))
      obtain ⟨d0, d1, d2, d3, d4, d5, d6, d7, d8⟩ := row9 h9
      clear h9 k9 s9 z0 z1 z2 z3 z4 z5 z6 z7 z8 k7
      go_wp2_with fail
      exact bodyPost_ret (v := .agg #[.string ow, .string fi, .int .i64 ep, .slice A n1 ca, .slice C n2 cb, .int .u64 vn, .slice D n3 cd, .slice Q k cq, .string sg]) (by simp [results, Tryz.results55, go_sem, d0, d1, d2, d3, d4, d5, d6, d7, d8]) rfl ⟨⟨_, rfl, HOWN.out⟩, HBF.out⟩
set_option maxRecDepth 100000 in
set_option maxHeartbeats 4000000 in
theorem same8_calls (w : World) (m : Mt) (vr vw vv vb vr' vw' vv' vb' : Value) (h : MLists w m vr vw vv vb) (h' : MLists w m vr' vw' vv' vb') (hl : m.r.rd.length ≤ 1000) (hl2 : m.r.wr.length ≤ 1000) (hl3 : m.vf.length ≤ 1000) (hl4 : m.bl.length ≤ 1000) :
    Calls Tryz.prog 54 #[agM m vr vw vv vb, agM m vr' vw' vv' vb'] w fun e w' => e = .returned (.bool true) ∧ Below w.heap.size w w' := by
  obtain ⟨A, ca, rfl, _, _⟩ := h.rt.rd.form
  obtain ⟨C, cb, rfl, _, _⟩ := h.rt.wr.form
  obtain ⟨D, cd, rfl, _, _⟩ := h.vf.form
  obtain ⟨E, ce, rfl, _, _⟩ := h.bl.form
  obtain ⟨A2, ca2, rfl, _, _⟩ := h'.rt.rd.form
  obtain ⟨C2, cb2, rfl, _, _⟩ := h'.rt.wr.form
  obtain ⟨D2, cd2, rfl, _, _⟩ := h'.vf.form
  obtain ⟨E2, ce2, rfl, _, _⟩ := h'.bl.form
  obtain ⟨r, vn, vf, bl, sg⟩ := m
  dsimp only at hl hl2 hl3 hl4 h h' ⊢
  unfold agM
  dsimp only
  obtain ⟨n1, h1⟩ : ∃ x, r.rd.length = x := ⟨_, rfl⟩
  obtain ⟨n2, h2⟩ : ∃ x, r.wr.length = x := ⟨_, rfl⟩
  obtain ⟨n3, h3⟩ : ∃ x, vf.length = x := ⟨_, rfl⟩
  obtain ⟨n4, h4⟩ : ∃ x, bl.length = x := ⟨_, rfl⟩
  have HL12 := Lib.hid (And.intro hl hl2)
  have HS7 := Lib.hid (fun W (hb : Below w.heap.size w W) => same7_calls W r _ _ _ _ (h.rt.below hb) (h'.rt.below hb) (by have := HL12.out; omega) (by have := HL12.out; omega))
  rw [h3] at hl3
  rw [h4] at hl4
  have H1 := Lib.hid h
  have H2 := Lib.hid h'
  have HN := Lib.hid (And.intro h3 h4)
  rw [h1, h2] at HS7
  rw [h1, h2, h3, h4] at H1 H2 ⊢
  have HL34 := Lib.hid (And.intro hl3 hl4)
  obtain ⟨W, hW⟩ : ∃ W, (w.alloc (.cells #[.string r.owner, .string r.file, .int .i64 r.epoch, .slice A n1 ca, .slice C n2 cb, .int .u64 vn, .slice D n3 cd, .slice E n4 ce, .string sg] 50)).alloc (.cells #[.string r.owner, .string r.file, .int .i64 r.epoch, .slice A2 n1 ca2, .slice C2 n2 cb2, .int .u64 vn, .slice D2 n3 cd2, .slice E2 n4 ce2, .string sg] 50) = W := ⟨_, rfl⟩
  have hb : Below w.heap.size w W := by rw [← hW]; exact ((Below.refl _ w).alloc (Nat.le_refl _) _).alloc (by simp [size_alloc]) _
  have hr0 : W.heap[w.heap.size]? = some (.cells #[.string r.owner, .string r.file, .int .i64 r.epoch, .slice A n1 ca, .slice C n2 cb, .int .u64 vn, .slice D n3 cd, .slice E n4 ce, .string sg] 50 (0, 0)) := by rw [← hW, get_alloc, if_neg (by simp [size_alloc]), get_alloc, if_pos rfl]
  have hr1 : W.heap[w.heap.size + 1]? = some (.cells #[.string r.owner, .string r.file, .int .i64 r.epoch, .slice A2 n1 ca2, .slice C2 n2 cb2, .int .u64 vn, .slice D2 n3 cd2, .slice E2 n4 ce2, .string sg] 50 (0, 0)) := by rw [← hW, get_alloc, if_pos (by simp [size_alloc])]
  have HB0 := Lib.hid hb
  have HR0 := Lib.hid hr0
  have HR1 := Lib.hid hr1
  obtain ⟨c0, c1, c2, c3, c4, c5, c6, c7, c8⟩ := row9 hr0
  obtain ⟨d0, d1, d2, d3, d4, d5, d6, d7, d8⟩ := row9 hr1
  clear h h' hb hr0 hr1 h1 h2 h3 h4 hl hl2 hl3 hl4
  go_enter Tryz.func54, Tryz.ntmps54
  go_wp2_with fail
  refine (HS7.out _ HB0.out).mono ?_
  rintro e w1 ⟨rfl, hb1⟩
  have HB1 := Lib.hid hb1
  have hr0 := (Keep.of_below hb1 : Keep (fun _ => False) W w1).at HR0.out fun e => e
  have hr1 := (Keep.of_below hb1 : Keep (fun _ => False) W w1).at HR1.out fun e => e
  clear c0 c1 c2 c3 c4 c5 c6 c7 c8 d0 d1 d2 d3 d4 d5 d6 d7 d8
  obtain ⟨c0, c1, c2, c3, c4, c5, c6, c7, c8⟩ := row9 hr0
  obtain ⟨d0, d1, d2, d3, d4, d5, d6, d7, d8⟩ := row9 hr1
  clear hb1 hr0 hr1
  go_wp2_with fail
  clear c0 c1 c2 c3 c4 c5 c6 c7 c8 d0 d1 d2 d3 d4 d5 d6 d7 d8
  go_loopw [5] (fun i wr => ∃ k : Nat, k ≤ n3 ∧ i = .int .i64 k ∧ Hid (Below W.heap.size W wr)) (fun i _ => n3 - (intOf i).toNat)
  case atStart => exact ⟨0, Nat.zero_le _, rfl, HB1⟩
  case round =>
    obtain ⟨k, hk, rfl, HB⟩ := hrel
    have hn := HL34.out
    have k6 := (row9 ((Keep.of_below HB.out : Keep (fun _ => False) W wr).at HR0.out fun e => e)).2.2.2.2.2.2.1
    have j6 := (row9 ((Keep.of_below HB.out : Keep (fun _ => False) W wr).at HR1.out fun e => e)).2.2.2.2.2.2.1
    by_cases hlt : k < n3
    · obtain ⟨X, hx⟩ : ∃ x, vf[k]? = some x := ⟨_, List.getElem?_eq_getElem (by rw [HN.out.1]; exact hlt)⟩
      obtain ⟨g1, o1, y1, hy1, _, _, hc1⟩ := (H1.out.vf.below (HB0.out.trans (HB.out.mono HB0.out.size))).cell hx
      obtain ⟨rfl, rfl⟩ : D = some ⟨g1, o1, none⟩ ∧ cd = y1 := by cases hy1; exact ⟨rfl, rfl⟩
      obtain ⟨g2, o2, y2, hy2, _, _, hc2⟩ := (H2.out.vf.below (HB0.out.trans (HB.out.mono HB0.out.size))).cell hx
      obtain ⟨rfl, rfl⟩ : D2 = some ⟨g2, o2, none⟩ ∧ cd2 = y2 := by cases hy2; exact ⟨rfl, rfl⟩
      clear hx hy1 hy2
      have hlt3 : k < 1000 := by omega
      clear hn
      go_wp2_with fail
      refine wp_region_G (fun W2 => (W2.cell? ⟨w.heap.size, 6, none⟩ = some (.slice (some ⟨g1, o1, none⟩) n3 cd) ∧ W2.cell? ⟨w.heap.size + 1, 6, none⟩ = some (.slice (some ⟨g2, o2, none⟩) n3 cd2)) ∧ W2.cell? ⟨g1, o1 + k, none⟩ = some (.string X) ∧ W2.cell? ⟨g2, o2 + k, none⟩ = some (.string X)) [10] (by kernel_rfl) ?_
      have hS : (fun W2 : World => (W2.cell? ⟨w.heap.size, 6, none⟩ = some (.slice (some ⟨g1, o1, none⟩) n3 cd) ∧ W2.cell? ⟨w.heap.size + 1, 6, none⟩ = some (.slice (some ⟨g2, o2, none⟩) n3 cd2)) ∧ W2.cell? ⟨g1, o1 + k, none⟩ = some (.string X) ∧ W2.cell? ⟨g2, o2 + k, none⟩ = some (.string X)) wr.drew := ⟨⟨k6, j6⟩, hc1, hc2⟩
      have HB2 := Lib.hid (HB.out.trans (below_drew HB.out |>.mono HB.out.size))
      refine wpAnyG_pure (i := 0) (v := ?vfa0) at0 (by kernel_rfl) (fun _ _ _ h => h) (Or.inl ⟨by rfl, ?hfa0⟩) (Or.inr (by assumption)) ?rfa0
      case hfa0 => (intro w hSw; (try dsimp only at hSw); go_simp; try with_reducible rfl)
      case' rfa0 => skip
      try simp only [Act.put, List.setIfInBounds_toArray, List.set_cons_zero, List.set_cons_succ]
      refine wpAnyG_take (ws := [0,1,2,3,4,5,6,7,8,9]) (i := 1) (v := ?vfa1) at1 (by kernel_rfl) (fun _ _ _ h => h) (Or.inl ⟨by rfl, ?hfa1⟩) (by assumption) ?rfa1
      case hfa1 => (intro w hSw; (try dsimp only at hSw); go_simp; try with_reducible rfl)
      case' rfa1 => skip
      try simp only [Act.put, List.setIfInBounds_toArray, List.set_cons_zero, List.set_cons_succ]
      refine wpAnyG_pure (i := 2) (v := ?vfa2) at2 (by kernel_rfl) (fun _ _ _ h => h) (Or.inl ⟨by rfl, ?hfa2⟩) (Or.inr (by assumption)) ?rfa2
      case hfa2 => (intro w hSw; (try dsimp only at hSw); go_simp; try with_reducible rfl)
      case' rfa2 => skip
      try simp only [Act.put, List.setIfInBounds_toArray, List.set_cons_zero, List.set_cons_succ]
      refine wpAnyG_pure (i := 3) (v := ?vfa3) at3 (by kernel_rfl) (fun _ _ _ h => h) (Or.inl ⟨by rfl, ?hfa3⟩) (Or.inr (by assumption)) ?rfa3
      case hfa3 => (intro w hSw; (try dsimp only at hSw); go_simp; try with_reducible rfl)
      case' rfa3 => skip
      try simp only [Act.put, List.setIfInBounds_toArray, List.set_cons_zero, List.set_cons_succ]
      refine wpAnyG_take (ws := [0,1,2,3,4,5,6,7,8,9]) (i := 4) (v := ?vfa4) at4 (by kernel_rfl) (fun _ _ _ h => h) (Or.inl ⟨by rfl, ?hfa4⟩) (by assumption) ?rfa4
      case hfa4 => (intro w hSw; (try dsimp only at hSw); go_simp; try with_reducible rfl)
      case' rfa4 => skip
      try simp only [Act.put, List.setIfInBounds_toArray, List.set_cons_zero, List.set_cons_succ]
      refine wpAnyG_pure (i := 5) (v := ?vfa5) at5 (by kernel_rfl) (fun _ _ _ h => h) (Or.inl ⟨by rfl, ?hfa5⟩) (Or.inr (by assumption)) ?rfa5
      case hfa5 => (intro w hSw; (try dsimp only at hSw); go_simp; try with_reducible rfl)
      case' rfa5 => skip
      try simp only [Act.put, List.setIfInBounds_toArray, List.set_cons_zero, List.set_cons_succ]
      refine wpAnyG_take (ws := [0,1,2,3,4,5,6,7,8,9]) (i := 6) (v := ?vfa6) at6 (by kernel_rfl) (fun _ _ _ h => h) (Or.inl ⟨by rfl, ?hfa6⟩) (by assumption) ?rfa6
      case hfa6 => (intro w hSw; (try dsimp only at hSw); go_simp; try with_reducible rfl)
      case' rfa6 => skip
      try simp only [Act.put, List.setIfInBounds_toArray, List.set_cons_zero, List.set_cons_succ]
      refine wpAnyG_pure (i := 7) (v := ?vfa7) at7 (by kernel_rfl) (fun _ _ _ h => h) (Or.inl ⟨by rfl, ?hfa7⟩) (Or.inr (by assumption)) ?rfa7
      case hfa7 => (intro w hSw; (try dsimp only at hSw); go_simp; try with_reducible rfl)
      case' rfa7 => skip
      try simp only [Act.put, List.setIfInBounds_toArray, List.set_cons_zero, List.set_cons_succ]
      refine wpAnyG_pure (i := 8) (v := ?vfa8) at8 (by kernel_rfl) (fun _ _ _ h => h) (Or.inl ⟨by rfl, ?hfa8⟩) (Or.inr (by assumption)) ?rfa8
      case hfa8 => (intro w hSw; (try dsimp only at hSw); go_simp; try with_reducible rfl)
      case' rfa8 => skip
      try simp only [Act.put, List.setIfInBounds_toArray, List.set_cons_zero, List.set_cons_succ]
      refine wpAnyG_take (ws := [0,1,2,3,4,5,6,7,8,9]) (i := 9) (v := ?vfa9) at9 (by kernel_rfl) (fun _ _ _ h => h) (Or.inl ⟨by rfl, ?hfa9⟩) (by assumption) ?rfa9
      case hfa9 => (intro w hSw; (try dsimp only at hSw); go_simp; try with_reducible rfl)
      case' rfa9 => skip
      try simp only [Act.put, List.setIfInBounds_toArray, List.set_cons_zero, List.set_cons_succ]
      refine wpAnyG_one 10 at10 (by kernel_rfl) (fun Kn hK => ?_)
      go_simp
      refine hK.out _ _ (Or.inl (by kernel_rfl)) ?_
      clear hK Kn hS hc1 hc2 k6 j6
      refine wpAnyG_done (by kernel_rfl) ?_
      try simp only [Act.put, List.setIfInBounds_toArray, List.set_cons_zero, List.set_cons_succ]
      go_wp2_with fail
      go_roundw
      case rel => exact ⟨k + 1, by omega, by go_num, HB2⟩
      case measure => simp [intOf]; omega
    · obtain rfl : k = n3 := by omega
      have HBA := HB
      clear HB hn
      go_wp2_with fail
      clear k6 j6
      go_loopw [6] (fun i wr => ∃ j : Nat, j ≤ n4 ∧ i = .int .i64 j ∧ Hid (Below W.heap.size W wr)) (fun i _ => n4 - (intOf i).toNat)
      case atStart => exact ⟨0, Nat.zero_le _, rfl, HBA⟩
      case round =>
        obtain ⟨j, hj, rfl, HB⟩ := hrel
        have hn := HL34.out
        have k7 := (row9 ((Keep.of_below HB.out : Keep (fun _ => False) W wr).at HR0.out fun e => e)).2.2.2.2.2.2.2.1
        have j7 := (row9 ((Keep.of_below HB.out : Keep (fun _ => False) W wr).at HR1.out fun e => e)).2.2.2.2.2.2.2.1
        by_cases hltj : j < n4
        · obtain ⟨⟨X, Y⟩, hx⟩ : ∃ x, bl[j]? = some x := ⟨_, List.getElem?_eq_getElem (by rw [HN.out.2]; exact hltj)⟩
          obtain ⟨g1, o1, y1, hy1, _, _, hc1, hc1'⟩ := (H1.out.bl.below (HB0.out.trans (HB.out.mono HB0.out.size))).cell2 hx
          obtain ⟨rfl, rfl⟩ : E = some ⟨g1, o1, none⟩ ∧ ce = y1 := by cases hy1; exact ⟨rfl, rfl⟩
          obtain ⟨g2, o2, y2, hy2, _, _, hc2, hc2'⟩ := (H2.out.bl.below (HB0.out.trans (HB.out.mono HB0.out.size))).cell2 hx
          obtain ⟨rfl, rfl⟩ : E2 = some ⟨g2, o2, none⟩ ∧ ce2 = y2 := by cases hy2; exact ⟨rfl, rfl⟩
          dsimp only at hc1 hc1' hc2 hc2'
          clear hx hy1 hy2
          have hlt3 : j < 1000 := by omega
          clear hn
          go_wp2_with fail
          refine wp_region_G (fun W2 => (W2.cell? ⟨w.heap.size, 7, none⟩ = some (.slice (some ⟨g1, o1, none⟩) n4 ce) ∧ W2.cell? ⟨w.heap.size + 1, 7, none⟩ = some (.slice (some ⟨g2, o2, none⟩) n4 ce2)) ∧ (W2.cell? ⟨g1, o1 + j * 2, none⟩ = some (.string X) ∧ W2.cell? ⟨g1, o1 + j * 2 + 1, none⟩ = some (.string Y)) ∧ W2.cell? ⟨g2, o2 + j * 2, none⟩ = some (.string X) ∧ W2.cell? ⟨g2, o2 + j * 2 + 1, none⟩ = some (.string Y)) [10] (by kernel_rfl) ?_
          have hS : (fun W2 : World => (W2.cell? ⟨w.heap.size, 7, none⟩ = some (.slice (some ⟨g1, o1, none⟩) n4 ce) ∧ W2.cell? ⟨w.heap.size + 1, 7, none⟩ = some (.slice (some ⟨g2, o2, none⟩) n4 ce2)) ∧ (W2.cell? ⟨g1, o1 + j * 2, none⟩ = some (.string X) ∧ W2.cell? ⟨g1, o1 + j * 2 + 1, none⟩ = some (.string Y)) ∧ W2.cell? ⟨g2, o2 + j * 2, none⟩ = some (.string X) ∧ W2.cell? ⟨g2, o2 + j * 2 + 1, none⟩ = some (.string Y)) wr.drew := ⟨⟨k7, j7⟩, ⟨hc1, hc1'⟩, hc2, hc2'⟩
          have HB2 := Lib.hid (HB.out.trans (below_drew HB.out |>.mono HB.out.size))
          refine wpAnyG_pure (i := 0) (v := ?vfb0) at0 (by kernel_rfl) (fun _ _ _ h => h) (Or.inl ⟨by rfl, ?hfb0⟩) (Or.inr (by assumption)) ?rfb0
          case hfb0 => (intro w hSw; (try dsimp only at hSw); go_simp; try with_reducible rfl)
          case' rfb0 => skip
          try simp only [Act.put, List.setIfInBounds_toArray, List.set_cons_zero, List.set_cons_succ]
          refine wpAnyG_take (ws := [0,1,2,3,4,5,6,7,8,9]) (i := 1) (v := ?vfb1) at1 (by kernel_rfl) (fun _ _ _ h => h) (Or.inl ⟨by rfl, ?hfb1⟩) (by assumption) ?rfb1
          case hfb1 => (intro w hSw; (try dsimp only at hSw); go_simp; try with_reducible rfl)
          case' rfb1 => skip
          try simp only [Act.put, List.setIfInBounds_toArray, List.set_cons_zero, List.set_cons_succ]
          refine wpAnyG_pure (i := 2) (v := ?vfb2) at2 (by kernel_rfl) (fun _ _ _ h => h) (Or.inl ⟨by rfl, ?hfb2⟩) (Or.inr (by assumption)) ?rfb2
          case hfb2 => (intro w hSw; (try dsimp only at hSw); go_simp; try with_reducible rfl)
          case' rfb2 => skip
          try simp only [Act.put, List.setIfInBounds_toArray, List.set_cons_zero, List.set_cons_succ]
          refine wpAnyG_pure (i := 3) (v := ?vfb3) at3 (by kernel_rfl) (fun _ _ _ h => h) (Or.inl ⟨by rfl, ?hfb3⟩) (Or.inr (by assumption)) ?rfb3
          case hfb3 => (intro w hSw; (try dsimp only at hSw); go_simp; try with_reducible rfl)
          case' rfb3 => skip
          try simp only [Act.put, List.setIfInBounds_toArray, List.set_cons_zero, List.set_cons_succ]
          refine wpAnyG_take (ws := [0,1,2,3,4,5,6,7,8,9]) (i := 4) (v := ?vfb4) at4 (by kernel_rfl) (fun _ _ _ h => h) (Or.inl ⟨by rfl, ?hfb4⟩) (by assumption) ?rfb4
          case hfb4 => (intro w hSw; (try dsimp only at hSw); go_simp; try with_reducible rfl)
          case' rfb4 => skip
          try simp only [Act.put, List.setIfInBounds_toArray, List.set_cons_zero, List.set_cons_succ]
          refine wpAnyG_pure (i := 5) (v := ?vfb5) at5 (by kernel_rfl) (fun _ _ _ h => h) (Or.inl ⟨by rfl, ?hfb5⟩) (Or.inr (by assumption)) ?rfb5
          case hfb5 => (intro w hSw; (try dsimp only at hSw); go_simp; try with_reducible rfl)
          case' rfb5 => skip
          try simp only [Act.put, List.setIfInBounds_toArray, List.set_cons_zero, List.set_cons_succ]
          refine wpAnyG_take (ws := [0,1,2,3,4,5,6,7,8,9]) (i := 6) (v := ?vfb6) at6 (by kernel_rfl) (fun _ _ _ h => h) (Or.inl ⟨by rfl, ?hfb6⟩) (by assumption) ?rfb6
          case hfb6 => (intro w hSw; (try dsimp only at hSw); go_simp; try with_reducible rfl)
          case' rfb6 => skip
          try simp only [Act.put, List.setIfInBounds_toArray, List.set_cons_zero, List.set_cons_succ]
          refine wpAnyG_pure (i := 7) (v := ?vfb7) at7 (by kernel_rfl) (fun _ _ _ h => h) (Or.inl ⟨by rfl, ?hfb7⟩) (Or.inr (by assumption)) ?rfb7
          case hfb7 => (intro w hSw; (try dsimp only at hSw); go_simp; try with_reducible rfl)
          case' rfb7 => skip
          try simp only [Act.put, List.setIfInBounds_toArray, List.set_cons_zero, List.set_cons_succ]
          refine wpAnyG_pure (i := 8) (v := ?vfb8) at8 (by kernel_rfl) (fun _ _ _ h => h) (Or.inl ⟨by rfl, ?hfb8⟩) (Or.inr (by assumption)) ?rfb8
          case hfb8 => (intro w hSw; (try dsimp only at hSw); go_simp; try with_reducible rfl)
          case' rfb8 => skip
          try simp only [Act.put, List.setIfInBounds_toArray, List.set_cons_zero, List.set_cons_succ]
          refine wpAnyG_take (ws := [0,1,2,3,4,5,6,7,8,9]) (i := 9) (v := ?vfb9) at9 (by kernel_rfl) (fun _ _ _ h => h) (Or.inl ⟨by rfl, ?hfb9⟩) (by assumption) ?rfb9
          case hfb9 => (intro w hSw; (try dsimp only at hSw); go_simp; try with_reducible rfl)
          case' rfb9 => skip
          try simp only [Act.put, List.setIfInBounds_toArray, List.set_cons_zero, List.set_cons_succ]
          refine wpAnyG_one 10 at10 (by kernel_rfl) (fun Kn hK => ?_)
          go_simp
          refine hK.out _ _ (Or.inl (by kernel_rfl)) ?_
          clear hK Kn hS hc1 hc2 hc1' hc2' k7 j7
          refine wpAnyG_done (by kernel_rfl) ?_
          try simp only [Act.put, List.setIfInBounds_toArray, List.set_cons_zero, List.set_cons_succ]
          go_wp2_with fail
          go_roundw
          case rel => exact ⟨j + 1, by omega, by go_num, HB2⟩
          case measure => simp [intOf]; omega
        · obtain rfl : j = n4 := by omega
          go_wp2_with fail
          go_ret
          exact ⟨rfl, HB0.out.trans (HB.out.mono HB0.out.size)⟩
end Go.Proofs.YtckblcfkajpofaaGreatDoor
