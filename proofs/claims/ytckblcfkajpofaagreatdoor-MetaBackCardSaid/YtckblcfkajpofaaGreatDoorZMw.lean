/- law 8: what its last laws want besides: document 3's Box and Sign of right terms, a meta in a block of its own. -/
import Derived.Test.YtckblcfkajpofaaGreatDoorZMu
import Derived.Test.YtckblcfkajpofaaGreatDoorZMs
namespace Go.Proofs.YtckblcfkajpofaaGreatDoor
open Go.RowKit Go.Sort
set_option linter.unusedVariables false
set_option linter.unusedSimpArgs false

theorem tsign_ok {a b : ByteArray} {n m : Nat} (ha : isT 4 n (toL a)) (hb : isT 4 m (toL b)) (hn : n + m + 1 ≤ 4000) (w : World) :
    Calls Tryz.prog 67 #[.string a, .string b] w fun e w' => e = .returned (.tuple #[.string (mkB (103 :: (toL a ++ toL b))), .int .i64 0]) ∧ Below w.heap.size w w' := by
  have h := ttwo_calls 103 a b w (by obtain ⟨_, _, _, h3⟩ := ha; rw [toL_len] at h3; omega) (by obtain ⟨_, _, _, h3⟩ := hb; rw [toL_len] at h3; omega)
  rw [ofTwo_is ha hb rfl (by decide) (by omega) hn] at h
  have H := Lib.hid h
  obtain ⟨T, hT⟩ : ∃ T, mkB (103 :: (toL a ++ toL b)) = T := ⟨_, rfl⟩
  rw [show exV (.ok (103 :: (toL a ++ toL b))) = .tuple #[.string T, .int .i64 0] by rw [← hT]; rfl] at H
  rw [hT]
  clear h hT
  go_enter Tryz.func67, Tryz.ntmps67
  go_wp2_with fail
  refine H.out.mono ?_
  rintro e w1 ⟨rfl, hb⟩
  have HB := Lib.hid hb
  clear hb
  go_wp2_with fail
  go_ret2
  exact ⟨rfl, HB.out⟩
set_option maxRecDepth 100000 in
set_option maxHeartbeats 800000 in
theorem tbox_ok {p b : ByteArray} {n m : Nat} {q : List UInt8} (hp : isT 5 n (toL p)) (hq : toL p = 117 :: q) (hb : isT 5 m (toL b)) (hn : n + m + 1 ≤ 4000) (w : World) :
    Calls Tryz.prog 64 #[.string p, .string b] w fun e w' => e = .returned (.tuple #[.string (mkB (98 :: (toL p ++ toL b))), .int .i64 0]) ∧ Below w.heap.size w w' := by
  have hps : p.size ≤ 4000 := by obtain ⟨_, _, _, h3⟩ := hp; rw [toL_len] at h3; omega
  have hbs : b.size ≤ 4000 := by obtain ⟨_, _, _, h3⟩ := hb; rw [toL_len] at h3; omega
  have e1 : ofTwo 98 (toL p) (toL b) = .ok (98 :: (toL p ++ toL b)) := by
    have hp' := hp
    rw [hq] at hp' ⊢
    have h1 := hp'.box hb
    unfold ofTwo
    rw [hp'.right (by omega) (by omega), hb.right (by omega) (by omega), if_pos (show (true && true) = true from rfl)]
    unfold made
    rw [h1.right (by omega) hn]
    rfl
  have HR := Lib.hid (fun W => tright_calls p W (by omega))
  simp only [hp.right (by omega) (by omega)] at HR
  have HW := Lib.hid (fun W => ttwo_calls 98 p b W (by omega) (by omega))
  obtain ⟨T, hT⟩ : ∃ T, mkB (98 :: (toL p ++ toL b)) = T := ⟨_, rfl⟩
  simp only [e1] at HW
  rw [show exV (.ok (98 :: (toL p ++ toL b))) = .tuple #[.string T, .int .i64 0] by rw [← hT]; rfl] at HW
  rw [hT]
  have h0 : 0 < p.size := by rw [← toL_len, hq, List.length_cons]; omega
  have hc0 : ((p[0]'h0).toNat) = 117 := by rw [first_of hq h0]; rfl
  clear e1 hT hp hq hb hn hps hbs
  go_enter Tryz.func64, Tryz.ntmps64
  go_wp2_with fail
  refine (HR.out _).mono ?_
  rintro e w1 ⟨rfl, hb⟩
  have HB := Lib.hid hb
  clear hb
  go_wp2_with fail
  refine (HW.out _).mono ?_
  rintro e w2 ⟨rfl, hb⟩
  have HB2 := Lib.hid (HB.out.trans (hb.mono HB.out.size))
  clear hb
  go_wp2_with fail
  go_ret2
  exact ⟨rfl, HB2.out⟩
/-- a meta in a block of its own, with lists of its own -/
def MtOwn (B : Nat) (w0 w : World) (z : Nat) (m : Mt) : Prop := ∃ vr vw vv vb, w.heap[z]? = some (.cells (mtCells m vr vw vv vb) 42 (0, 0)) ∧ MOwn w B m vr vw vv vb ∧ B ≤ z ∧ Below w0.heap.size w0 w
theorem MOwn.lower {w : World} {B B' : Nat} {m : Mt} {vr vw vv vb : Value} (h : MOwn w B m vr vw vv vb) (hb : B' ≤ B) : MOwn w B' m vr vw vv vb := ⟨own_lower h.rd hb, own_lower h.wr hb, own_lower h.vf hb, own_lower h.bl hb⟩
theorem strV_set (l : List ByteArray) (i : Nat) (x : ByteArray) : (strV l).set i (.string x) = strV (l.set i x) := by simp [strV, List.map_set]
theorem pairV_set : ∀ (l : List (ByteArray × ByteArray)) (i : Nat) (u p x : ByteArray), l[i]? = some (u, p) → (pairV l).set (i * 2 + 1) (.string x) = pairV (l.set i (u, x))
  | [], i, u, p, x, h => by simp at h
  | y :: l, 0, u, p, x, h => by
    simp at h; subst h; rfl
  | y :: l, i + 1, u, p, x, h => by
    have ih := pairV_set l i u p x (by simpa using h)
    show ((Value.string y.1) :: (.string y.2) :: pairV l).set ((i + 1) * 2 + 1) (.string x) = (Value.string y.1) :: (.string y.2) :: pairV (l.set i (u, x))
    rw [show (i + 1) * 2 + 1 = (i * 2 + 1) + 1 + 1 by omega, List.set_cons_succ, List.set_cons_succ, ih]
theorem own_frozen {w : World} {base : Nat} {e : TypeId} {size n n' c g : Nat} {xs : List Value} (h : w.ownsRow base e size (.slice (some ⟨g, 0, none⟩) n c) n' xs) (j : Nat) : w.frozen? ⟨g, j, none⟩ = false := by
  rcases h.2 with ⟨e, _⟩ | ⟨g', cap, cur, e, hb, hg, _⟩
  · cases e
  · obtain rfl : g = g' := by cases e; rfl
    exact frozen_of_row hg j
/-- two rows of strings that have nothing in common don't share a block -/
theorem own_apart {w : World} {B : Nat} {e : TypeId} {v1 v2 : Value} {l m : List ByteArray} (h1 : w.ownsRow B e 1 v1 l.length (strV l)) (h2 : w.ownsRow B e 1 v2 m.length (strV m)) (hne : ∀ x ∈ l, ∀ y ∈ m, x ≠ y) (hl : 0 < l.length) (hm : 0 < m.length) {g : Nat} (hg : v1.ownBlock = some g) : ¬ v2.ownBlock = some g := by
  obtain ⟨g1, c1, rfl, _, k1⟩ := own_block h1 hl
  obtain ⟨g2, c2, rfl, _, k2⟩ := own_block h2 hm
  intro e2
  have e1 : g1 = g := Option.some.inj hg
  have e3 : g2 = g := Option.some.inj e2
  obtain ⟨x, hx⟩ : ∃ x, l[0]? = some x := ⟨_, List.getElem?_eq_getElem hl⟩
  obtain ⟨y, hy⟩ : ∃ y, m[0]? = some y := ⟨_, List.getElem?_eq_getElem hm⟩
  have a := (k1 0 (.string x) (by unfold strV; rw [List.getElem?_map, hx]; rfl)).1
  have b := (k2 0 (.string y) (by unfold strV; rw [List.getElem?_map, hy]; rfl)).1
  rw [e1] at a
  rw [e3, a] at b
  cases b
  exact hne x (List.mem_of_getElem? hx) x (List.mem_of_getElem? hy) rfl
theorem MOwn.setVf {w : World} {B : Nat} {m : Mt} {vr vw vb : Value} {g n c : Nat} (h : MOwn w B m vr vw (.slice (some ⟨g, 0, none⟩) n c) vb) (hn : m.vf.length = n) (hne : ∀ x ∈ m.r.rd ++ m.r.wr, ∀ y ∈ m.vf, x ≠ y) (h0 : 0 < m.vf.length) (q : Nat) (x : ByteArray) : MLists (w.setCell ⟨g, q, none⟩ (.string x)) { m with vf := m.vf.set q x } vr vw (.slice (some ⟨g, 0, none⟩) n c) vb := by
  subst hn
  have k : Keep (fun i => i = g) w (w.setCell ⟨g, q, none⟩ (.string x)) := Keep.setCell (fun i => i = g) w (p := ⟨g, q, none⟩) rfl _
  have h1 := (h.vf.stored q (.string x)).1
  rw [strV_set] at h1
  refine ⟨⟨(strs_own h.rd).keep3 k fun hl b hb e => ?_, (strs_own h.wr).keep3 k fun hl b hb e => ?_⟩, strs_own h1, (rows_own h.bl).keep k fun b hb e => own_ne_own h.bl h.vf (by decide) hb (by rw [show b = g from e]; rfl)⟩
  · exact own_apart h.rd h.vf (fun x hx => hne x (List.mem_append_left _ hx)) (List.length_pos_iff.2 hl) h0 hb (by rw [show b = g from e]; rfl)
  · exact own_apart h.wr h.vf (fun x hx => hne x (List.mem_append_right _ hx)) (List.length_pos_iff.2 hl) h0 hb (by rw [show b = g from e]; rfl)
theorem MOwn.setBl {w : World} {B : Nat} {m : Mt} {vr vw vv : Value} {g n c : Nat} (h : MOwn w B m vr vw vv (.slice (some ⟨g, 0, none⟩) n c)) (hn : m.bl.length = n) {q : Nat} {u p : ByteArray} (hi : m.bl[q]? = some (u, p)) (x : ByteArray) : MLists (w.setCell ⟨g, q * 2 + 1, none⟩ (.string x)) { m with bl := m.bl.set q (u, x) } vr vw vv (.slice (some ⟨g, 0, none⟩) n c) := by
  subst hn
  have k : Keep (fun i => i = g) w (w.setCell ⟨g, q * 2 + 1, none⟩ (.string x)) := Keep.setCell (fun i => i = g) w (p := ⟨g, q * 2 + 1, none⟩) rfl _
  have h1 := (h.bl.stored (q * 2 + 1) (.string x)).1
  rw [pairV_set _ _ _ _ _ hi] at h1
  have hln : (m.bl.set q (u, x)).length = m.bl.length := List.length_set
  have h2 : rowsOf 2 twoV (w.setCell ⟨g, q * 2 + 1, none⟩ (.string x)) (.slice (some ⟨g, 0, none⟩) m.bl.length c) (m.bl.set q (u, x)) := rows_own (by rw [hln]; exact h1)
  exact ⟨⟨(strs_own h.rd).keep k fun b hb e => own_ne_own h.rd h.bl (by decide) hb (by rw [show b = g from e]; rfl), (strs_own h.wr).keep k fun b hb e => own_ne_own h.wr h.bl (by decide) hb (by rw [show b = g from e]; rfl)⟩, (strs_own h.vf).keep k fun b hb e => own_ne_own h.vf h.bl (by decide) hb (by rw [show b = g from e]; rfl), h2⟩
/-! ### names -/
theorem who_ne_u {u : ByteArray} (h : u ∈ whoList) (l : List UInt8) : u ≠ mkB (117 :: l) := by
  intro e
  have e2 : toL u = 117 :: l := by rw [e]; exact toL_mkB _
  unfold whoList at h
  simp only [List.mem_cons, List.not_mem_nil, or_false] at h
  rcases h with rfl | rfl | rfl | rfl | rfl | rfl | rfl | rfl <;> exact absurd (List.cons.inj e2).1 (by decide)
theorem who_name : ∀ u ∈ whoList, nameR u = true := by
  unfold whoList
  intro u h
  simp only [List.mem_cons, List.not_mem_nil, or_false] at h
  rcases h with rfl | rfl | rfl | rfl | rfl | rfl | rfl | rfl <;> kernel_rfl
theorem notes_not : notesB ∉ whoList := by
  intro h
  have h2 : notesB.data.toList ∈ whoList.map fun b => b.data.toList := List.mem_map.2 ⟨_, h, rfl⟩
  revert h2
  have e : (whoList.map fun b => b.data.toList) = [[97, 110, 110, 97], [98, 101, 110], [99, 121], [100, 111, 114, 97], [101, 109, 105, 108], [195, 164, 109, 105, 108], [102, 97, 45, 49], [103]] := rfl
  rw [e]; decide
theorem ben_anna : secOf benB ≠ secOf annaB := fun e => by
  have := secOf_inj (u := benB) (w := annaB) (by decide) (by decide) e
  exact absurd (congrArg (fun b : ByteArray => b.data.toList) this) (by decide)
theorem blk_set {m : Mt} {q : Nat} {u y p : ByteArray} (hi : m.bl[q]? = some (u, y)) (hne : p ≠ y) (hl : (bodyM { m with bl := m.bl.set q (u, p) }).length < 1000000000000) (e : (m.bl.set q (u, p)).map blkL = m.bl.map blkL) : False := by
  have hq := (List.getElem?_eq_some_iff.1 hi).1
  have h1 : ((m.bl.set q (u, p)).map blkL)[q]? = (m.bl.map blkL)[q]? := by rw [e]
  rw [List.getElem?_map, List.getElem?_map, List.getElem?_set, if_pos rfl, if_pos hq, hi] at h1
  have h2 : wall [toL u, toL p] = wall [toL u, toL y] := Option.some.inj h1
  have h3 : (wall ((m.bl.set q (u, p)).map blkL)).length < 1000000000000 := Nat.lt_of_le_of_lt (wall_item_le (l := [putR m.r, wput m.ver, wall (m.vf.map toL), wall ((m.bl.set q (u, p)).map blkL)]) (by simp)) hl
  have h4 : blkL (u, p) ∈ (m.bl.set q (u, p)).map blkL := List.mem_map.2 ⟨_, List.mem_of_getElem? (by rw [List.getElem?_set, if_pos rfl, if_pos hq]), rfl⟩
  have h5 := wall_inj h2 (Nat.lt_of_le_of_lt (wall_item_le h4) h3)
  simp only [List.cons.injEq, and_true, true_and] at h5
  exact hne (toL_inj h5)
end Go.Proofs.YtckblcfkajpofaaGreatDoor
