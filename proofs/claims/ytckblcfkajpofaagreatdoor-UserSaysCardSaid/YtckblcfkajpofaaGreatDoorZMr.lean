/- meta: Build, of what is right. (Printed by tools/gmr.py.) -/
import Derived.Test.YtckblcfkajpofaaGreatDoorZMq
import Derived.Test.YtckblcfkajpofaaGreatDoorZC3
namespace Go.Proofs.YtckblcfkajpofaaGreatDoor
open Go.RowKit Go.Sort
set_option linter.unusedVariables false
set_option linter.unusedSimpArgs false

structure MOwn (w : World) (B : Nat) (m : Mt) (vr vw vv vb : Value) : Prop where
  rd : w.ownsRow B 9 1 vr m.r.rd.length (strV m.r.rd)
  wr : w.ownsRow B 9 1 vw m.r.wr.length (strV m.r.wr)
  vf : w.ownsRow B 9 1 vv m.vf.length (strV m.vf)
  bl : w.ownsRow B 93 2 vb m.bl.length (pairV m.bl)
theorem MOwn.lists {w : World} {B : Nat} {m : Mt} {vr vw vv vb : Value} (h : MOwn w B m vr vw vv vb) : MLists w m vr vw vv vb := ⟨⟨strs_own h.rd, strs_own h.wr⟩, strs_own h.vf, rows_own h.bl⟩
theorem MOwn.below {w w' : World} {B : Nat} {m : Mt} {vr vw vv vb : Value} (h : MOwn w B m vr vw vv vb) (k : Below w.heap.size w w') : MOwn w' B m vr vw vv vb := ⟨own_below h.rd k, own_below h.wr k, own_below h.vf k, own_below h.bl k⟩
theorem own_ne_own {w : World} {b1 b2 : Nat} {e1 e2 : TypeId} {z1 z2 n1 n2 : Nat} {v1 v2 : Value} {l1 l2 : List Value} (h1 : w.ownsRow b1 e1 z1 v1 n1 l1) (h2 : w.ownsRow b2 e2 z2 v2 n2 l2) (he : e1 ≠ e2) {g : Nat} (hg : v1.ownBlock = some g) : ¬ v2.ownBlock = some g := fun e => by
  rcases h2.2 with ⟨rfl, _⟩ | ⟨g', cap, cur, rfl, _, hb, _⟩
  · cases e
  · have e2 : g' = g := Option.some.inj e
    exact own_ne_type h1 hb he hg e2.symm
theorem append_news1 {w : World} {base : Nat} {v : Value} {l : List ByteArray} (ho : w.ownsRow base 9 1 v l.length (strV l)) (x : ByteArray) (hl : l.length ≤ 1000000) (hb : base ≤ w.heap.size) :
    ∃ v' w', (Builtin.append_ #[35, 35] 35 #[v, .slice (some ⟨w.heap.size, 0, none⟩) 1 1]).run Tryz.prog (w.alloc (.cells #[.string x] 9)) = .ok v' w' ∧
      w'.ownsRow base 9 1 v' (l ++ [x]).length (strV (l ++ [x])) ∧ Keep (fun i => v.ownBlock = some i) w w' ∧ True := by
  obtain ⟨v', w', h1, h2, h3⟩ := append_str ho x (by omega) hb
  exact ⟨v', w', h1, h2, h3, trivial⟩
/-- in Build's loops -/
structure BuSt (w wr : World) (Q Z Bs : Nat) (r : Rt) (ver : Nat) (vr vw vv vb vp : Value) (vf : List ByteArray) (bl : List (ByteArray × ByteArray)) (pubs : List ByteArray) : Prop where
  q : wr.heap[Q]? = some (.cells #[.string r.owner, .string r.file, .int .i64 r.epoch, vr, vw] 39 (0, 0))
  res : wr.heap[Q + 1]? = some (.cells #[.string ⟨#[]⟩, .string ⟨#[]⟩, .int .i64 0, .slice none 0 0, .slice none 0 0, .int .u64 0, .slice none 0 0, .slice none 0 0, .string ⟨#[]⟩] 42 (0, 0))
  row : wr.heap[Z]? = some (.cells (mtCells ⟨r, ver, vf, bl, ⟨#[]⟩⟩ vr vw vv vb) 42 (0, 0))
  rd : wr.ownsRow w.heap.size 9 1 vr r.rd.length (strV r.rd)
  wt : wr.ownsRow w.heap.size 9 1 vw r.wr.length (strV r.wr)
  vfo : wr.ownsRow Bs 9 1 vv vf.length (strV vf)
  blo : wr.ownsRow Bs 93 2 vb bl.length (pairV bl)
  pub : wr.ownsRow w.heap.size 9 1 vp pubs.length (strV pubs)
  below : Below w.heap.size w wr
  lt : ∀ g, (vr.ownBlock = some g ∨ vw.ownBlock = some g ∨ vp.ownBlock = some g) → g < Bs
  zb : w.heap.size = Q ∧ Q + 2 ≤ Z ∧ Z < Bs ∧ Bs ≤ wr.heap.size
section
variable {w wr w' : World} {Q Z Bs : Nat} {r : Rt} {ver : Nat} {vr vw vv vb vp v' : Value} {vf vf' : List ByteArray} {bl bl' : List (ByteArray × ByteArray)} {pubs : List ByteArray}
theorem BuSt.next (h : BuSt w wr Q Z Bs r ver vr vw vv vb vp vf bl pubs) (k : Below wr.heap.size wr w') : BuSt w w' Q Z Bs r ver vr vw vv vb vp vf bl pubs :=
  ⟨(Keep.of_below k : Keep (fun _ => False) wr w').at h.q fun e => e, (Keep.of_below k : Keep (fun _ => False) wr w').at h.res fun e => e, (Keep.of_below k : Keep (fun _ => False) wr w').at h.row fun e => e, own_below h.rd k, own_below h.wt k, own_below h.vfo k, own_below h.blo k, own_below h.pub k, h.below.trans (k.mono h.below.size), h.lt, ⟨h.zb.1, h.zb.2.1, h.zb.2.2.1, Nat.le_trans h.zb.2.2.2 k.size⟩⟩
theorem BuSt.lists (h : BuSt w wr Q Z Bs r ver vr vw vv vb vp vf bl pubs) : Lists wr r vr vw := ⟨strs_own h.rd, strs_own h.wt⟩
theorem BuSt.pushV (h : BuSt w wr Q Z Bs r ver vr vw vv vb vp vf bl pubs) (k : Keep (fun i => vv.ownBlock = some i) wr w') (ho : w'.ownsRow Bs 9 1 v' vf'.length (strV vf')) :
    w'.heap[Z]? = some (.cells (mtCells ⟨r, ver, vf, bl, ⟨#[]⟩⟩ vr vw vv vb) 42 (0, 0)) ∧ BuSt w (w'.setCell ⟨Z, 6, none⟩ v') Q Z Bs r ver vr vw v' vb vp vf' bl pubs := by
  obtain ⟨z1, z2, z3, z4⟩ := h.zb
  have hn : ∀ g, g < Bs → ¬ vv.ownBlock = some g := fun g hg e => by have := own_new h.vfo g e; omega
  have k2 : Keep (fun i => i = Z) w' (w'.setCell ⟨Z, 6, none⟩ v') := Keep.setCell (fun i => i = Z) w' (p := ⟨Z, 6, none⟩) rfl _
  have hz := k.at h.row (hn Z z3)
  have str : ∀ {v : Value} {l : List ByteArray}, wr.ownsRow w.heap.size 9 1 v l.length (strV l) → (∀ g, v.ownBlock = some g → g < Bs) → (w'.setCell ⟨Z, 6, none⟩ v').ownsRow w.heap.size 9 1 v l.length (strV l) := fun {v l} hv hlt => by
    have h1 := k.own hv fun g hg => hn g (hlt g hg)
    exact k2.own h1 fun g hg => own_ne_type h1 hz (by decide) hg
  have hbl := k.own h.blo fun g hg => own_ne_own h.blo h.vfo (by decide) hg
  refine ⟨hz, k2.at (k.at h.q (hn Q (by omega))) (by omega), k2.at (k.at h.res (hn (Q + 1) (by omega))) (by omega), ?_, str h.rd fun g hg => h.lt g (Or.inl hg), str h.wt fun g hg => h.lt g (Or.inr (Or.inl hg)), k2.own ho (fun g hg e => by have := own_new ho g hg; omega), k2.own hbl (fun g hg => own_ne_type hbl hz (by decide) hg), str h.pub fun g hg => h.lt g (Or.inr (Or.inr hg)), ?_, h.lt, ⟨z1, z2, z3, Nat.le_trans z4 (Nat.le_trans k.size k2.size)⟩⟩
  · rw [set_at hz]; rfl
  · exact (((Keep.of_below h.below : Keep (fun i => w.heap.size ≤ i) w wr).same (k.mono fun i hi => by have := own_new h.vfo i hi; omega)).same (k2.mono fun i hi => by have e : i = Z := hi; omega)).new
theorem BuSt.pushB (h : BuSt w wr Q Z Bs r ver vr vw vv vb vp vf bl pubs) (k : Keep (fun i => vb.ownBlock = some i) wr w') (ho : w'.ownsRow Bs 93 2 v' bl'.length (pairV bl')) :
    w'.heap[Z]? = some (.cells (mtCells ⟨r, ver, vf, bl, ⟨#[]⟩⟩ vr vw vv vb) 42 (0, 0)) ∧ BuSt w (w'.setCell ⟨Z, 7, none⟩ v') Q Z Bs r ver vr vw vv v' vp vf bl' pubs := by
  obtain ⟨z1, z2, z3, z4⟩ := h.zb
  have hn : ∀ g, g < Bs → ¬ vb.ownBlock = some g := fun g hg e => by have := own_new h.blo g e; omega
  have k2 : Keep (fun i => i = Z) w' (w'.setCell ⟨Z, 7, none⟩ v') := Keep.setCell (fun i => i = Z) w' (p := ⟨Z, 7, none⟩) rfl _
  have hz := k.at h.row (hn Z z3)
  have str : ∀ {v : Value} {l : List ByteArray} {b : Nat}, wr.ownsRow b 9 1 v l.length (strV l) → (w'.setCell ⟨Z, 7, none⟩ v').ownsRow b 9 1 v l.length (strV l) := fun {v l b} hv => by
    have h1 := k.own hv fun g hg => own_ne_own hv h.blo (by decide) hg
    exact k2.own h1 fun g hg => own_ne_type h1 hz (by decide) hg
  refine ⟨hz, k2.at (k.at h.q (hn Q (by omega))) (by omega), k2.at (k.at h.res (hn (Q + 1) (by omega))) (by omega), ?_, str h.rd, str h.wt, str h.vfo, k2.own ho (fun g hg e => by have := own_new ho g hg; omega), str h.pub, ?_, h.lt, ⟨z1, z2, z3, Nat.le_trans z4 (Nat.le_trans k.size k2.size)⟩⟩
  · rw [set_at hz]; rfl
  · exact (((Keep.of_below h.below : Keep (fun i => w.heap.size ≤ i) w wr).same (k.mono fun i hi => by have := own_new h.blo i hi; omega)).same (k2.mono fun i hi => by have e : i = Z := hi; omega)).new
end
set_option maxRecDepth 100000 in
set_option maxHeartbeats 8000000 in
theorem build_calls (w : World) (secret root : ByteArray) (r : Rt) (vr vw vs vk : Value) (ver : Nat) (sg : List ByteArray) (kn : Knowns) (pk : ByteArray → ByteArray) (hl : Lists w r vr vw) (hsg : strs w vs sg) (hkn : rowsOf 2 twoV w vk kn) (h : Bld secret r root sg kn pk) (hv : ver < 18446744073709551616) (hT : Tabs w) (hks : ∀ x ∈ kn, x.2.size ≤ 9223372036854775807) :
    Calls Tryz.prog 51 #[.string secret, agR r vr vw, .int .u64 ver, .string root, vs, vk] w fun e w' => (∃ vr' vw' vv vb, e = .returned (.tuple #[agM (builtM secret r ver root sg pk) vr' vw' vv vb, .int .i64 0]) ∧ MOwn w' w.heap.size (builtM secret r ver root sg pk) vr' vw' vv vb) ∧ Below w.heap.size w w' := by
  have hgd := Rt.right_good h.right
  have hwf := hgd.wf
  obtain ⟨A, ca, rfl, _, _⟩ := hl.rd.form
  obtain ⟨C, cb, rfl, _, _⟩ := hl.wr.form
  obtain ⟨E, ce, rfl, _, _⟩ := hsg.form
  obtain ⟨K, ck, rfl, _, _⟩ := hkn.form
  have hz : ∀ {s : ByteArray}, isT 4 100 (toL s) → s.size ≤ 100 := fun {s} hs => by obtain ⟨_, _, _, h3⟩ := hs; rw [toL_len] at h3; exact h3
  have hzs := hz h.secret
  have hzr := hz h.root
  have hB1 := fun W => build1_calls secret W (by omega)
  have hB2 := fun W => build1_calls root W (by omega)
  rw [h.secret.right (by omega) (by omega)] at hB1
  rw [h.root.right (by omega) (by omega)] at hB2
  have hany : sg.any (fun s => !rightT (toL s)) = false := by
    rw [List.any_eq_false]
    intro s hs
    rw [(h.sgs s hs).right (by omega) (by omega)]; simp
  have hlen := h.len
  have hlo := hgd.lo
  have hhi := hgd.hi
  have hln := hgd.len
  have hsgl : sg.length ≤ 8 := by omega
  have hwr : IntKind.i64.wrap (r.epoch + 1) = r.epoch + 1 := by
    simp only [IntKind.wrap, IntKind.bits, IntKind.signed]
    first | omega | (simp; omega) | (split <;> omega)
  have e3 : ((sg.length : Int) == r.epoch + 1) = true := by rw [beq_iff_eq]; exact hlen
  have e4 : ((sg.length : Int) != r.epoch + 1) = false := by simp only [bne, e3]; rfl
  obtain ⟨Q, hQ⟩ : ∃ Q, w.heap.size = Q := ⟨_, rfl⟩
  obtain ⟨W, hW⟩ : ∃ W, (w.alloc (.cells #[.string r.owner, .string r.file, .int .i64 r.epoch, .slice A r.rd.length ca, .slice C r.wr.length cb] 39)).alloc (.cells #[.string ⟨#[]⟩, .string ⟨#[]⟩, .int .i64 0, .slice none 0 0, .slice none 0 0, .int .u64 0, .slice none 0 0, .slice none 0 0, .string ⟨#[]⟩] 42) = W := ⟨_, rfl⟩
  have hb : Below w.heap.size w W := by rw [← hW]; exact ((Below.refl _ w).alloc (Nat.le_refl _) _).alloc (by simp [size_alloc]) _
  have hr0 : W.heap[Q]? = some (.cells #[.string r.owner, .string r.file, .int .i64 r.epoch, .slice A r.rd.length ca, .slice C r.wr.length cb] 39 (0, 0)) := by rw [← hW, ← hQ, get_alloc, if_neg (by simp [size_alloc]), get_alloc, if_pos rfl]
  have hr1 : W.heap[Q + 1]? = some (.cells #[.string ⟨#[]⟩, .string ⟨#[]⟩, .int .i64 0, .slice none 0 0, .slice none 0 0, .int .u64 0, .slice none 0 0, .slice none 0 0, .string ⟨#[]⟩] 42 (0, 0)) := by rw [← hW, ← hQ, get_alloc, if_pos (by simp [size_alloc])]
  have hlW := hl.below hb
  have hsW := hsg.below hb
  have hkW := hkn.below hb
  have hTW := hT.below hb
  have hRT := fun W2 (h2 : Below W.heap.size W W2) => rright_calls W2 r _ _ (hlW.below h2) (hTW.below h2) hwf
  rw [h.right] at hRT
  have hHS := fun W2 (h2 : Below W.heap.size W W2) => hasStr_calls 150 enters_build1 (fun s => !rightT (toL s)) W2 _ sg (hsW.below h2) (fun x hx w' _ => build1_calls x w' (by have := hz (h.sgs x hx); omega))
  rw [hany] at hHS
  have hCR := fun W2 (h2 : Below W.heap.size W W2) => clone_strs (w := W2) (hlW.below h2).rd (by omega)
  have hCW := fun W2 (h2 : Below W.heap.size W W2) => clone_strs (w := W2) (hlW.below h2).wr (by omega)
  have HRT := Lib.hid hRT
  have HHS := Lib.hid hHS
  have HCR := Lib.hid hCR
  have HCW := Lib.hid hCW
  have HB1 := Lib.hid hB1
  have HB2 := Lib.hid hB2
  have HB0 := Lib.hid hb
  have HR0 := Lib.hid hr0
  have HR1 := Lib.hid hr1
  have HSW := Lib.hid hsW
  have HKW := Lib.hid hkW
  have HTW := Lib.hid hTW
  have HH := Lib.hid h
  have HQW := Lib.hid hQ
  have HKS := Lib.hid hks
  have HK0 := Lib.hid hkn
  have HS0 := Lib.hid hsg
  have HT0 := Lib.hid hT
  have HSZ : Hid (W.heap.size = Q + 2) := Lib.hid (by rw [← hW, ← hQ]; simp [size_alloc])
  obtain ⟨c0, c1, c2, c3, c4⟩ := row5 hr0
  clear hgd hwf hz hB1 hB2 hany hb hr0 hr1 hlW hsW hkW hTW hRT hHS hCR hCW hl hsg hkn h hT hlen hks
  go_enter Tryz.func51, Tryz.ntmps51
  go_wp2_with fail
  refine (HB1.out _).mono ?_
  rintro e w1 ⟨rfl, hb1⟩
  have HBa := Lib.hid hb1
  clear hb1 c0 c1 c2 c3 c4
  obtain ⟨c0, c1, c2, c3, c4⟩ := row5 ((Keep.of_below HBa.out : Keep (fun _ => False) W w1).at HR0.out fun e => e)
  go_wp2_with fail
  refine (HB2.out _).mono ?_
  rintro e w2 ⟨rfl, hb2⟩
  have HBb := Lib.hid (HBa.out.trans (hb2.mono HBa.out.size))
  clear hb2 c0 c1 c2 c3 c4
  obtain ⟨c0, c1, c2, c3, c4⟩ := row5 ((Keep.of_below HBb.out : Keep (fun _ => False) W w2).at HR0.out fun e => e)
  go_wp2_with fail
  refine (HRT.out _ HBb.out).mono ?_
  rintro e w3 ⟨rfl, hb3⟩
  have HBc := Lib.hid (HBb.out.trans (hb3.mono HBb.out.size))
  clear hb3 c0 c1 c2 c3 c4
  obtain ⟨c0, c1, c2, c3, c4⟩ := row5 ((Keep.of_below HBc.out : Keep (fun _ => False) W w3).at HR0.out fun e => e)
  go_wp2_with fail
  refine (HHS.out _ HBc.out).mono ?_
  rintro e w4 ⟨rfl, hb4⟩
  have HBd := Lib.hid (HBc.out.trans (hb4.mono HBc.out.size))
  clear hb4 c0 c1 c2 c3 c4
  obtain ⟨c0, c1, c2, c3, c4⟩ := row5 ((Keep.of_below HBd.out : Keep (fun _ => False) W w4).at HR0.out fun e => e)
  go_wp2_with fail
  refine wp_region_G (fun W2 => W2.cell? ⟨Q, 3, none⟩ = some (.slice A r.rd.length ca) ∧ W2.cell? ⟨Q, 4, none⟩ = some (.slice C r.wr.length cb)) [7] (by kernel_rfl) ?_
  have HSS : Hid (∀ W2, Below W.heap.size W W2 → (W2.cell? ⟨Q, 3, none⟩ = some (.slice A r.rd.length ca) ∧ W2.cell? ⟨Q, 4, none⟩ = some (.slice C r.wr.length cb))) := Lib.hid (fun W2 hb => by
    obtain ⟨_, _, _, q3, q4⟩ := row5 ((Keep.of_below hb : Keep (fun _ => False) W W2).at HR0.out fun e => e)
    exact ⟨q3, q4⟩)
  have hb0 : Below W.heap.size W w4.drew := HBd.out.drew
  obtain ⟨wd, hwd⟩ : ∃ x, w4.drew = x := ⟨_, rfl⟩
  rw [hwd] at hb0 ⊢
  have hS := HSS.out _ hb0
  refine wpAnyG_pure (i := 0) (v := ?va0) at0 (by kernel_rfl) (fun _ _ _ h => h) (Or.inl ⟨by rfl, ?ha0⟩) (Or.inr (by assumption)) ?ra0
  case ha0 => (intro w hSw; (try dsimp only at hSw); go_simp; try with_reducible rfl)
  case' ra0 => skip
  try simp only [Act.put, List.setIfInBounds_toArray, List.set_cons_zero, List.set_cons_succ]
  refine wpAnyG_take (ws := [0,1,2,3,4,5,6]) (i := 1) (v := ?va1) at1 (by kernel_rfl) (fun _ _ _ h => h) (Or.inl ⟨by rfl, ?ha1⟩) (by assumption) ?ra1
  case ha1 => (intro w hSw; (try dsimp only at hSw); go_simp; try with_reducible rfl)
  case' ra1 => skip
  try simp only [Act.put, List.setIfInBounds_toArray, List.set_cons_zero, List.set_cons_succ]
  refine wpAnyG_pure (i := 3) (v := ?va3) at3 (by kernel_rfl) (fun _ _ _ h => h) (Or.inl ⟨by rfl, ?ha3⟩) (Or.inr (by assumption)) ?ra3
  case ha3 => (intro w hSw; (try dsimp only at hSw); go_simp; try with_reducible rfl)
  case' ra3 => skip
  try simp only [Act.put, List.setIfInBounds_toArray, List.set_cons_zero, List.set_cons_succ]
  refine wpAnyG_take (ws := [0,1,2,3,4,5,6]) (i := 4) (v := ?va4) at4 (by kernel_rfl) (fun _ _ _ h => h) (Or.inl ⟨by rfl, ?ha4⟩) (by assumption) ?ra4
  case ha4 => (intro w hSw; (try dsimp only at hSw); go_simp; try with_reducible rfl)
  case' ra4 => skip
  try simp only [Act.put, List.setIfInBounds_toArray, List.set_cons_zero, List.set_cons_succ]
  refine wpAnyG_one 2 at2 (by kernel_rfl) (fun Kn hK => ?_)
  go_simp
  refine (HCR.out _ hb0).mono ?_
  rintro e w5 ⟨v5, rfl, ho5, hb5⟩
  obtain ⟨A5, ca5, rfl, _, _⟩ := own_slice ho5
  have hb1 := hb0.trans (hb5.mono hb0.size)
  clear hS
  have hS := HSS.out _ hb1
  refine hK.out _ _ (Or.inr hS) ?_
  clear hK Kn hb5
  try simp only [Act.put, List.setIfInBounds_toArray, List.set_cons_zero, List.set_cons_succ]
  refine wpAnyG_pure (i := 6) (v := ?vb6) at6 (by kernel_rfl) (fun _ _ _ h => h) (Or.inl ⟨by rfl, ?hb6⟩) (Or.inr (by assumption)) ?rb6
  case hb6 => (intro w hSw; (try dsimp only at hSw); go_simp; try with_reducible rfl)
  case' rb6 => skip
  try simp only [Act.put, List.setIfInBounds_toArray, List.set_cons_zero, List.set_cons_succ]
  refine wpAnyG_one 5 at5 (by kernel_rfl) (fun Kn hK => ?_)
  go_simp
  refine (HCW.out _ hb1).mono ?_
  rintro e w6 ⟨v6, rfl, ho6, hb6⟩
  obtain ⟨C6, cb6, rfl, _, _⟩ := own_slice ho6
  have hb2 := hb1.trans (hb6.mono hb1.size)
  clear hS
  have hS := HSS.out _ hb2
  refine hK.out _ _ (Or.inr hS) ?_
  clear hK Kn
  try simp only [Act.put, List.setIfInBounds_toArray, List.set_cons_zero, List.set_cons_succ]
  have hrow6 := (Keep.of_below hb2 : Keep (fun _ => False) W w6).at HR0.out fun e => e
  have ho5' := own_below ho5 hb6
  have hres6 := (Keep.of_below hb2 : Keep (fun _ => False) W w6).at HR1.out fun e => e
  have hf6 := frozen_of_row hrow6 3
  have hq6 := hS.1
  obtain ⟨w7, hw7⟩ : ∃ W, w6.setCell ⟨Q, 3, none⟩ (.slice A5 r.rd.length ca5) = W := ⟨_, rfl⟩
  have k7 : Keep (fun i => i = Q) w6 w7 := by rw [← hw7]; exact Keep.setCell (fun i => i = Q) w6 (p := ⟨Q, 3, none⟩) rfl _
  have hrow7 : w7.heap[Q]? = some (.cells #[.string r.owner, .string r.file, .int .i64 r.epoch, .slice A5 r.rd.length ca5, .slice C r.wr.length cb] 39 (0, 0)) := by rw [← hw7, set_at hrow6]; rfl
  have hf7 := frozen_of_row hrow7 4
  have hq7 : w7.cell? ⟨Q, 4, none⟩ = some (.slice C r.wr.length cb) := by rw [cell_of_row _ _ _ _ _ _ hrow7]; rfl
  obtain ⟨w8, hw8⟩ : ∃ W, w7.setCell ⟨Q, 4, none⟩ (.slice C6 r.wr.length cb6) = W := ⟨_, rfl⟩
  have k8 : Keep (fun i => i = Q) w7 w8 := by rw [← hw8]; exact Keep.setCell (fun i => i = Q) w7 (p := ⟨Q, 4, none⟩) rfl _
  have hrow8 : w8.heap[Q]? = some (.cells #[.string r.owner, .string r.file, .int .i64 r.epoch, .slice A5 r.rd.length ca5, .slice C6 r.wr.length cb6] 39 (0, 0)) := by rw [← hw8, set_at hrow7]; rfl
  have HR8 := Lib.hid hrow8
  have HE8 := Lib.hid (k8.at (k7.at hres6 (by omega)) (by omega))
  have HO5 := Lib.hid (k8.own (k7.own ho5' fun g hg => own_ne_type ho5' hrow6 (by decide) hg) fun g hg => own_ne_type (k7.own ho5' fun g hg => own_ne_type ho5' hrow6 (by decide) hg) hrow7 (by decide) hg)
  have HO6 := Lib.hid (k8.own (k7.own ho6 fun g hg => own_ne_type ho6 hrow6 (by decide) hg) fun g hg => own_ne_type (k7.own ho6 fun g hg => own_ne_type ho6 hrow6 (by decide) hg) hrow7 (by decide) hg)
  have HB8 : Hid (Below w.heap.size w w8) := Lib.hid ((((Keep.of_below (HB0.out.trans (hb2.mono HB0.out.size)) : Keep (fun i => w.heap.size ≤ i) w w6).same (k7.mono fun i hi => by have e : i = Q := hi; omega)).same (k8.mono fun i hi => by have e : i = Q := hi; omega)).new)
  have HZ8 : Hid (Q + 2 ≤ w8.heap.size) := Lib.hid (by have := hb2.size; have := k7.size; have := k8.size; have := HSZ.out; omega)
  have HBZ : Hid (w.heap.size ≤ wd.heap.size ∧ w.heap.size ≤ w5.heap.size) := Lib.hid (by have := hb0.size; have := hb1.size; have := HSZ.out; omega)
  clear hb0 hb1 hb2 hb6 ho5 ho5' ho6 hrow6 hres6 hrow7 hrow8 k7 k8 hS c0 c1 c2 c3 c4
  refine wpAnyG_one 7 at7 (by kernel_rfl) (fun Kn hK => ?_)
  go_simp
  refine hK.out _ _ (Or.inl (by kernel_rfl)) ?_
  clear hK Kn hf6 hq6
  try simp only [Act.put, List.setIfInBounds_toArray, List.set_cons_zero, List.set_cons_succ]
  refine wpAnyG_one 8 at8 (by kernel_rfl) (fun Kn hK => ?_)
  go_simp
  refine hK.out _ _ (Or.inl (by kernel_rfl)) ?_
  clear hK Kn
  try simp only [Act.put, List.setIfInBounds_toArray, List.set_cons_zero, List.set_cons_succ]
  refine wpAnyG_one 9 at9 (by kernel_rfl) (fun Kn hK => ?_)
  go_simp
  refine hK.out _ _ (Or.inl (by kernel_rfl)) ?_
  clear hK Kn hf7 hq7
  refine wpAnyG_done (by kernel_rfl) ?_
  try simp only [Act.put, List.setIfInBounds_toArray, List.set_cons_zero, List.set_cons_succ]
  clear hw7 hw8
  obtain ⟨c0, c1, c2, c3, c4⟩ := row5 HR8.out
  go_wp2_with (with_reducible refine wp_stop_store (o := ⟨none, .store _ (.tmp 15) _, _, _, _, _⟩) _ _ _ rfl ?_)
  unfold Stop
  refine wp_store_all rfl _ _ _ rfl rfl rfl _ _ ((get_alloc _ _ _).trans (if_pos rfl)) info_mt rfl (by simp [Value.oneCell']) ?_
  intro w9 h9 k9 s9
  obtain ⟨Z, hZ⟩ : ∃ Z, w8.heap.size = Z := ⟨_, rfl⟩
  have hb89 : Below w8.heap.size w8 w9 := below_at ((Below.refl _ w8).alloc (Nat.le_refl _) _) k9 (Nat.le_refl _)
  have HR9 := Lib.hid ((Keep.of_below hb89 : Keep (fun _ => False) w8 w9).at HR8.out fun e => e)
  have HE9 := Lib.hid ((Keep.of_below hb89 : Keep (fun _ => False) w8 w9).at HE8.out fun e => e)
  have HO5' := Lib.hid (own_lower (own_below HO5.out hb89) HBZ.out.1)
  have HO6' := Lib.hid (own_lower (own_below HO6.out hb89) HBZ.out.2)
  have HB9 := Lib.hid (HB8.out.trans (hb89.mono HB8.out.size))
  have hzq : Q + 2 ≤ Z := by rw [← hZ]; exact HZ8.out
  have hz9 : Z < w9.heap.size := by rw [← hZ]; exact (Array.getElem?_eq_some_iff.1 h9).1
  rw [hZ] at h9 ⊢
  have HZ9 := Lib.hid h9
  clear hb89 h9 k9 s9 hZ c0 c1 c2 c3 c4
  have hl9 : Lists w9 r (.slice A5 r.rd.length ca5) (.slice C6 r.wr.length cb6) := ⟨strs_own HO5'.out, strs_own HO6'.out⟩
  have HOT := Lib.hid (others_calls w9 r _ _ hl9 (by omega))
  obtain ⟨c0, c1, c2, c3, c4⟩ := row5 HR9.out
  clear hl9
  go_wp2_with fail
  refine HOT.out.mono ?_
  rintro e w10 ⟨v10, rfl, ho10, hb10⟩
  obtain ⟨A10, ca10, rfl, _, _⟩ := own_slice ho10
  have hfd := find_calls w10 _ _ (others r) kn (strs_own ho10) (HK0.out.below (HB9.out.trans (hb10.mono HB9.out.size))) (by rw [others_len]; omega) HKS.out
  have hP : mapE (pubOf kn) (others r) = .ok ((others r).map pk) := mapE_map fun u hu => (HH.out.pub u hu).1
  rw [hP] at hfd
  have hx : exLB (.ok ((others r).map pk)) = (others r).map pk := rfl
  rw [hx] at hfd
  simp only [exErr] at hfd
  have HFD := Lib.hid hfd
  have HB10 := Lib.hid hb10
  clear hfd hP hx ho10 hb10 c0 c1 c2 c3 c4
  go_wp2_with fail
  refine HFD.out.mono ?_
  rintro e w11 ⟨v11, rfl, ho11, hb11⟩
  obtain ⟨A11, ca11, rfl, _, _⟩ := own_slice ho11
  have hb9 : Below w9.heap.size w9 w11 := HB10.out.trans (hb11.mono HB10.out.size)
  have hq11 := (Keep.of_below hb9 : Keep (fun _ => False) w9 w11).at HR9.out fun e => e
  have he11 := (Keep.of_below hb9 : Keep (fun _ => False) w9 w11).at HE9.out fun e => e
  have hz11 := (Keep.of_below hb9 : Keep (fun _ => False) w9 w11).at HZ9.out fun e => e
  have hr11 := own_below HO5'.out hb9
  have hw11 := own_below HO6'.out hb9
  have hp11 := own_lower ho11 (show w.heap.size ≤ _ from Nat.le_trans HB9.out.size HB10.out.size)
  have hst : BuSt w w11 Q Z w11.heap.size r ver (.slice A5 r.rd.length ca5) (.slice C6 r.wr.length cb6) (.slice none 0 0) (.slice none 0 0) (.slice A11 ((others r).map pk).length ca11) [] [] ((others r).map pk) :=
    ⟨hq11, he11, hz11, hr11, hw11, World.ownsRow_nil _ _ _ _, World.ownsRow_nil _ _ _ _, hp11, HB9.out.trans (hb9.mono HB9.out.size), fun g hg => by
      rcases hg with hg | hg | hg
      · exact (World.ownsRow.lt hr11 g hg).2
      · exact (World.ownsRow.lt hw11 g hg).2
      · exact (World.ownsRow.lt hp11 g hg).2, ⟨HQW.out, hzq, (Array.getElem?_eq_some_iff.1 hz11).1, Nat.le_refl _⟩⟩
  obtain ⟨Bs, hBs⟩ : ∃ B, w11.heap.size = B := ⟨_, rfl⟩
  obtain ⟨n, hn⟩ : ∃ n, sg.length = n := ⟨_, rfl⟩
  rw [hBs] at hst
  have HST := Lib.hid hst
  have HNN := Lib.hid hn
  rw [hn] at e3 e4 HS0 hsgl ⊢
  clear hb9 hq11 he11 hz11 hr11 hw11 hp11 hst hBs hn ho11 hb11
  go_wp2_with fail
  go_loopw [78] (fun i wr => ∃ (k : Nat) (vv : Value) (o : List ByteArray), k ≤ n ∧ i = .int .i64 k ∧ o.length = k ∧ Hid (o = (sg.take k).map fun s => mkB (117 :: toL s)) ∧ Hid (BuSt w wr Q Z Bs r ver (.slice A5 r.rd.length ca5) (.slice C6 r.wr.length cb6) vv (.slice none 0 0) (.slice A11 ((others r).map pk).length ca11) o [] ((others r).map pk))) (fun i _ => n - (intOf i).toNat)
  case atStart => exact ⟨0, .slice none 0 0, [], Nat.zero_le _, rfl, rfl, Lib.hid rfl, HST⟩
  case round =>
    obtain ⟨k, vv, o, hk, rfl, hol, HE, HM⟩ := hrel
    obtain ⟨AV, cV, rfl, _, _⟩ := own_slice HM.out.vfo
    by_cases hlt : k < n
    · obtain ⟨x, hx⟩ : ∃ x, sg[k]? = some x := ⟨_, List.getElem?_eq_getElem (by rw [HNN.out]; exact hlt)⟩
      obtain ⟨g3, off3, c3, hv3, _, _, hcx⟩ := (HS0.out.below HM.out.below).cell hx
      obtain ⟨rfl, hnn, rfl⟩ : E = some ⟨g3, off3, none⟩ ∧ n = sg.length ∧ ce = c3 := by cases hv3; exact ⟨rfl, rfl, rfl⟩
      have hxi := HH.out.sgs x (List.mem_of_getElem? hx)
      have hxz : x.size ≤ 100 := by obtain ⟨_, _, _, h3⟩ := hxi; rw [toL_len] at h3; exact h3
      have hop := fun W => ofpublic_calls x W (by omega)
      rw [ofOne_is hxi rfl (by omega) (by omega)] at hop
      have hev : exV (.ok (117 :: toL x)) = .tuple #[.string (mkB (117 :: toL x)), .int .i64 0] := rfl
      rw [hev] at hop
      have hE2 : o ++ [mkB (117 :: toL x)] = (sg.take (k + 1)).map fun s => mkB (117 :: toL s) := by rw [HE.out, List.take_add_one, hx]; simp
      obtain ⟨X, hX⟩ : ∃ X, mkB (117 :: toL x) = X := ⟨_, rfl⟩
      rw [hX] at hE2
      simp only [hX] at hop
      have HOP := Lib.hid hop
      have HE2 := Lib.hid hE2
      clear hv3 hnn hop hev hE2 hX hxi hxz hx
      go_wp2_with fail
      refine (HOP.out _).mono ?_
      rintro e w12 ⟨rfl, hb12⟩
      have HM12 := Lib.hid (HM.out.next hb12)
      have cz : w12.cell? ⟨Z, 6, none⟩ = some (.slice AV o.length cV) := by rw [cell_of_row _ _ _ _ _ _ HM12.out.row]; rfl
      obtain ⟨v', w13, hrun, ho13, hk13, hn13⟩ := append_news1 HM12.out.vfo X (by omega) HM12.out.zb.2.2.2
      obtain ⟨A', c', rfl, _, _⟩ := own_slice ho13
      have hpush := HM12.out.pushV hk13 ho13
      have cz13 : w13.cell? ⟨Z, 6, none⟩ = some (.slice AV o.length cV) := by rw [cell_of_row _ _ _ _ _ _ hpush.1]; rfl
      have hf13 := frozen_of_row hpush.1 6
      have HP := Lib.hid hpush.2
      obtain ⟨pl, hpl⟩ : ∃ pl, (o ++ [X]).length = pl := ⟨_, rfl⟩
      have hpl2 : pl = k + 1 := by rw [← hpl, List.length_append, hol]; rfl
      rw [hpl] at hrun HP
      rw [hol] at hrun cz cz13
      subst hpl2
      have HPL := Lib.hid hpl
      clear hpush ho13 hk13 hn13 hpl hb12
      go_wp2_with (at_builtin; refine wp_append_run rfl _ _ _ rfl rfl rfl hrun ?_)
      clear hrun cz
      go_wp2_with fail
      go_roundw
      case rel => exact ⟨k + 1, .slice A' (k + 1) c', o ++ [X], by omega, by go_num, HPL.out, HE2, HP⟩
      case measure => simp [intOf]; omega
    · obtain rfl : k = n := by omega
      have hov : o = sg.map fun s => mkB (117 :: toL s) := by rw [HE.out, List.take_of_length_le (by rw [HNN.out]; exact Nat.le_refl _)]
      have HOV := Lib.hid hov
      have HOT2 := Lib.hid (others_calls wr r _ _ HM.out.lists (by omega))
      obtain ⟨c0, c1, c2, c3, c4⟩ := row5 HM.out.q
      have HOL := Lib.hid hol
      clear hov HE hol
      go_wp2_with fail
      refine HOT2.out.mono ?_
      rintro e w14 ⟨v14, rfl, ho14, hb14⟩
      obtain ⟨A14, ca14, rfl, _, _⟩ := own_slice ho14
      have HM14 := Lib.hid (HM.out.next hb14)
      have HL14 := Lib.hid ho14
      obtain ⟨n2, hn2⟩ : ∃ n, (others r).length = n := ⟨_, rfl⟩
      have hn25 : n2 ≤ 5 := by rw [← hn2, others_len]; omega
      have HN2 := Lib.hid hn2
      have hlp : ((others r).map pk).length = n2 := by rw [List.length_map]; exact hn2
      rw [hlp] at HM14
      rw [hn2] at HL14
      rw [hn2]
      clear ho14 hb14 hn2 hlp c0 c1 c2 c3 c4
      go_wp2_with fail
      go_loopw [101] (fun i wx => ∃ (j : Nat) (vb : Value) (bl : List (ByteArray × ByteArray)), j ≤ n2 ∧ i = .int .i64 j ∧ bl.length = j ∧ Hid (bl = ((others r).take j).map fun u => (u, mkB (boxL r u root (lastB r sg) (pk u)))) ∧ Hid (BuSt w wx Q Z Bs r ver (.slice A5 r.rd.length ca5) (.slice C6 r.wr.length cb6) (.slice AV o.length cV) vb (.slice A11 n2 ca11) o bl ((others r).map pk)) ∧ Hid (wx.ownsRow wr.heap.size 9 1 (.slice A14 n2 ca14) n2 (strV (others r)))) (fun i _ => n2 - (intOf i).toNat)
      case atStart => exact ⟨0, .slice none 0 0, [], Nat.zero_le _, rfl, rfl, Lib.hid rfl, HM14, HL14⟩
      case round =>
        obtain ⟨j, vb, bl, hj, rfl, hbl, HEb, HMb, HLb⟩ := hrel
        obtain ⟨AB, cB, rfl, _, _⟩ := own_slice HMb.out.blo
        by_cases hltj : j < n2
        · obtain ⟨u, hu⟩ : ∃ u, (others r)[j]? = some u := ⟨_, List.getElem?_eq_getElem (by rw [HN2.out]; exact hltj)⟩
          have hum := List.mem_of_getElem? hu
          have hbx := boxR_is (r := r) (u := u) HH.out.root (HH.out.sgs _ HH.out.last.1) (HH.out.pub u hum).2.1 (HH.out.pub u hum).2.2 hlo hhi
          obtain ⟨g6, off6, c6, hv6, _, _, hcu⟩ := (strs_own HLb.out).cell hu
          obtain ⟨rfl, rfl⟩ : A14 = some ⟨g6, off6, none⟩ ∧ ca14 = c6 := by cases hv6; exact ⟨rfl, rfl⟩
          have hsl := HH.out.last.2
          have hpu : ((others r).map pk)[j]? = some (pk u) := by rw [List.getElem?_map, hu]; rfl
          have hz4 : ∀ {s : ByteArray}, isT 4 100 (toL s) → s.size ≤ 100 := fun {s} hs => by obtain ⟨_, _, _, h3⟩ := hs; rw [toL_len] at h3; exact h3
          have hsgz := hz4 (HH.out.sgs _ HH.out.last.1)
          have hpz : (pk u).size ≤ 101 := by obtain ⟨⟨_, _, _, h3⟩, _⟩ := (HH.out.pub u hum).2; rw [toL_len] at h3; exact h3
          have huz := HH.out.names u hum
          have hE2 : bl ++ [(u, mkB (boxL r u root (lastB r sg) (pk u)))] = ((others r).take (j + 1)).map fun u => (u, mkB (boxL r u root (lastB r sg) (pk u))) := by rw [HEb.out, List.take_add_one, hu]; simp
          have hbc := fun W (hb : Below wr.heap.size wr W) => box_r_calls W r _ _ u root (lastB r sg) (pk u) (HMb.out.lists.below hb) (HT0.out.below (HMb.out.below.trans (hb.mono HMb.out.below.size))) (Rt.right_good HH.out.right).wf (by omega) (by omega) (by omega) (by omega)
          rw [hbx.1] at hbc
          have hev : exV (.ok (boxL r u root (lastB r sg) (pk u))) = .tuple #[.string (mkB (boxL r u root (lastB r sg) (pk u))), .int .i64 0] := rfl
          rw [hev] at hbc
          obtain ⟨SG, hSG⟩ : ∃ S, lastB r sg = S := ⟨_, rfl⟩
          obtain ⟨PU, hPU⟩ : ∃ P, pk u = P := ⟨_, rfl⟩
          obtain ⟨X, hX⟩ : ∃ X, mkB (boxL r u root SG PU) = X := ⟨_, rfl⟩
          simp only [hSG, hPU, hX] at hbc
          have hE3 : bl ++ [(u, X)] = ((others r).take (j + 1)).map fun u => (u, mkB (boxL r u root (lastB r sg) (pk u))) := by rw [← hE2, ← hX, ← hSG, ← hPU]
          rw [hSG] at hsl
          rw [hPU] at hpu
          have HBC := Lib.hid hbc
          have HE2 := Lib.hid hE3
          have HSL := Lib.hid hsl
          have HPU := Lib.hid hpu
          clear hum hbx hv6 hz4 hsgz hpz huz hE2 hE3 hbc hev hSG hPU hX hsl hpu hu
          go_wp2_with fail
          obtain ⟨g4, off4, c4', hv4, _, _, hc4⟩ := (HS0.out.below HMb.out.below).cell HSL.out
          obtain ⟨rfl, hnn4, rfl⟩ : E = some ⟨g4, off4, none⟩ ∧ k = sg.length ∧ ce = c4' := by cases hv4; exact ⟨rfl, rfl, rfl⟩
          obtain ⟨g5, off5, c5', hv5, _, _, hc5⟩ := (strs_own HMb.out.pub).cell HPU.out
          obtain ⟨rfl, rfl⟩ : A11 = some ⟨g5, off5, none⟩ ∧ ca11 = c5' := by cases hv5; exact ⟨rfl, rfl⟩
          have hep : r.epoch < (k : Int) := by have h1 := beq_iff_eq.1 e3; omega
          refine wp_region_G (fun W2 => (W2.cell? ⟨Q, 0, none⟩ = some (.string r.owner) ∧ W2.cell? ⟨Q, 1, none⟩ = some (.string r.file) ∧ W2.cell? ⟨Q, 2, none⟩ = some (.int .i64 r.epoch) ∧ W2.cell? ⟨Q, 3, none⟩ = some (.slice A5 r.rd.length ca5) ∧ W2.cell? ⟨Q, 4, none⟩ = some (.slice C6 r.wr.length cb6)) ∧ W2.cell? ⟨g4, off4 + r.epoch.toNat, none⟩ = some (.string SG) ∧ W2.cell? ⟨g5, off5 + j, none⟩ = some (.string PU)) [17] (by kernel_rfl) ?_
          have hS : (fun W2 : World => (W2.cell? ⟨Q, 0, none⟩ = some (.string r.owner) ∧ W2.cell? ⟨Q, 1, none⟩ = some (.string r.file) ∧ W2.cell? ⟨Q, 2, none⟩ = some (.int .i64 r.epoch) ∧ W2.cell? ⟨Q, 3, none⟩ = some (.slice A5 r.rd.length ca5) ∧ W2.cell? ⟨Q, 4, none⟩ = some (.slice C6 r.wr.length cb6)) ∧ W2.cell? ⟨g4, off4 + r.epoch.toNat, none⟩ = some (.string SG) ∧ W2.cell? ⟨g5, off5 + j, none⟩ = some (.string PU)) wr.drew := ⟨row5 HMb.out.q, hc4, hc5⟩
          clear hv4 hnn4 hv5 hc4 hc5 hcu
          refine wpAnyG_take (ws := [0,1,2,3,4,5,6,7,8,9,10,11,12,13,14,15,16]) (i := 0) (v := ?vc0) at0 (by kernel_rfl) (fun _ _ _ h => h) (Or.inl ⟨by rfl, ?hc0⟩) (by assumption) ?rc0
          case hc0 => (intro w hSw; (try dsimp only at hSw); go_simp; try with_reducible rfl)
          case' rc0 => skip
          try simp only [Act.put, List.setIfInBounds_toArray, List.set_cons_zero, List.set_cons_succ]
          refine wpAnyG_pure (i := 1) (v := ?vc1) at1 (by kernel_rfl) (fun _ _ _ h => h) (Or.inl ⟨by rfl, ?hc1⟩) (Or.inr (by assumption)) ?rc1
          case hc1 => (intro w hSw; (try dsimp only at hSw); go_simp; try with_reducible rfl)
          case' rc1 => skip
          try simp only [Act.put, List.setIfInBounds_toArray, List.set_cons_zero, List.set_cons_succ]
          refine wpAnyG_pure (i := 2) (v := ?vc2) at2 (by kernel_rfl) (fun _ _ _ h => h) (Or.inl ⟨by rfl, ?hc2⟩) (Or.inr (by assumption)) ?rc2
          case hc2 => (intro w hSw; (try dsimp only at hSw); go_simp; try with_reducible rfl)
          case' rc2 => skip
          try simp only [Act.put, List.setIfInBounds_toArray, List.set_cons_zero, List.set_cons_succ]
          refine wpAnyG_pure (i := 3) (v := ?vc3) at3 (by kernel_rfl) (fun _ _ _ h => h) (Or.inl ⟨by rfl, ?hc3⟩) (Or.inr (by assumption)) ?rc3
          case hc3 => (intro w hSw; (try dsimp only at hSw); go_simp; try with_reducible rfl)
          case' rc3 => skip
          try simp only [Act.put, List.setIfInBounds_toArray, List.set_cons_zero, List.set_cons_succ]
          refine wpAnyG_pure (i := 4) (v := ?vc4) at4 (by kernel_rfl) (fun _ _ _ h => h) (Or.inl ⟨by rfl, ?hc4⟩) (Or.inr (by assumption)) ?rc4
          case hc4 => (intro w hSw; (try dsimp only at hSw); go_simp; try with_reducible rfl)
          case' rc4 => skip
          try simp only [Act.put, List.setIfInBounds_toArray, List.set_cons_zero, List.set_cons_succ]
          refine wpAnyG_take (ws := [0,1,2,3,4,5,6,7,8,9,10,11,12,13,14,15,16]) (i := 5) (v := ?vc5) at5 (by kernel_rfl) (fun _ _ _ h => h) (Or.inl ⟨by rfl, ?hc5⟩) (by assumption) ?rc5
          case hc5 => (intro w hSw; (try dsimp only at hSw); go_simp; try with_reducible rfl)
          case' rc5 => skip
          try simp only [Act.put, List.setIfInBounds_toArray, List.set_cons_zero, List.set_cons_succ]
          refine wpAnyG_pure (i := 6) (v := ?vc6) at6 (by kernel_rfl) (fun _ _ _ h => h) (Or.inl ⟨by rfl, ?hc6⟩) (Or.inr (by assumption)) ?rc6
          case hc6 => (intro w hSw; (try dsimp only at hSw); go_simp; try with_reducible rfl)
          case' rc6 => skip
          try simp only [Act.put, List.setIfInBounds_toArray, List.set_cons_zero, List.set_cons_succ]
          refine wpAnyG_take (ws := [0,1,2,3,4,5,6,7,8,9,10,11,12,13,14,15,16]) (i := 7) (v := ?vc7) at7 (by kernel_rfl) (fun _ _ _ h => h) (Or.inl ⟨by rfl, ?hc7⟩) (by assumption) ?rc7
          case hc7 => (intro w hSw; (try dsimp only at hSw); go_simp; try with_reducible rfl)
          case' rc7 => skip
          try simp only [Act.put, List.setIfInBounds_toArray, List.set_cons_zero, List.set_cons_succ]
          refine wpAnyG_pure (i := 8) (v := ?vc8) at8 (by kernel_rfl) (fun _ _ _ h => h) (Or.inl ⟨by rfl, ?hc8⟩) (Or.inr (by assumption)) ?rc8
          case hc8 => (intro w hSw; (try dsimp only at hSw); go_simp; try with_reducible rfl)
          case' rc8 => skip
          try simp only [Act.put, List.setIfInBounds_toArray, List.set_cons_zero, List.set_cons_succ]
          refine wpAnyG_pure (i := 9) (v := ?vc9) at9 (by kernel_rfl) (fun _ _ _ h => h) (Or.inl ⟨by rfl, ?hc9⟩) (Or.inr (by assumption)) ?rc9
          case hc9 => (intro w hSw; (try dsimp only at hSw); go_simp; try with_reducible rfl)
          case' rc9 => skip
          try simp only [Act.put, List.setIfInBounds_toArray, List.set_cons_zero, List.set_cons_succ]
          refine wpAnyG_pure (i := 10) (v := ?vc10) at10 (by kernel_rfl) (fun _ _ _ h => h) (Or.inl ⟨by rfl, ?hc10⟩) (Or.inr (by assumption)) ?rc10
          case hc10 => (intro w hSw; (try dsimp only at hSw); go_simp; try with_reducible rfl)
          case' rc10 => skip
          try simp only [Act.put, List.setIfInBounds_toArray, List.set_cons_zero, List.set_cons_succ]
          refine wpAnyG_take (ws := [0,1,2,3,4,5,6,7,8,9,10,11,12,13,14,15,16]) (i := 11) (v := ?vc11) at11 (by kernel_rfl) (fun _ _ _ h => h) (Or.inl ⟨by rfl, ?hc11⟩) (by assumption) ?rc11
          case hc11 => (intro w hSw; (try dsimp only at hSw); go_simp; try with_reducible rfl)
          case' rc11 => skip
          try simp only [Act.put, List.setIfInBounds_toArray, List.set_cons_zero, List.set_cons_succ]
          refine wpAnyG_one 12 at12 (by kernel_rfl) (fun Kn hK => ?_)
          go_simp
          refine (HBC.out _ (Below.refl _ wr).drew).mono ?_
          rintro e w15 ⟨rfl, hb15⟩
          have hM15 := HMb.out.next ((Below.refl wr.heap.size wr).drew.trans (hb15.mono (Nat.le_refl _)))
          have HM15 := Lib.hid hM15
          have HL15 := Lib.hid (own_below HLb.out ((Below.refl wr.heap.size wr).drew.trans (hb15.mono (Nat.le_refl _))))
          have hS15 : (fun W2 : World => (W2.cell? ⟨Q, 0, none⟩ = some (.string r.owner) ∧ W2.cell? ⟨Q, 1, none⟩ = some (.string r.file) ∧ W2.cell? ⟨Q, 2, none⟩ = some (.int .i64 r.epoch) ∧ W2.cell? ⟨Q, 3, none⟩ = some (.slice A5 r.rd.length ca5) ∧ W2.cell? ⟨Q, 4, none⟩ = some (.slice C6 r.wr.length cb6)) ∧ W2.cell? ⟨g4, off4 + r.epoch.toNat, none⟩ = some (.string SG) ∧ W2.cell? ⟨g5, off5 + j, none⟩ = some (.string PU)) w15 := ⟨row5 hM15.q, (Keep.of_below hb15 : Keep (fun _ => False) wr.drew w15).cell hS.2.1 fun e => e, (Keep.of_below hb15 : Keep (fun _ => False) wr.drew w15).cell hS.2.2 fun e => e⟩
          clear hS
          have hS := hS15
          refine hK.out _ _ (Or.inr hS) ?_
          clear hK Kn hb15 hM15 hS15
          try simp only [Act.put, List.setIfInBounds_toArray, List.set_cons_zero, List.set_cons_succ]
          refine wpAnyG_pure (i := 13) (v := ?vd13) at13 (by kernel_rfl) (fun _ _ _ h => h) (Or.inl ⟨by rfl, ?hd13⟩) (Or.inr (by assumption)) ?rd13
          case hd13 => (intro w hSw; (try dsimp only at hSw); go_simp; try with_reducible rfl)
          case' rd13 => skip
          try simp only [Act.put, List.setIfInBounds_toArray, List.set_cons_zero, List.set_cons_succ]
          refine wpAnyG_pure (i := 14) (v := ?vd14) at14 (by kernel_rfl) (fun _ _ _ h => h) (Or.inl ⟨by rfl, ?hd14⟩) (Or.inr (by assumption)) ?rd14
          case hd14 => (intro w hSw; (try dsimp only at hSw); go_simp; try with_reducible rfl)
          case' rd14 => skip
          try simp only [Act.put, List.setIfInBounds_toArray, List.set_cons_zero, List.set_cons_succ]
          refine wpAnyG_pure (i := 15) (v := ?vd15) at15 (by kernel_rfl) (fun _ _ _ h => h) (Or.inl ⟨by rfl, ?hd15⟩) (Or.inr (by assumption)) ?rd15
          case hd15 => (intro w hSw; (try dsimp only at hSw); go_simp; try with_reducible rfl)
          case' rd15 => skip
          try simp only [Act.put, List.setIfInBounds_toArray, List.set_cons_zero, List.set_cons_succ]
          refine wpAnyG_pure (i := 16) (v := ?vd16) at16 (by kernel_rfl) (fun _ _ _ h => h) (Or.inl ⟨by rfl, ?hd16⟩) (Or.inr (by assumption)) ?rd16
          case hd16 => (intro w hSw; (try dsimp only at hSw); go_simp; try with_reducible rfl)
          case' rd16 => skip
          try simp only [Act.put, List.setIfInBounds_toArray, List.set_cons_zero, List.set_cons_succ]
          refine wpAnyG_one 17 at17 (by kernel_rfl) (fun Kn hK => ?_)
          go_simp
          refine hK.out _ _ (Or.inl (by kernel_rfl)) ?_
          clear hK Kn hS
          refine wpAnyG_done (by kernel_rfl) ?_
          try simp only [Act.put, List.setIfInBounds_toArray, List.set_cons_zero, List.set_cons_succ]
          have cz : w15.cell? ⟨Z, 7, none⟩ = some (.slice AB bl.length cB) := by rw [cell_of_row _ _ _ _ _ _ HM15.out.row]; rfl
          obtain ⟨v', w16, hrun, ho16, hk16, hn16⟩ := append_pair Tryz.underlying40 info_blk HM15.out.blo (u, X) (by omega) HM15.out.zb.2.2.2
          obtain ⟨A', c', rfl, _, _⟩ := own_slice ho16
          have hpush := HM15.out.pushB hk16 ho16
          have HL16 := Lib.hid (hk16.own HL15.out fun g hg => own_ne_own HL15.out HM15.out.blo (by decide) hg)
          have cz16 : w16.cell? ⟨Z, 7, none⟩ = some (.slice AB bl.length cB) := by rw [cell_of_row _ _ _ _ _ _ hpush.1]; rfl
          have hf16 := frozen_of_row hpush.1 7
          have HP := Lib.hid hpush.2
          have HL17 := Lib.hid ((Keep.setCell (fun i => i = Z) w16 (p := ⟨Z, 7, none⟩) rfl (.slice A' (bl ++ [(u, X)]).length c')).own HL16.out fun g hg => own_ne_type HL16.out hpush.1 (by decide) hg)
          obtain ⟨pl, hpl⟩ : ∃ pl, (bl ++ [(u, X)]).length = pl := ⟨_, rfl⟩
          have hpl2 : pl = j + 1 := by rw [← hpl, List.length_append, hbl]; rfl
          rw [hpl] at hrun HP HL17
          rw [hbl] at hrun cz cz16
          subst hpl2
          have HPL := Lib.hid hpl
          dsimp only at hrun
          clear hpush ho16 hk16 hn16 hpl
          go_wp2_with (at_builtin; refine wp_append_run rfl _ _ _ rfl rfl rfl hrun ?_)
          clear hrun cz
          go_wp2_with fail
          go_roundw
          case rel => exact ⟨j + 1, .slice A' (j + 1) c', bl ++ [(u, X)], by omega, by go_num, HPL.out, HE2, HP, HL17⟩
          case measure => simp [intOf]; omega
        · obtain rfl : j = n2 := by omega
          have hbl2 : bl = (others r).map fun u => (u, mkB (boxL r u root (lastB r sg) (pk u))) := by rw [HEb.out, List.take_of_length_le (by rw [HN2.out]; exact Nat.le_refl _)]
          obtain ⟨hok1, hok2, hok3⟩ := HH.out.ok ver hv
          have hBM : builtM secret r ver root sg pk = ⟨r, ver, o, bl, mkB (103 :: (toL secret ++ 116 :: wtext (bodyM ⟨r, ver, o, bl, ⟨#[]⟩⟩)))⟩ := by rw [HOV.out, hbl2]; rfl
          have hbd : bodyM (builtM secret r ver root sg pk) = bodyM ⟨r, ver, o, bl, ⟨#[]⟩⟩ := by rw [hBM]; rfl
          rw [hbd] at hok3
          have hml : MLists wr ⟨r, ver, o, bl, ⟨#[]⟩⟩ _ _ _ _ := ⟨HMb.out.lists, strs_own HMb.out.vfo, rows_own HMb.out.blo⟩
          have hbc := body_calls wr ⟨r, ver, o, bl, ⟨#[]⟩⟩ _ _ _ _ hml (HT0.out.below HMb.out.below) HH.out.right hv (by have := HOL.out; dsimp only; omega) (by dsimp only; omega) (by omega)
          obtain ⟨B, hB⟩ : ∃ B, bodyM ⟨r, ver, o, bl, ⟨#[]⟩⟩ = B := ⟨_, rfl⟩
          rw [hB] at hok3 hbc hBM
          have hwl := wtext_len_le (t := B) (by omega)
          have hot := fun W => oftext_calls (mkB B) W (by rw [mkB_size]; omega)
          have hte : exV (ofText (toL (mkB B))) = .tuple #[.string (mkB (116 :: wtext B)), .int .i64 0] := by
            rw [toL_mkB, ofText_is (s := B) (by rw [List.length_cons]; omega)]; rfl
          rw [hte] at hot
          have hti := isT_text (s := B) (n := 3510) (by rw [List.length_cons]; omega) (by omega)
          have hsn := fun W => sign_calls secret (mkB (116 :: wtext B)) W (by omega) (by rw [mkB_size, List.length_cons]; omega)
          have hse : exV (ofTwo 103 (toL secret) (toL (mkB (116 :: wtext B)))) = .tuple #[.string (mkB (103 :: (toL secret ++ 116 :: wtext B))), .int .i64 0] := by
            rw [toL_mkB, ofTwo_is HH.out.secret (hti.mono (e := 4) (by omega) (Nat.le_refl _)) rfl (by decide) (by omega) (by omega)]; rfl
          rw [hse] at hsn
          obtain ⟨XB, hXB⟩ : ∃ X, mkB B = X := ⟨_, rfl⟩
          obtain ⟨XT, hXT⟩ : ∃ X, mkB (116 :: wtext B) = X := ⟨_, rfl⟩
          obtain ⟨XS, hXS⟩ : ∃ X, mkB (103 :: (toL secret ++ 116 :: wtext B)) = X := ⟨_, rfl⟩
          rw [hXB] at hbc
          simp only [hXB, hXT] at hot
          simp only [hXT, hXS] at hsn
          rw [hXS] at hBM
          dsimp only [agM] at hbc
          have HBC := Lib.hid hbc
          have HOT3 := Lib.hid hot
          have HSN := Lib.hid hsn
          have HBM := Lib.hid hBM
          have HBLL := Lib.hid hbl
          clear hbl hbl2 hok1 hok2 hok3 hBM hbd hml hbc hB hwl hot hte hti hsn hse hXB hXT hXS HEb
          obtain ⟨c0, c1, c2, c3, c4, c5, c6, c7, c8⟩ := row9 HMb.out.row
          dsimp only at c0 c1 c2 c3 c4 c5 c6 c7 c8
          go_wp2_with fail
          refine HBC.out.mono ?_
          rintro e w18 ⟨rfl, hb18⟩
          have HM18 := Lib.hid (HMb.out.next hb18)
          clear hb18 c0 c1 c2 c3 c4 c5 c6 c7 c8
          go_wp2_with fail
          refine (HOT3.out _).mono ?_
          rintro e w19 ⟨rfl, hb19⟩
          have HM19 := Lib.hid (HM18.out.next hb19)
          clear hb19
          go_wp2_with fail
          refine (HSN.out _).mono ?_
          rintro e w20 ⟨rfl, hb20⟩
          have HM20 := Lib.hid (HM19.out.next hb20)
          have hf20 := frozen_of_row HM20.out.row 8
          have hq20 : w20.cell? ⟨Z, 8, none⟩ = some (.string ⟨#[]⟩) := by rw [cell_of_row _ _ _ _ _ _ HM20.out.row]; rfl
          obtain ⟨w21, hw21⟩ : ∃ W, w20.setCell ⟨Z, 8, none⟩ (.string XS) = W := ⟨_, rfl⟩
          have k21 : Keep (fun i => i = Z) w20 w21 := by rw [← hw21]; exact Keep.setCell (fun i => i = Z) w20 (p := ⟨Z, 8, none⟩) rfl _
          have hrow21 : w21.heap[Z]? = some (.cells #[.string r.owner, .string r.file, .int .i64 r.epoch, .slice A5 r.rd.length ca5, .slice C6 r.wr.length cb6, .int .u64 ver, .slice AV o.length cV, .slice AB bl.length cB, .string XS] 42 (0, 0)) := by rw [← hw21, set_at HM20.out.row]; rfl
          have HE21 := Lib.hid (k21.at HM20.out.res (by omega))
          have HK21 := Lib.hid k21
          have HRW := Lib.hid hrow21
          obtain ⟨c0, c1, c2, c3, c4, c5, c6, c7, c8⟩ := row9 hrow21
          clear hb20 k21 hrow21
          go_wp2_with (with_reducible refine wp_stop_store (o := ⟨none, .store _ (.tmp 12) _, _, _, _, _⟩) _ _ _ rfl ?_)
          unfold Stop
          refine wp_store_all rfl _ _ _ rfl rfl rfl _ _ HE21.out info_mt rfl (by simp [Value.oneCell']) ?_
          intro w22 h22 k22 s22
          have hown : ∀ {v : Value} {e : TypeId} {z n : Nat} {l : List Value} {b : Nat}, w20.ownsRow b e z v n l → w.heap.size ≤ b → e ≠ 42 → w22.ownsRow w.heap.size e z v n l := fun {v e z n l b} h1 hb he => by
            have h2 := HK21.out.own h1 fun g hg => own_ne_type h1 HM20.out.row he hg
            exact own_lower (k22.own h2 fun g hg => own_ne_type h2 HE21.out he hg) hb
          have hsz := HM20.out.zb
          have HMO : Hid (MOwn w22 w.heap.size (builtM secret r ver root sg pk) (.slice A5 r.rd.length ca5) (.slice C6 r.wr.length cb6) (.slice AV o.length cV) (.slice AB bl.length cB)) := Lib.hid (by
            rw [HBM.out]
            exact ⟨hown HM20.out.rd (Nat.le_refl _) (by decide), hown HM20.out.wt (Nat.le_refl _) (by decide), hown HM20.out.vfo (by omega) (by decide), hown HM20.out.blo (by omega) (by decide)⟩)
          have HBF : Hid (Below w.heap.size w w22) := Lib.hid ((((Keep.of_below HM20.out.below : Keep (fun i => w.heap.size ≤ i) w w20).same (HK21.out.mono fun i hi => by have e : i = Z := hi; omega)).same (k22.mono fun i hi => by have e : i = Q + 1 := hi; omega)).new)
          clear c0 c1 c2 c3 c4 c5 c6 c7 c8 hown hsz
          obtain ⟨c0, c1, c2, c3, c4, c5, c6, c7, c8⟩ := row9 h22
          clear h22 k22 s22
          go_wp2_with fail
          refine bodyPost_ret (v := .tuple #[.agg #[.string r.owner, .string r.file, .int .i64 r.epoch, .slice A5 r.rd.length ca5, .slice C6 r.wr.length cb6, .int .u64 ver, .slice AV o.length cV, .slice AB bl.length cB, .string XS], .int .i64 0]) (by simp [results, Tryz.results51, go_sem, c0, c1, c2, c3, c4, c5, c6, c7, c8]) rfl ?_
          refine ⟨⟨_, _, _, _, ?_, HMO.out⟩, HBF.out⟩
          rw [HBM.out]
end Go.Proofs.YtckblcfkajpofaaGreatDoor
