/- user: Grant's and Revoke's closures. user: Remove. user: change. user: plain law: rights stay right, users stay as they should. user: Grant, Revoke. law 14: pick, file, who, does. law 14: a user in blocks of its own. -/
import Derived.Test.YtckblcfkajpofaaGreatDoorZB1
import Derived.Test.YtckblcfkajpofaaGreatDoorZB2
import Derived.Test.YtckblcfkajpofaaGreatDoorZU1
import Derived.Test.YtckblcfkajpofaaGreatDoorZA8
namespace Go.Proofs.YtckblcfkajpofaaGreatDoor
open Go.RowKit Go.Sort
set_option linter.unusedVariables false
set_option linter.unusedSimpArgs false

set_option maxRecDepth 100000 in
set_option maxHeartbeats 2000000 in
theorem grant1_calls {w : World} {r : Rt} {vr vw : Value} (u : ByteArray) (write : Bool) (g1 g2 : Nat) (hl : Lists w r vr vw) (hT : Tabs w) (hw : r.wf) (hu : u.size ≤ 9223372036854775807) (h1 : w.cell? ⟨g1, 0, none⟩ = some (.string u)) (h2 : w.cell? ⟨g2, 0, none⟩ = some (.bool write)) :
    Calls Tryz.prog 255 #[.agg #[.string r.owner, .string r.file, .int .i64 r.epoch, vr, vw], .pointer (some ⟨g1, 0, none⟩), .pointer (some ⟨g2, 0, none⟩)] w fun e w' => RtRet w e w' (r.grant u write) := by
  obtain ⟨W, hW⟩ : ∃ W, (w.alloc (.cells (rtCells r vr vw) 39)).alloc (.cells #[.string ⟨#[]⟩, .string ⟨#[]⟩, .int .i64 0, .slice none 0 0, .slice none 0 0] 39) = W := ⟨_, rfl⟩
  have hb : Below w.heap.size w W := by rw [← hW]; exact ((Below.refl _ w).alloc (Nat.le_refl _) _).alloc (by simp [size_alloc]) _
  have hk : Keep (fun _ => False) w W := Keep.of_below hb
  have hr0 : W.heap[w.heap.size]? = some (.cells (rtCells r vr vw) 39 (0, 0)) := by rw [← hW, get_alloc, if_neg (by simp [size_alloc]), get_alloc, if_pos rfl]
  have hr1 : W.heap[w.heap.size + 1]? = some (.cells #[.string ⟨#[]⟩, .string ⟨#[]⟩, .int .i64 0, .slice none 0 0, .slice none 0 0] 39 (0, 0)) := by rw [← hW, get_alloc, if_pos (by simp [size_alloc])]
  have hC := grant_calls _ r _ _ u write (hl.below hb) (hT.below hb) hw hu
  have HC := Lib.hid hC
  have hl' := hl.below hb
  obtain ⟨A, ca, rfl, a1, a2, _⟩ := hl.rd
  obtain ⟨C, cb, rfl, b1, b2, _⟩ := hl.wr
  obtain ⟨X, hX⟩ : ∃ X, r.grant u write = X := ⟨_, rfl⟩
  rw [hX] at HC ⊢
  obtain ⟨ow, fi, ep, rd, wr'⟩ := r
  unfold rtCells at hr0
  dsimp only at hr0 HC a1 a2 b1 b2
  obtain ⟨c0, c1, c2, c3, c4⟩ := row5 hr0
  have d1 := hk.cell h1 fun e => e
  have d2 := hk.cell h2 fun e => e
  have HB := Lib.hid hb
  have HR1 := Lib.hid hr1
  have hs : W.heap.size = w.heap.size + 2 := by rw [← hW]; simp [size_alloc]
  have HSZ := Lib.hid hs
  unfold rtCells at hW
  dsimp only at hW
  clear hC hX hb hk hr0 hr1 hl hT hw hu hl' h1 h2 hs
  go_enter Tryz.func255, Tryz.ntmps255
  go_wp2_with fail
  refine HC.out.mono ?_
  rintro e w1 ⟨vr2, vw2, rfl, hl2, hb2, n1, n2, n3⟩
  obtain ⟨A2, ca2, rfl, _, _, _⟩ := hl2.rd
  obtain ⟨C2, cb2, rfl, _, _, _⟩ := hl2.wr
  have hr2 := (Keep.of_below hb2 : Keep (fun _ => False) W w1).at HR1.out fun e => e
  have HR2 := Lib.hid hr2
  have HB2 := Lib.hid hb2
  have HL2 := Lib.hid hl2
  have HN := Lib.hid (And.intro n1 n2)
  have HU3 := Lib.hid n3
  clear hr2 hb2 hl2 n1 n2 n3 c0 c1 c2 c3 c4 d1 d2
  go_wp2_with (with_reducible refine wp_stop_store (o := ⟨none, .store _ (.tmp 4) _, _, _, _, _⟩) _ _ _ rfl ?_)
  unfold Stop
  refine wp_store_all rfl _ _ _ rfl rfl rfl _ _ HR2.out info_rt rfl (by simp [Value.oneCell']) ?_
  intro w3 h3 k3 s3
  have hs := HSZ.out
  have HF : Hid (Lists w3 X.1 (.slice A2 X.1.rd.length ca2) (.slice C2 X.1.wr.length cb2) ∧ Below w.heap.size w w3) := Lib.hid (by
    have hle : w.heap.size ≤ W.heap.size := by omega
    have hb3 : Below w.heap.size w w1 := HB.out.trans (HB2.out.mono hle)
    refine ⟨⟨HL2.out.rd.keep k3 fun g hg e => ?_, HL2.out.wr.keep k3 fun g hg e => ?_⟩, below_at hb3 k3 (by omega)⟩
    · have := HN.out.1 g hg; have e2 : g = w.heap.size + 1 := e; omega
    · have := HN.out.2 g hg; have e2 : g = w.heap.size + 1 := e; omega)
  have HN3 : Hid ((∀ b, (Value.slice A2 X.1.rd.length ca2).ownBlock = some b → w.heap.size ≤ b) ∧ (∀ b, (Value.slice C2 X.1.wr.length cb2).ownBlock = some b → w.heap.size ≤ b)) := Lib.hid ⟨fun b hb => by have := HN.out.1 b hb; omega, fun b hb => by have := HN.out.2 b hb; omega⟩
  have HU4 := Lib.hid (fun b hb => Nat.lt_of_lt_of_le (HU3.out b hb) k3.size)
  clear hs
  obtain ⟨c0, c1, c2, c3, c4⟩ := row5 h3
  clear h3 k3 s3
  go_wp2_with fail
  refine bodyPost_ret (v := .tuple #[.agg #[.string X.1.owner, .string X.1.file, .int .i64 X.1.epoch, .slice A2 X.1.rd.length ca2, .slice C2 X.1.wr.length cb2], .int .i64 X.2]) (by simp [results, Tryz.results255, go_sem, c0, c1, c2, c3, c4]) rfl ⟨_, _, rfl, HF.out.1, HF.out.2, HN3.out.1, HN3.out.2, HU4.out⟩
set_option maxRecDepth 100000 in
set_option maxHeartbeats 2000000 in
theorem revoke1_calls {w : World} {r : Rt} {vr vw : Value} (u : ByteArray) (g1 : Nat) (hl : Lists w r vr vw) (hT : Tabs w) (hw : r.wf) (hu : u.size ≤ 9223372036854775807) (h1 : w.cell? ⟨g1, 0, none⟩ = some (.string u)) :
    Calls Tryz.prog 257 #[.agg #[.string r.owner, .string r.file, .int .i64 r.epoch, vr, vw], .pointer (some ⟨g1, 0, none⟩)] w fun e w' => RtRet w e w' (r.revoke u) := by
  obtain ⟨W, hW⟩ : ∃ W, (w.alloc (.cells (rtCells r vr vw) 39)).alloc (.cells #[.string ⟨#[]⟩, .string ⟨#[]⟩, .int .i64 0, .slice none 0 0, .slice none 0 0] 39) = W := ⟨_, rfl⟩
  have hb : Below w.heap.size w W := by rw [← hW]; exact ((Below.refl _ w).alloc (Nat.le_refl _) _).alloc (by simp [size_alloc]) _
  have hk : Keep (fun _ => False) w W := Keep.of_below hb
  have hr0 : W.heap[w.heap.size]? = some (.cells (rtCells r vr vw) 39 (0, 0)) := by rw [← hW, get_alloc, if_neg (by simp [size_alloc]), get_alloc, if_pos rfl]
  have hr1 : W.heap[w.heap.size + 1]? = some (.cells #[.string ⟨#[]⟩, .string ⟨#[]⟩, .int .i64 0, .slice none 0 0, .slice none 0 0] 39 (0, 0)) := by rw [← hW, get_alloc, if_pos (by simp [size_alloc])]
  have hC := revoke_calls _ r _ _ u (hl.below hb) (hT.below hb) hw hu
  have HC := Lib.hid hC
  have hl' := hl.below hb
  obtain ⟨A, ca, rfl, a1, a2, _⟩ := hl.rd
  obtain ⟨C, cb, rfl, b1, b2, _⟩ := hl.wr
  obtain ⟨X, hX⟩ : ∃ X, r.revoke u = X := ⟨_, rfl⟩
  rw [hX] at HC ⊢
  obtain ⟨ow, fi, ep, rd, wr'⟩ := r
  unfold rtCells at hr0
  dsimp only at hr0 HC a1 a2 b1 b2
  obtain ⟨c0, c1, c2, c3, c4⟩ := row5 hr0
  have d1 := hk.cell h1 fun e => e
  have HB := Lib.hid hb
  have HR1 := Lib.hid hr1
  have hs : W.heap.size = w.heap.size + 2 := by rw [← hW]; simp [size_alloc]
  have HSZ := Lib.hid hs
  unfold rtCells at hW
  dsimp only at hW
  clear hC hX hb hk hr0 hr1 hl hT hw hu hl' h1 hs
  go_enter Tryz.func257, Tryz.ntmps257
  go_wp2_with fail
  refine HC.out.mono ?_
  rintro e w1 ⟨vr2, vw2, rfl, hl2, hb2, n1, n2, n3⟩
  obtain ⟨A2, ca2, rfl, _, _, _⟩ := hl2.rd
  obtain ⟨C2, cb2, rfl, _, _, _⟩ := hl2.wr
  have hr2 := (Keep.of_below hb2 : Keep (fun _ => False) W w1).at HR1.out fun e => e
  have HR2 := Lib.hid hr2
  have HB2 := Lib.hid hb2
  have HL2 := Lib.hid hl2
  have HN := Lib.hid (And.intro n1 n2)
  have HU3 := Lib.hid n3
  clear hr2 hb2 hl2 n1 n2 n3 c0 c1 c2 c3 c4 d1 
  go_wp2_with (with_reducible refine wp_stop_store (o := ⟨none, .store _ (.tmp 3) _, _, _, _, _⟩) _ _ _ rfl ?_)
  unfold Stop
  refine wp_store_all rfl _ _ _ rfl rfl rfl _ _ HR2.out info_rt rfl (by simp [Value.oneCell']) ?_
  intro w3 h3 k3 s3
  have hs := HSZ.out
  have HF : Hid (Lists w3 X.1 (.slice A2 X.1.rd.length ca2) (.slice C2 X.1.wr.length cb2) ∧ Below w.heap.size w w3) := Lib.hid (by
    have hle : w.heap.size ≤ W.heap.size := by omega
    have hb3 : Below w.heap.size w w1 := HB.out.trans (HB2.out.mono hle)
    refine ⟨⟨HL2.out.rd.keep k3 fun g hg e => ?_, HL2.out.wr.keep k3 fun g hg e => ?_⟩, below_at hb3 k3 (by omega)⟩
    · have := HN.out.1 g hg; have e2 : g = w.heap.size + 1 := e; omega
    · have := HN.out.2 g hg; have e2 : g = w.heap.size + 1 := e; omega)
  have HN3 : Hid ((∀ b, (Value.slice A2 X.1.rd.length ca2).ownBlock = some b → w.heap.size ≤ b) ∧ (∀ b, (Value.slice C2 X.1.wr.length cb2).ownBlock = some b → w.heap.size ≤ b)) := Lib.hid ⟨fun b hb => by have := HN.out.1 b hb; omega, fun b hb => by have := HN.out.2 b hb; omega⟩
  have HU4 := Lib.hid (fun b hb => Nat.lt_of_lt_of_le (HU3.out b hb) k3.size)
  clear hs
  obtain ⟨c0, c1, c2, c3, c4⟩ := row5 h3
  clear h3 k3 s3
  go_wp2_with fail
  refine bodyPost_ret (v := .tuple #[.agg #[.string X.1.owner, .string X.1.file, .int .i64 X.1.epoch, .slice A2 X.1.rd.length ca2, .slice C2 X.1.wr.length cb2], .int .i64 X.2]) (by simp [results, Tryz.results257, go_sem, c0, c1, c2, c3, c4]) rfl ⟨_, _, rfl, HF.out.1, HF.out.2, HN3.out.1, HN3.out.2, HU4.out⟩
end Go.Proofs.YtckblcfkajpofaaGreatDoor
namespace Go.Proofs.YtckblcfkajpofaaGreatDoor
open Go.RowKit Go.Sort
set_option linter.unusedVariables false
set_option linter.unusedSimpArgs false

theorem own_lt {w : World} {base : Nat} {e : TypeId} {z n : Nat} {v : Value} {xs : List Value} (h : w.ownsRow base e z v n xs) {g : Nat} (hg : v.ownBlock = some g) : g < w.heap.size := by
  rcases h.2 with ⟨rfl, _⟩ | ⟨g', cap, cur, rfl, _, hb, _⟩
  · cases hg
  · cases hg; exact (Array.getElem?_eq_some_iff.1 hb).1
def Us.remove (U : Us) (f : ByteArray) : Us × Int := match U.own f with
  | none => (U, 4)
  | some o => ({ U with files := aput U.files f { o with gone := true } }, 0)
set_option maxRecDepth 100000 in
set_option maxHeartbeats 4000000 in
theorem remove_calls {w : World} {U : Us} {F : Nat → Prop} {p d b m : Nat} {rows : List (ByteArray × Rw)} (h : UsAt w U F p d b m rows) (hok : U.ok) (hT : Tabs w) (f : ByteArray) :
    Calls Tryz.prog 89 #[.pointer (some ⟨p, 0, none⟩), .string f] w fun e w' => UsRet w (U.remove f) F p d b m e w' := by
  have hO := uown_calls h hok f
  have HU := Lib.hid h
  have HT := Lib.hid hT
  obtain ⟨G, hG⟩ : ∃ G, U.remove f = G := ⟨_, rfl⟩
  rw [hG]
  unfold Us.remove at hG
  cases ho : U.own f with
  | none =>
    rw [ho] at hO hG
    dsimp only at hG
    have HC := Lib.hid hO
    have HG := Lib.hid hG.symm
    clear hO hG ho h hok hT
    go_enter Tryz.func89, Tryz.ntmps89
    go_wp2_with fail
    refine HC.out.mono ?_
    rintro e w1 ⟨hb, rfl⟩
    have HB := Lib.hid (hb.alloc hb.size (.cells #[.string ⟨#[]⟩, .string ⟨#[]⟩, .int .i64 0, .slice none 0 0, .slice none 0 0, .int .u64 0, .string ⟨#[]⟩, .slice none 0 0, .bool false] 111))
    have hwR : w.heap.size ≤ w1.heap.size := hb.size
    clear hb
    go_wp2_with (with_reducible refine wp_stop_store (o := ⟨none, .store _ (.tmp 5) _, _, _, _, _⟩) _ _ _ rfl ?_)
    unfold Stop
    refine wp_store_all rfl _ _ _ rfl rfl rfl _ _ ((get_alloc _ _ _).trans (if_pos rfl)) info_ow rfl (by simp [Value.oneCell']) ?_
    intro w3 h3 k3 s3
    have HB3 := Lib.hid (below_at HB.out k3 hwR)
    clear h3 k3 s3
    go_wp2_with fail
    go_ret
    rw [HG.out]
    exact UsRet.same HU.out HB3.out _
  | some o =>
    rw [ho] at hO hG
    dsimp only at hG
    obtain ⟨⟨ow, fi, ep, rd, wr⟩, ver, root, sg, gone⟩ := o
    have HC := Lib.hid hO
    have HG := Lib.hid hG.symm
    clear hO hG ho h hok hT
    go_enter Tryz.func89, Tryz.ntmps89
    go_wp2_with fail
    refine HC.out.mono ?_
    rintro e w1 ⟨hb, vr, vw, vs, rfl, hoo⟩
    have HOO := Lib.hid hoo
    obtain ⟨A2, ca2, rfl, _, _⟩ := own_slice hoo.rd
    obtain ⟨C2, cb2, rfl, _, _⟩ := own_slice hoo.wr
    obtain ⟨D2, cd2, rfl, _, _⟩ := own_slice hoo.sg
    have HB1 := Lib.hid hb
    have hbA := hb.alloc hb.size (.cells #[.string ⟨#[]⟩, .string ⟨#[]⟩, .int .i64 0, .slice none 0 0, .slice none 0 0, .int .u64 0, .string ⟨#[]⟩, .slice none 0 0, .bool false] 111)
    have HBA := Lib.hid hbA
    have hwR : w.heap.size ≤ w1.heap.size := hb.size
    clear hb hoo hbA
    go_wp2_with (with_reducible refine wp_stop_store (o := ⟨none, .store _ (.tmp 5) _, _, _, _, _⟩) _ _ _ rfl ?_)
    unfold Stop
    refine wp_store_all rfl _ _ _ rfl rfl rfl _ _ ((get_alloc _ _ _).trans (if_pos rfl)) info_ow rfl (by simp [Value.oneCell']) ?_
    intro w3 h3 k3 s3
    obtain ⟨Z, hZ⟩ : ∃ Z, w1.heap.size = Z := ⟨_, rfl⟩
    rw [size_alloc] at s3
    rw [hZ] at h3 k3 s3 hwR ⊢
    have hb3 : Below w.heap.size w w3 := below_at HBA.out k3 hwR
    have k13 : Keep (fun i => i = Z) w1 w3 := (Keep.alloc (fun i => i = Z) w1 _).same k3
    have o3 : OOwn w3 w.heap.size ⟨⟨ow, fi, ep, rd, wr⟩, ver, root, sg, gone⟩ (.slice A2 rd.length ca2) (.slice C2 wr.length cb2) (.slice D2 sg.length cd2) :=
      ⟨k13.own HOO.out.rd fun g hg e => by have := own_lt HOO.out.rd hg; omega, k13.own HOO.out.wr fun g hg e => by have := own_lt HOO.out.wr hg; omega, k13.own HOO.out.sg fun g hg e => by have := own_lt HOO.out.sg hg; omega⟩
    have HLT : Hid (∀ g, ((Value.slice A2 rd.length ca2).ownBlock = some g ∨ (Value.slice C2 wr.length cb2).ownBlock = some g ∨ (Value.slice D2 sg.length cd2).ownBlock = some g) → w.heap.size ≤ g ∧ g < Z) := Lib.hid fun g hg => by
      rw [← hZ]
      rcases hg with hg | hg | hg
      · exact ⟨own_new HOO.out.rd g hg, own_lt HOO.out.rd hg⟩
      · exact ⟨own_new HOO.out.wr g hg, own_lt HOO.out.wr hg⟩
      · exact ⟨own_new HOO.out.sg g hg, own_lt HOO.out.sg hg⟩
    -- the mark
    have c8 := (row9 h3).2.2.2.2.2.2.2.2
    have f8 := frozen_of_row h3 8
    have hr4 := set_at h3 8 (.bool true)
    have hk4 : Keep (fun i => i = Z) w3 (w3.setCell ⟨Z, 8, none⟩ (.bool true)) := Keep.setCell (fun i => i = Z) w3 (p := ⟨Z, 8, none⟩) rfl _
    obtain ⟨W4, hW4⟩ : ∃ W4, w3.setCell ⟨Z, 8, none⟩ (.bool true) = W4 := ⟨_, rfl⟩
    rw [hW4] at hr4 hk4
    simp at hr4
    have hb4 : Below w.heap.size w W4 := below_at hb3 hk4 hwR
    have o4 : OOwn W4 w.heap.size ⟨⟨ow, fi, ep, rd, wr⟩, ver, root, sg, gone⟩ (.slice A2 rd.length ca2) (.slice C2 wr.length cb2) (.slice D2 sg.length cd2) :=
      ⟨hk4.own o3.rd fun g hg e => by have := (HLT.out g (Or.inl hg)).2; have e2 : g = Z := e; omega, hk4.own o3.wr fun g hg e => by have := (HLT.out g (Or.inr (Or.inl hg))).2; have e2 : g = Z := e; omega, hk4.own o3.sg fun g hg e => by have := (HLT.out g (Or.inr (Or.inr hg))).2; have e2 : g = Z := e; omega⟩
    have hZlt : Z < W4.heap.size := (Array.getElem?_eq_some_iff.1 hr4).1
    have HB4 := Lib.hid hb4
    have HO4 := Lib.hid o4
    have HR4 := Lib.hid hr4
    have HZL := Lib.hid hZlt
    clear h3 k3 s3 hb3 k13 o3 hr4 hk4 hb4 o4 hZlt
    go_wp2_with fail
    have hZ9 : W4.drew.heap[Z]? = _ := HR4.out
    have hU9 := (HU.out.below HB4.out).below (Below.refl _ W4).drew
    have HU9 := Lib.hid hU9
    have HM9 := Lib.hid hU9.map
    have hp4 := hU9.cells.2.2.2.2
    have HQ := row9 hZ9
    clear hZ9 hU9 c8 f8 hW4
    refine wp_region_G (fun w' => w'.cell? ⟨p, 4, none⟩ = some (.map (some m)) ∧ w'.cell? ⟨Z, 0, none⟩ = some (.string ow) ∧ w'.cell? ⟨Z, 1, none⟩ = some (.string fi) ∧ w'.cell? ⟨Z, 2, none⟩ = some (.int .i64 ep) ∧ w'.cell? ⟨Z, 3, none⟩ = some (.slice A2 rd.length ca2) ∧ w'.cell? ⟨Z, 4, none⟩ = some (.slice C2 wr.length cb2) ∧ w'.cell? ⟨Z, 5, none⟩ = some (.int .u64 ver) ∧ w'.cell? ⟨Z, 6, none⟩ = some (.string root) ∧ w'.cell? ⟨Z, 7, none⟩ = some (.slice D2 sg.length cd2) ∧ w'.cell? ⟨Z, 8, none⟩ = some (.bool true)) [6] (by kernel_rfl) ?_
    have hS := And.intro hp4 HQ
    clear HQ hp4
    refine wpAnyG_pure (i := 0) (v := ?vd0) at0 (by kernel_rfl) (fun _ _ _ h => h) (Or.inl ⟨by rfl, ?hd0⟩) (Or.inr (by assumption)) ?rd0
    case hd0 => (intro w hSw; (try dsimp only at hSw); go_simp; try with_reducible rfl)
    case' rd0 => skip
    try simp only [Act.put, List.setIfInBounds_toArray, List.set_cons_zero, List.set_cons_succ]
    refine wpAnyG_pure (i := 1) (v := ?vd1) at1 (by kernel_rfl) (fun _ _ _ h => h) (Or.inl ⟨by rfl, ?hd1⟩) (Or.inr (by assumption)) ?rd1
    case hd1 => (intro w hSw; (try dsimp only at hSw); go_simp; try with_reducible rfl)
    case' rd1 => skip
    try simp only [Act.put, List.setIfInBounds_toArray, List.set_cons_zero, List.set_cons_succ]
    refine wpAnyG_pure (i := 2) (v := ?vd2) at2 (by kernel_rfl) (fun _ _ _ h => h) (Or.inl ⟨by rfl, ?hd2⟩) (Or.inr (by assumption)) ?rd2
    case hd2 => (intro w hSw; (try dsimp only at hSw); go_simp; try with_reducible rfl)
    case' rd2 => skip
    try simp only [Act.put, List.setIfInBounds_toArray, List.set_cons_zero, List.set_cons_succ]
    refine wpAnyG_take (ws := [3,5]) (i := 3) (v := ?vd3) at3 (by kernel_rfl) (fun _ _ _ h => h) (Or.inl ⟨by rfl, ?hd3⟩) (by assumption) ?rd3
    case hd3 => (intro w hSw; (try dsimp only at hSw); go_simp; try with_reducible rfl)
    case' rd3 => skip
    try simp only [Act.put, List.setIfInBounds_toArray, List.set_cons_zero, List.set_cons_succ]
    refine wpAnyG_pure (i := 4) (v := ?vd4) at4 (by kernel_rfl) (fun _ _ _ h => h) (Or.inl ⟨by rfl, ?hd4⟩) (Or.inr (by assumption)) ?rd4
    case hd4 => (intro w hSw; (try dsimp only at hSw); go_simp; try with_reducible rfl)
    case' rd4 => skip
    try simp only [Act.put, List.setIfInBounds_toArray, List.set_cons_zero, List.set_cons_succ]
    refine wpAnyG_take (ws := [3,5]) (i := 5) (v := ?vd5) at5 (by kernel_rfl) (fun _ _ _ h => h) (Or.inl ⟨by rfl, ?hd5⟩) (by assumption) ?rd5
    case hd5 => (intro w hSw; (try dsimp only at hSw); go_simp; try with_reducible rfl)
    case' rd5 => skip
    try simp only [Act.put, List.setIfInBounds_toArray, List.set_cons_zero, List.set_cons_succ]
    refine wpAnyG_one 6 at6 (by kernel_rfl) (fun Kn hK => ?_)
    refine step_upd rfl _ _ _ _ rfl lawS 111 Tryz.underlying160 m _ rfl HM9.out f rfl _ rfl ?_
    intro w10 hm10 hg10 hz10
    refine hK.out _ _ (Or.inl (by kernel_rfl)) ?_
    have hFin : Hid (UsRet w G F p d b m (.returned (.int .i64 0)) w10) := Lib.hid (by
      rw [HG.out]
      have o9 : OOwn W4.drew w.heap.size ⟨⟨ow, fi, ep, rd, wr⟩, ver, root, sg, gone⟩ (.slice A2 rd.length ca2) (.slice C2 wr.length cb2) (.slice D2 sg.length cd2) :=
        ⟨own_below HO4.out.rd (Below.refl _ W4).drew, own_below HO4.out.wr (Below.refl _ W4).drew, own_below HO4.out.sg (Below.refl _ W4).drew⟩
      have hFl := HU.out.lt
      have hput := HU9.out.put (F' := fun i => F i ∨ ((Value.slice A2 rd.length ca2).ownBlock = some i ∨ (Value.slice C2 wr.length cb2).ownBlock = some i ∨ (Value.slice D2 sg.length cd2).ownBlock = some i)) (k := f) (r := ⟨⟨⟨ow, fi, ep, rd, wr⟩, ver, root, sg, true⟩, .slice A2 rd.length ca2, .slice C2 wr.length cb2, .slice D2 sg.length cd2⟩) hm10 hg10 ⟨o9.lists.rt, o9.lists.sg⟩ (by
        intro g hg
        have h1 := HLT.out g hg
        have := hFl _ HU.out.fp
        have := hFl _ HU.out.fd
        have := hFl _ HU.out.fb
        have := hFl _ HU.out.fm
        exact ⟨Or.inr hg, by omega, by omega, by omega, by omega⟩) (fun i hi => Or.inl hi) (by
        intro i hi
        have hzl : Z < W4.drew.heap.size := HZL.out
        rcases hi with hi | hi
        · exact HU9.out.lt i hi
        · have := HLT.out i hi; omega) (by
        have := HT.out.lt.1
        rintro (hi | hi)
        · exact HU.out.t3 hi
        · have := HLT.out _ hi; omega) (by
        have := HT.out.lt.2
        rintro (hi | hi)
        · exact HU.out.t4 hi
        · have := HLT.out _ hi; omega)
      refine ⟨rfl, _, _, hput, ?_, fun i hi => Or.inl hi, fun i hi => ?_⟩
      · exact ((Keep.of_below HB4.out).same (Keep.drew F W4)).same (Keep.of_grown hg10 fun i hi => by cases hi; exact HU.out.fm)
      · rcases hi with hi | hi
        · exact Or.inl hi
        · exact Or.inr (HLT.out i hi).1)
    clear hK Kn hS hm10 hg10 hz10
    refine wpAnyG_done (by kernel_rfl) ?_
    try simp only [Act.put, List.setIfInBounds_toArray, List.set_cons_zero, List.set_cons_succ]
    go_wp2_with fail
    go_ret
    exact hFin.out
end Go.Proofs.YtckblcfkajpofaaGreatDoor
namespace Go.Proofs.YtckblcfkajpofaaGreatDoor
open Go.RowKit Go.Sort
set_option linter.unusedVariables false
set_option linter.unusedSimpArgs false

def sgLen (w : World) (Z : Nat) : Nat := match w.cell? ⟨Z, 7, none⟩ with
  | some (.slice _ n _) => n
  | _ => 0
def Us.changed (U : Us) (f : ByteArray) (o : Ow) (r : Rt) : Us :=
  if r.epoch < o.sg.length then { U with files := aput U.files f ⟨r, (o.ver + 1) % 18446744073709551616, o.root, o.sg, o.gone⟩ }
  else { U with drew := U.drew + 1, files := aput U.files f ⟨r, (o.ver + 1) % 18446744073709551616, o.root, o.sg ++ [secT ⟨#[115, 105, 103, 110]⟩ (pathB U.name f) (drawN U.seed U.drew)], o.gone⟩ }
def Us.change (U : Us) (f : ByteArray) (g : Rt → Rt × Int) : Us × Int := match U.own f with
  | none => (U, 4)
  | some o => if (g o.r).2 ≠ 0 then (U, (g o.r).2) else (U.changed f o (g o.r).1, 0)
abbrev owRow (r : Rt) (vr vw : Value) (ver : Nat) (root : ByteArray) (vs : Value) (gone : Bool) : Array Value := #[.string r.owner, .string r.file, .int .i64 r.epoch, vr, vw, .int .u64 ver, .string root, vs, .bool gone]
/-- in the loop: so many are drawn -/
structure ChSt (w wr : World) (U : Us) (F : Nat → Prop) (p d b m : Nat) (rows : List (ByteArray × Rw)) (Z : Nat) (r : Rt) (vr vw : Value) (ver : Nat) (root : ByteArray) (vs : Value) (sg : List ByteArray) (k : Nat) : Prop where
  us : UsAt wr { U with drew := U.drew + k } F p d b m rows
  keep : Keep F w wr
  row : wr.heap[Z]? = some (.cells (owRow r vr vw ver root vs false) 111 (0, 0))
  ls : Lists wr r vr vw
  own : wr.ownsRow w.heap.size 9 1 vs sg.length (strV sg)
  lb : ∀ g, (vr.ownBlock = some g ∨ vw.ownBlock = some g) → w.heap.size ≤ g ∧ g < wr.heap.size
theorem Us.own_some {U : Us} {f : ByteArray} {o : Ow} (h : U.own f = some o) : aget U.files f = some o ∧ o.gone = false := by
  unfold Us.own at h
  cases ha : aget U.files f with
  | none => rw [ha] at h; cases h
  | some q =>
    rw [ha] at h
    dsimp only at h
    cases hg : q.gone with
    | true => rw [hg] at h; cases h
    | false => rw [hg] at h; cases h; exact ⟨rfl, hg⟩
set_option maxRecDepth 100000 in
set_option maxHeartbeats 4000000 in
theorem change_none {w : World} {U : Us} {F : Nat → Prop} {p d b m : Nat} {rows : List (ByteArray × Rw)} (h : UsAt w U F p d b m rows) (hok : U.ok) (f : ByteArray) (v : Value) (g : Rt → Rt × Int) (ho : U.own f = none) :
    Calls Tryz.prog 254 #[.pointer (some ⟨p, 0, none⟩), .string f, v] w fun e w' => UsRet w (U.change f g) F p d b m e w' := by
  have hO := uown_calls h hok f
  have HU := Lib.hid h
  obtain ⟨G, hG⟩ : ∃ G, U.change f g = G := ⟨_, rfl⟩
  rw [hG]
  unfold Us.change at hG
  rw [ho] at hO hG
  dsimp only at hG
  have HC := Lib.hid hO
  have HG := Lib.hid hG.symm
  clear hO hG ho h hok
  go_enter Tryz.func254, Tryz.ntmps254
  go_wp2_with fail
  refine HC.out.mono ?_
  rintro e w1 ⟨hb, rfl⟩
  have HB := Lib.hid (hb.alloc hb.size (.cells #[.string ⟨#[]⟩, .string ⟨#[]⟩, .int .i64 0, .slice none 0 0, .slice none 0 0, .int .u64 0, .string ⟨#[]⟩, .slice none 0 0, .bool false] 111))
  have hwR : w.heap.size ≤ w1.heap.size := hb.size
  clear hb
  go_wp2_with (with_reducible refine wp_stop_store (o := ⟨none, .store _ (.tmp 7) _, _, _, _, _⟩) _ _ _ rfl ?_)
  unfold Stop
  refine wp_store_all rfl _ _ _ rfl rfl rfl _ _ ((get_alloc _ _ _).trans (if_pos rfl)) info_ow rfl (by simp [Value.oneCell']) ?_
  intro w3 h3 k3 s3
  have HB3 := Lib.hid (below_at HB.out k3 hwR)
  clear h3 k3 s3
  go_wp2_with fail
  go_ret
  rw [HG.out]
  exact UsRet.same HU.out HB3.out _
set_option maxRecDepth 100000 in
set_option maxHeartbeats 8000000 in
theorem change_walk {w : World} {U : Us} {F : Nat → Prop} {p d b m : Nat} {rows : List (ByteArray × Rw)} (h : UsAt w U F p d b m rows) (hok : U.ok) (hT : Tabs w) (hd : U.drew ≤ 90000) (f : ByteArray) (KF : FuncId) (caps : Array Value) (r' : Rt) (er : Int) (o : Ow) (ho : U.own f = some o)
    (hcf : ∀ (W : World) (vr vw : Value), (callFunc KF (#[.agg #[.string o.r.owner, .string o.r.file, .int .i64 o.r.epoch, vr, vw]] ++ caps)).run Tryz.prog W = .ok (.enter KF (#[.agg #[.string o.r.owner, .string o.r.file, .int .i64 o.r.epoch, vr, vw]] ++ caps)) W)
    (hdo : ∀ W vr vw, Below w.heap.size w W → Lists W o.r vr vw → Calls Tryz.prog KF (#[.agg #[.string o.r.owner, .string o.r.file, .int .i64 o.r.epoch, vr, vw]] ++ caps) W fun e w' => RtRet W e w' (r', er))
    (hx : er = 0 → r'.epoch = o.r.epoch ∨ r'.epoch = o.r.epoch + 1) :
    Calls Tryz.prog 254 #[.pointer (some ⟨p, 0, none⟩), .string f, .func (.func KF) #[] caps] w fun e w' => UsRet w (if er ≠ 0 then (U, er) else (U.changed f o r', 0)) F p d b m e w' := by
  have hO := uown_calls h hok f
  have HU := Lib.hid h
  have HT := Lib.hid hT
  obtain ⟨hag, hgone⟩ := Us.own_some ho
  have hOk := hok.all f o hag
  have hsm := hOk.small
  have hsgn := hOk.sgn
  have hver := hOk.ver
  have hnf : nameR f = true := by
    have := Rt.right_head hOk.right
    rw [← hOk.file]; exact this.2.2.2.2.2.2
  have hnu := hok.name
  obtain ⟨G, hG⟩ : ∃ G, (if er ≠ 0 then (U, er) else (U.changed f o r', (0 : Int))) = G := ⟨_, rfl⟩
  rw [hG]
  rw [ho] at hO
  obtain ⟨⟨ow, fi, ep, rd, wl⟩, ver, root, sg, gone⟩ := o
  dsimp only at hgone
  subst hgone
  have HC := Lib.hid hO
  have HG := Lib.hid hG.symm
  have HDO := Lib.hid hdo
  have HCF := Lib.hid hcf
  have HX := Lib.hid hx
  dsimp only at hsm hsgn hver
  have HNF := Lib.hid hnf
  have HNU := Lib.hid hnu
  have HSM := Lib.hid hsm
  clear hO hG ho h hok hT hdo hcf hx hag hOk hnf hnu hsm
  go_enter Tryz.func254, Tryz.ntmps254
  go_wp2_with fail
  refine HC.out.mono ?_
  rintro e w1 ⟨hb, vr0, vw0, vs0, rfl, hoo⟩
  have HOO := Lib.hid hoo
  obtain ⟨A2, ca2, rfl, _, _⟩ := own_slice hoo.rd
  obtain ⟨C2, cb2, rfl, _, _⟩ := own_slice hoo.wr
  obtain ⟨D2, cd2, rfl, _, _⟩ := own_slice hoo.sg
  have hbA := hb.alloc hb.size (.cells #[.string ⟨#[]⟩, .string ⟨#[]⟩, .int .i64 0, .slice none 0 0, .slice none 0 0, .int .u64 0, .string ⟨#[]⟩, .slice none 0 0, .bool false] 111)
  have HBA := Lib.hid hbA
  have hwR : w.heap.size ≤ w1.heap.size := hb.size
  clear hb hoo hbA
  go_wp2_with (with_reducible refine wp_stop_store (o := ⟨none, .store _ (.tmp 7) _, _, _, _, _⟩) _ _ _ rfl ?_)
  unfold Stop
  refine wp_store_all rfl _ _ _ rfl rfl rfl _ _ ((get_alloc _ _ _).trans (if_pos rfl)) info_ow rfl (by simp [Value.oneCell']) ?_
  intro w3 h3 k3 s3
  obtain ⟨Z, hZ⟩ : ∃ Z, w1.heap.size = Z := ⟨_, rfl⟩
  rw [size_alloc] at s3
  rw [hZ] at h3 k3 s3 hwR ⊢
  have hb3 : Below w.heap.size w w3 := below_at HBA.out k3 hwR
  have k13 : Keep (fun i => i = Z) w1 w3 := (Keep.alloc (fun i => i = Z) w1 _).same k3
  have o3 : OOwn w3 w.heap.size ⟨⟨ow, fi, ep, rd, wl⟩, ver, root, sg, false⟩ (.slice A2 rd.length ca2) (.slice C2 wl.length cb2) (.slice D2 sg.length cd2) :=
    ⟨k13.own HOO.out.rd fun g hg e => by have := own_lt HOO.out.rd hg; omega, k13.own HOO.out.wr fun g hg e => by have := own_lt HOO.out.wr hg; omega, k13.own HOO.out.sg fun g hg e => by have := own_lt HOO.out.sg hg; omega⟩
  have HL3 := Lib.hid (HDO.out w3 _ _ hb3 o3.lists.rt)
  have hcf3 := HCF.out w3 (.slice A2 rd.length ca2) (.slice C2 wl.length cb2)
  have HVB : Hid (∀ g, (Value.slice D2 sg.length cd2).ownBlock = some g → g < w3.heap.size) := Lib.hid fun g hg => own_lt o3.sg hg
  have HS3 := Lib.hid o3.sg
  have HB3 := Lib.hid hb3
  have HR3 := Lib.hid h3
  obtain ⟨e0, e1, e2, e3, e4, e5, e6, e7, e8⟩ := row9 h3
  clear h3 k3 s3 hb3 k13 o3
  go_wp2_with fail
  refine HL3.out.mono ?_
  rintro e w4 ⟨vr4, vw4, rfl, hl4, hb4, n1, n2, n3⟩
  dsimp only at hl4 n1 n2 n3
  have hR4 := (Keep.of_below hb4 : Keep (fun _ => False) w3 w4).at HR3.out fun e => e
  have HR4 := Lib.hid hR4
  have HB4 := Lib.hid (HB3.out.trans (hb4.mono HB3.out.size))
  have HS4 := Lib.hid (own_below HS3.out hb4)
  have HN4 : Hid (∀ g, (vr4.ownBlock = some g ∨ vw4.ownBlock = some g) → w3.heap.size ≤ g ∧ g < w4.heap.size) := Lib.hid fun g hg => ⟨by rcases hg with hg | hg; exact n1 g hg; exact n2 g hg, n3 g hg⟩
  obtain ⟨A4, ca4, rfl, _, _, _⟩ := hl4.rd
  obtain ⟨C4, cb4, rfl, _, _, _⟩ := hl4.wr
  have HL4 := Lib.hid hl4
  have hZ3 : Z < w3.heap.size := (Array.getElem?_eq_some_iff.1 HR3.out).1
  clear hR4 hb4 hl4 n1 n2 n3 e0 e1 e2 e3 e4 e5 e6 e7 e8 hcf3
  go_wp2_with (with_reducible refine wp_stop_store (o := ⟨none, .store _ (.tmp 27) _, _, _, _, _⟩) _ _ _ rfl ?_)
  unfold Stop
  refine wp_store_row rfl _ _ _ rfl rfl rfl _ _ HR4.out info_rt (by simp) (by simp [Value.oneCell']) ?_
  intro w5 h5 k5 s5
  have hr5 : w5.heap[Z]? = some (.cells (owRow r' (.slice A4 r'.rd.length ca4) (.slice C4 r'.wr.length cb4) ver root (.slice D2 sg.length cd2) false) 111 (0, 0)) := by
    rw [h5]; simp [rowPut]
  have hb5 : Below w.heap.size w w5 := below_at HB4.out k5 hwR
  have HB5 := Lib.hid hb5
  have hl5 : Lists w5 r' (.slice A4 r'.rd.length ca4) (.slice C4 r'.wr.length cb4) :=
    ⟨HL4.out.rd.keep k5 fun g hg e => by have := (HN4.out g (Or.inl hg)).1; have e2 : g = Z := e; omega, HL4.out.wr.keep k5 fun g hg e => by have := (HN4.out g (Or.inr hg)).1; have e2 : g = Z := e; omega⟩
  have hs5 : w5.ownsRow w.heap.size 9 1 (.slice D2 sg.length cd2) sg.length (strV sg) := k5.own HS4.out fun g hg e => own_ne_type HS4.out HR4.out (by decide) hg e
  have HL5 := Lib.hid hl5
  have HS5 := Lib.hid hs5
  have HR5 := Lib.hid hr5
  have HZ5 : Hid (w5.heap.size = w4.heap.size) := Lib.hid s5
  clear h5 k5 s5 hb5 hl5 hs5 hr5
  by_cases hx0 : er = 0
  · subst hx0
    rw [if_neg (by simp)] at HG
    have hx : r'.epoch = ep ∨ r'.epoch = ep + 1 := HX.out rfl
    have hwr : IntKind.u64.wrap ((ver : Int) + 1) = (((ver + 1) % 18446744073709551616 : Nat) : Int) := by rw [IntKind.wrap_u64]; omega
    obtain ⟨v2, hv2⟩ : ∃ v2, (ver + 1) % 18446744073709551616 = v2 := ⟨_, rfl⟩
    rw [hv2] at hwr
    have HV2 := Lib.hid hv2
    have hr5 := HR5.out
    obtain ⟨e0, e1, e2, e3, e4, e5, e6, e7, e8⟩ := row9 hr5
    have f5 := frozen_of_row hr5 5
    have hr6 := set_at hr5 5 (.int .u64 (v2 : Int))
    have k6 : Keep (fun i => i = Z) w5 (w5.setCell ⟨Z, 5, none⟩ (.int .u64 (v2 : Int))) := Keep.setCell (fun i => i = Z) w5 (p := ⟨Z, 5, none⟩) rfl _
    obtain ⟨W6, hW6⟩ : ∃ W6, w5.setCell ⟨Z, 5, none⟩ (.int .u64 (v2 : Int)) = W6 := ⟨_, rfl⟩
    rw [hW6] at hr6 k6
    simp at hr6
    have hb6 : Below w.heap.size w W6 := below_at HB5.out k6 hwR
    have hLT : ∀ g, ((Value.slice A4 r'.rd.length ca4).ownBlock = some g ∨ (Value.slice C4 r'.wr.length cb4).ownBlock = some g) → w3.heap.size ≤ g ∧ g < W6.heap.size := fun g hg => by
      have h1 := HN4.out g hg
      have h2 := k6.size
      have h3 := HZ5.out
      exact ⟨h1.1, by omega⟩
    have hst : ChSt w W6 U F p d b m rows Z r' (.slice A4 r'.rd.length ca4) (.slice C4 r'.wr.length cb4) v2 root (.slice D2 sg.length cd2) sg 0 :=
      ⟨HU.out.below hb6, Keep.of_below hb6, hr6, ⟨HL5.out.rd.keep k6 fun g hg e => by have := (HN4.out g (Or.inl hg)).1; have e2 : g = Z := e; omega, HL5.out.wr.keep k6 fun g hg e => by have := (HN4.out g (Or.inr hg)).1; have e2 : g = Z := e; omega⟩,
        k6.own HS5.out fun g hg e => own_ne_type HS5.out HR5.out (by decide) hg e, fun g hg => ⟨by have := hLT g hg; have := HB3.out.size; omega, (hLT g hg).2⟩⟩
    have HST0 := Lib.hid hst
    have HLT := Lib.hid (fun g hg => (HN4.out g hg).1)
    have hZw : w.heap.size ≤ Z := hwR
    obtain ⟨pth, hpth⟩ : ∃ pth, pathB U.name f = pth := ⟨_, rfl⟩
    obtain ⟨sn, hsn⟩ : ∃ sn, secT ⟨#[115, 105, 103, 110]⟩ pth (drawN U.seed U.drew) = sn := ⟨_, rfl⟩
    have HSN := Lib.hid hsn
    have HPTH := Lib.hid hpth
    have hpz : pth.size ≤ 1000000 := by
      have h1 := nameR_size HNU.out
      have h2 := nameR_size HNF.out
      rw [← hpth]; unfold pathB; rw [ByteArray.size_append, ByteArray.size_append]; have : (⟨#[47]⟩ : ByteArray).size = 1 := rfl; omega
    clear hr5 hr6 k6 hb6 hLT hst hv2 hpth hsn
    go_wp2_with fail
    clear e0 e1 e2 e3 e4 e5 e6 e7 e8 f5 hW6
    go_loopw [9] (fun pa wr => ∃ (k : Nat) (vs : Value) (sgk : List ByteArray), k ≤ 1 ∧ (k = 0 → vs = .slice D2 sg.length cd2 ∧ sgk = sg) ∧ (k = 1 → ¬ r'.epoch < sg.length ∧ sgk = sg ++ [sn]) ∧ Hid (ChSt w wr U F p d b m rows Z r' (.slice A4 r'.rd.length ca4) (.slice C4 r'.wr.length cb4) v2 root vs sgk k)) (fun _ wr => 30 - sgLen wr Z)
    case atStart => exact ⟨0, _, _, by omega, fun _ => ⟨rfl, rfl⟩, fun h => by omega, HST0⟩
    case round =>
      obtain ⟨k, vs, sgk, hk, hk0, hk1, HSt⟩ := hrel
      obtain ⟨D7, cd7, rfl, _, _⟩ := own_slice HSt.out.own
      have hlen : sgk.length ≤ 9 := by
        have := HSM.out
        by_cases h0 : k = 0
        · rw [(hk0 h0).2]; omega
        · rw [(hk1 (by omega)).2, List.length_append]; simp; omega
      obtain ⟨e0, e1, e2, e3, e4, e5, e6, e7, e8⟩ := row9 HSt.out.row
      by_cases hgo : (sgk.length : Int) ≤ r'.epoch
      · have hk00 : k = 0 := by
          by_cases h0 : k = 0
          · exact h0
          · have h1 := (hk1 (by omega)).2
            rw [h1, List.length_append] at hgo
            simp at hgo
            omega
        subst hk00
        obtain ⟨hv7, hsg7⟩ := hk0 rfl
        subst hsg7
        obtain ⟨rfl, rfl⟩ : D7 = D2 ∧ cd7 = cd2 := by cases hv7; exact ⟨rfl, rfl⟩
        have hus := HSt.out.us
        obtain ⟨c0, c1, c2, c3, c4⟩ := hus.cells
        dsimp only at c0
        have hTr : Tabs wr := HT.out.keep HSt.out.keep HU.out.t3 HU.out.t4
        have hP := path_calls wr U.name f hTr HNU.out HNF.out
        rw [HPTH.out] at hP
        have HP := Lib.hid hP
        clear hP hTr hus hk0 hk1
        go_wp2_with fail
        refine HP.out.mono ?_
        rintro e w7 ⟨rfl, hb7⟩
        have hst7 : ChSt w w7 U F p d b m rows Z r' (.slice A4 r'.rd.length ca4) (.slice C4 r'.wr.length cb4) v2 root (.slice D7 sgk.length cd7) sgk 0 :=
          ⟨HSt.out.us.below hb7, HSt.out.keep.same (Keep.of_below hb7), (Keep.of_below hb7 : Keep (fun _ => False) wr w7).at HSt.out.row fun e => e, HSt.out.ls.below hb7, own_below HSt.out.own hb7, fun g hg => ⟨(HSt.out.lb g hg).1, Nat.lt_of_lt_of_le (HSt.out.lb g hg).2 hb7.size⟩⟩
        have H7 := Lib.hid hst7
        clear hst7 hb7 c0 c1 c2 c3 c4 e0 e1 e2 e3 e4 e5 e6 e7 e8
        go_wp2_with fail
        refine wp_region_G (fun w' => w'.cell? ⟨Z, 7, none⟩ = some (.slice D7 sgk.length cd7)) [8] (by kernel_rfl) ?_
        have hrow : w7.drew.heap[Z]? = _ := H7.out.row
        have hS : (fun w' : World => w'.cell? ⟨Z, 7, none⟩ = some (.slice D7 sgk.length cd7)) w7.drew := (row9 hrow).2.2.2.2.2.2.2.1
        refine wpAnyG_pure (i := 0) (v := ?va0) at0 (by kernel_rfl) (fun _ _ _ h => h) (Or.inl ⟨by rfl, ?ha0⟩) (Or.inr (by assumption)) ?ra0
        case ha0 => (intro w hSw; (try dsimp only at hSw); go_simp; try with_reducible rfl)
        case' ra0 => skip
        try simp only [Act.put, List.setIfInBounds_toArray, List.set_cons_zero, List.set_cons_succ]
        refine wpAnyG_take (ws := [1]) (i := 1) (v := ?va1) at1 (by kernel_rfl) (fun _ _ _ h => h) (Or.inl ⟨by rfl, ?ha1⟩) (by assumption) ?ra1
        case ha1 => (intro w hSw; (try dsimp only at hSw); go_simp; try with_reducible rfl)
        case' ra1 => skip
        try simp only [Act.put, List.setIfInBounds_toArray, List.set_cons_zero, List.set_cons_succ]
        refine wpAnyG_pure (i := 2) (v := ?va2) at2 (by kernel_rfl) (fun _ _ _ h => h) (Or.inl ⟨by rfl, ?ha2⟩) (Or.inr (by assumption)) ?ra2
        case ha2 => (intro w hSw; (try dsimp only at hSw); go_simp; try with_reducible rfl)
        case' ra2 => skip
        try simp only [Act.put, List.setIfInBounds_toArray, List.set_cons_zero, List.set_cons_succ]
        refine wpAnyG_pure (i := 3) (v := ?va3) at3 (by kernel_rfl) (fun _ _ _ h => h) (Or.inl ⟨by rfl, ?ha3⟩) (Or.inr (by assumption)) ?ra3
        case ha3 => (intro w hSw; (try dsimp only at hSw); go_simp; try with_reducible rfl)
        case' ra3 => skip
        try simp only [Act.put, List.setIfInBounds_toArray, List.set_cons_zero, List.set_cons_succ]
        refine wpAnyG_one 4 at4 (by kernel_rfl) (fun Kn hK => ?_)
        go_simp
        have hD := drawn_calls (H7.out.us.below (Below.refl _ w7).drew) (by show U.drew + 0 < 1000000; omega) ⟨#[115, 105, 103, 110]⟩ pth (by decide) hpz
        rw [show secT ⟨#[115, 105, 103, 110]⟩ pth (drawN (({ U with drew := U.drew + 0 } : Us).seed) (({ U with drew := U.drew + 0 } : Us).drew)) = sn from HSN.out] at hD
        refine hD.mono ?_
        rintro e w8 ⟨rfl, hU8, hk8⟩
        have hFd := HU.out.fd
        have hFb := HU.out.fb
        have hFl := HU.out.lt
        have hdb : ∀ g, w.heap.size ≤ g → ¬ (g = d ∨ g = b) := fun g hg e => by have := hFl _ hFd; have := hFl _ hFb; omega
        have hk78 : Keep (fun i => i = d ∨ i = b) w7 w8 := (Keep.drew _ w7).same hk8
        have hrow8 := hk78.at H7.out.row (hdb Z hZw)
        have hS8 : (fun w' : World => w'.cell? ⟨Z, 7, none⟩ = some (.slice D7 sgk.length cd7)) w8 := (row9 hrow8).2.2.2.2.2.2.2.1
        refine hK.out _ _ (Or.inr hS8) ?_
        have hkF : Keep F w w8 := H7.out.keep.same (hk78.mono fun i hi => by rcases hi with rfl | rfl; exact hFd; exact hFb)
        have ho8 : w8.ownsRow w.heap.size 9 1 (.slice D7 sgk.length cd7) sgk.length (strV sgk) := hk78.own H7.out.own fun g hg => hdb g (own_new H7.out.own g hg)
        have hl8 : Lists w8 r' (.slice A4 r'.rd.length ca4) (.slice C4 r'.wr.length cb4) := ⟨H7.out.ls.rd.keep hk78 fun g hg => hdb g (H7.out.lb g (Or.inl hg)).1, H7.out.ls.wr.keep hk78 fun g hg => hdb g (H7.out.lb g (Or.inr hg)).1⟩
        have hlb8 : ∀ g, ((Value.slice A4 r'.rd.length ca4).ownBlock = some g ∨ (Value.slice C4 r'.wr.length cb4).ownBlock = some g) → w.heap.size ≤ g ∧ g < w8.heap.size := fun g hg => ⟨(H7.out.lb g hg).1, Nat.lt_of_lt_of_le (H7.out.lb g hg).2 hk78.size⟩
        obtain ⟨v9, w9, hrun, ho9, hk9⟩ := append_str ho8 sn (by omega) (Nat.le_trans H7.out.keep.size hk78.size)
        obtain ⟨D9, cd9, rfl, _, _⟩ := own_slice ho9
        have hvF : ∀ g, (Value.slice D7 sgk.length cd7).ownBlock = some g → w.heap.size ≤ g ∧ g < w3.heap.size ∧ g ≠ Z := fun g hg => ⟨own_new ho8 g hg, HVB.out g hg, own_ne_type ho8 hrow8 (by decide) hg⟩
        have hrow9 := hk9.at hrow8 (fun e => (hvF Z e).2.2 rfl)
        have hS9 : w9.cell? ⟨Z, 7, none⟩ = some (.slice D7 sgk.length cd7) := (row9 hrow9).2.2.2.2.2.2.2.1
        have hf9 := frozen_of_row hrow9 7
        have hrow10 := set_at hrow9 7 (.slice D9 (sgk ++ [sn]).length cd9)
        have hk10 : Keep (fun i => i = Z) w9 (w9.setCell ⟨Z, 7, none⟩ (.slice D9 (sgk ++ [sn]).length cd9)) := Keep.setCell (fun i => i = Z) w9 (p := ⟨Z, 7, none⟩) rfl _
        have HFIN : Hid (ChSt w (w9.setCell ⟨Z, 7, none⟩ (.slice D9 (sgk ++ [sn]).length cd9)) U F p d b m rows Z r' (.slice A4 r'.rd.length ca4) (.slice C4 r'.wr.length cb4) v2 root (.slice D9 (sgk ++ [sn]).length cd9) (sgk ++ [sn]) 1) := Lib.hid (by
          have hk910 : Keep (fun i => w.heap.size ≤ i) w8 (w9.setCell ⟨Z, 7, none⟩ (.slice D9 (sgk ++ [sn]).length cd9)) := (hk9.mono fun i hi => (hvF i hi).1).same (hk10.mono fun i hi => by rw [hi]; exact hZw)
          refine ⟨hU8.keep hk910 fun i hi => by have := hFl i hi; omega, hkF.trans hk910 fun i hi => Or.inr hi, by simpa using hrow10, ⟨(hl8.rd.keep hk9 fun g hg e => ?_).keep hk10 fun g hg e => ?_, (hl8.wr.keep hk9 fun g hg e => ?_).keep hk10 fun g hg e => ?_⟩, hk10.own ho9 fun g hg e => own_ne_type ho9 hrow9 (by decide) hg e, fun g hg => ⟨(hlb8 g hg).1, Nat.lt_of_lt_of_le (hlb8 g hg).2 (Nat.le_trans hk9.size hk10.size)⟩⟩
          · have h1 := HLT.out g (Or.inl hg); have h2 := (hvF g e).2.1; omega
          · have h1 := HLT.out g (Or.inl hg); have e2 : g = Z := e; omega
          · have h1 := HLT.out g (Or.inr hg); have h2 := (hvF g e).2.1; omega
          · have h1 := HLT.out g (Or.inr hg); have e2 : g = Z := e; omega)
        obtain ⟨pl, hpl⟩ : ∃ pl, (sgk ++ [sn]).length = pl := ⟨_, rfl⟩
        have hpl2 : pl = sgk.length + 1 := by rw [← hpl]; simp
        rw [hpl] at hrun HFIN
        have HPL := Lib.hid hpl2
        clear hK Kn hD hU8 hk8 hFd hFb hFl hdb hk78 hrow8 hkF ho8 hl8 hlb8 ho9 hk9 hvF hrow9 hrow10 hk10 hS hrow hpl hpl2
        try simp only [Act.put, List.setIfInBounds_toArray, List.set_cons_zero, List.set_cons_succ]
        refine wpAnyG_one 5 at5 (by kernel_rfl) (fun Kn hK => ?_)
        go_simp
        refine hK.out _ _ (Or.inr ((Keep.alloc (fun _ => False) w8 _).cell hS8 fun e => e)) ?_
        clear hK Kn
        try simp only [Act.put, List.setIfInBounds_toArray, List.set_cons_zero, List.set_cons_succ]
        refine wpAnyG_one 6 at6 (by kernel_rfl) (fun Kn hK => ?_)
        refine step_append_run rfl _ _ _ rfl rfl rfl hrun ?_
        refine hK.out _ _ (Or.inr hS9) ?_
        clear hK Kn hrun
        try simp only [Act.put, List.setIfInBounds_toArray, List.set_cons_zero, List.set_cons_succ]
        refine wpAnyG_pure (i := 7) (v := ?vb7) at7 (by kernel_rfl) (fun _ _ _ h => h) (Or.inl ⟨by rfl, ?hb7⟩) (Or.inr (by assumption)) ?rb7
        case hb7 => (intro w hSw; (try dsimp only at hSw); go_simp; try with_reducible rfl)
        case' rb7 => skip
        try simp only [Act.put, List.setIfInBounds_toArray, List.set_cons_zero, List.set_cons_succ]
        refine wpAnyG_one 8 at8 (by kernel_rfl) (fun Kn hK => ?_)
        go_simp
        refine hK.out _ _ (Or.inl (by kernel_rfl)) ?_
        clear hK Kn hS8 hS9 hf9
        refine wpAnyG_done (by kernel_rfl) ?_
        try simp only [Act.put, List.setIfInBounds_toArray, List.set_cons_zero, List.set_cons_succ]
        go_wp2_with fail
        go_roundw
        case rel => exact ⟨1, .slice D9 pl cd9, sgk ++ [sn], by omega, fun h => by omega, fun _ => ⟨by omega, rfl⟩, HFIN⟩
        case measure =>
          have h1 := (row9 HFIN.out.row).2.2.2.2.2.2.2.1
          have h0 := (row9 HSt.out.row).2.2.2.2.2.2.2.1
          have := HPL.out
          unfold sgLen
          rw [h1, h0]
          dsimp only
          omega
      · have hGe : G = ({ U with drew := U.drew + k, files := aput U.files f ⟨r', v2, root, sgk, false⟩ }, 0) := by
          rw [HG.out]
          unfold Us.changed
          by_cases h0 : k = 0
          · subst h0
            obtain ⟨_, rfl⟩ := hk0 rfl
            rw [if_pos (by show r'.epoch < (sgk.length : Int); omega)]
            show (({ U with files := aput U.files f ⟨r', (ver + 1) % 18446744073709551616, root, sgk, false⟩ } : Us), (0 : Int)) = _
            rw [HV2.out]; rfl
          · obtain ⟨h1, rfl⟩ := hk1 (by omega)
            obtain rfl : k = 1 := by omega
            rw [if_neg (by show ¬ r'.epoch < (sg.length : Int); exact h1)]
            rw [HPTH.out, HSN.out, HV2.out]
        have HGE := Lib.hid hGe
        obtain ⟨c0, c1, c2, c3, c4⟩ := HSt.out.us.cells
        clear hk0 hk1 hGe
        go_wp2_with fail
        have hZ9 : wr.drew.heap[Z]? = _ := HSt.out.row
        have hU9 := HSt.out.us.below (Below.refl _ wr).drew
        have HU9 := Lib.hid hU9
        have HM9 := Lib.hid hU9.map
        have hp4 := hU9.cells.2.2.2.2
        have HQ := row9 hZ9
        clear hZ9 hU9 c0 c1 c2 c3 c4 e0 e1 e2 e3 e4 e5 e6 e7 e8
        refine wp_region_G (fun w' => w'.cell? ⟨p, 4, none⟩ = some (.map (some m)) ∧ w'.cell? ⟨Z, 0, none⟩ = some (.string r'.owner) ∧ w'.cell? ⟨Z, 1, none⟩ = some (.string r'.file) ∧ w'.cell? ⟨Z, 2, none⟩ = some (.int .i64 r'.epoch) ∧ w'.cell? ⟨Z, 3, none⟩ = some (.slice A4 r'.rd.length ca4) ∧ w'.cell? ⟨Z, 4, none⟩ = some (.slice C4 r'.wr.length cb4) ∧ w'.cell? ⟨Z, 5, none⟩ = some (.int .u64 v2) ∧ w'.cell? ⟨Z, 6, none⟩ = some (.string root) ∧ w'.cell? ⟨Z, 7, none⟩ = some (.slice D7 sgk.length cd7) ∧ w'.cell? ⟨Z, 8, none⟩ = some (.bool false)) [6] (by kernel_rfl) ?_
        have hS := And.intro hp4 HQ
        clear HQ hp4
        refine wpAnyG_pure (i := 0) (v := ?vd0) at0 (by kernel_rfl) (fun _ _ _ h => h) (Or.inl ⟨by rfl, ?hd0⟩) (Or.inr (by assumption)) ?rd0
        case hd0 => (intro w hSw; (try dsimp only at hSw); go_simp; try with_reducible rfl)
        case' rd0 => skip
        try simp only [Act.put, List.setIfInBounds_toArray, List.set_cons_zero, List.set_cons_succ]
        refine wpAnyG_pure (i := 1) (v := ?vd1) at1 (by kernel_rfl) (fun _ _ _ h => h) (Or.inl ⟨by rfl, ?hd1⟩) (Or.inr (by assumption)) ?rd1
        case hd1 => (intro w hSw; (try dsimp only at hSw); go_simp; try with_reducible rfl)
        case' rd1 => skip
        try simp only [Act.put, List.setIfInBounds_toArray, List.set_cons_zero, List.set_cons_succ]
        refine wpAnyG_pure (i := 2) (v := ?vd2) at2 (by kernel_rfl) (fun _ _ _ h => h) (Or.inl ⟨by rfl, ?hd2⟩) (Or.inr (by assumption)) ?rd2
        case hd2 => (intro w hSw; (try dsimp only at hSw); go_simp; try with_reducible rfl)
        case' rd2 => skip
        try simp only [Act.put, List.setIfInBounds_toArray, List.set_cons_zero, List.set_cons_succ]
        refine wpAnyG_take (ws := [3,5]) (i := 3) (v := ?vd3) at3 (by kernel_rfl) (fun _ _ _ h => h) (Or.inl ⟨by rfl, ?hd3⟩) (by assumption) ?rd3
        case hd3 => (intro w hSw; (try dsimp only at hSw); go_simp; try with_reducible rfl)
        case' rd3 => skip
        try simp only [Act.put, List.setIfInBounds_toArray, List.set_cons_zero, List.set_cons_succ]
        refine wpAnyG_pure (i := 4) (v := ?vd4) at4 (by kernel_rfl) (fun _ _ _ h => h) (Or.inl ⟨by rfl, ?hd4⟩) (Or.inr (by assumption)) ?rd4
        case hd4 => (intro w hSw; (try dsimp only at hSw); go_simp; try with_reducible rfl)
        case' rd4 => skip
        try simp only [Act.put, List.setIfInBounds_toArray, List.set_cons_zero, List.set_cons_succ]
        refine wpAnyG_take (ws := [3,5]) (i := 5) (v := ?vd5) at5 (by kernel_rfl) (fun _ _ _ h => h) (Or.inl ⟨by rfl, ?hd5⟩) (by assumption) ?rd5
        case hd5 => (intro w hSw; (try dsimp only at hSw); go_simp; try with_reducible rfl)
        case' rd5 => skip
        try simp only [Act.put, List.setIfInBounds_toArray, List.set_cons_zero, List.set_cons_succ]
        refine wpAnyG_one 6 at6 (by kernel_rfl) (fun Kn hK => ?_)
        refine step_upd rfl _ _ _ _ rfl lawS 111 Tryz.underlying160 m _ rfl HM9.out f rfl _ rfl ?_
        intro w10 hm10 hg10 hz10
        refine hK.out _ _ (Or.inl (by kernel_rfl)) ?_
        have hFin : Hid (UsRet w G F p d b m (.returned (.int .i64 0)) w10) := Lib.hid (by
          rw [HGE.out]
          have o9 : wr.drew.ownsRow w.heap.size 9 1 (.slice D7 sgk.length cd7) sgk.length (strV sgk) := own_below HSt.out.own (Below.refl _ wr).drew
          have l9 := HSt.out.ls.below (Below.refl _ wr).drew
          have hFl := HU.out.lt
          have hlb : ∀ g, ((Value.slice A4 r'.rd.length ca4).ownBlock = some g ∨ (Value.slice C4 r'.wr.length cb4).ownBlock = some g ∨ (Value.slice D7 sgk.length cd7).ownBlock = some g) → w.heap.size ≤ g ∧ g < wr.drew.heap.size := fun g hg => by
            rcases hg with hg | hg | hg
            · exact HSt.out.lb g (Or.inl hg)
            · exact HSt.out.lb g (Or.inr hg)
            · exact ⟨own_new o9 g hg, own_lt o9 hg⟩
          have hput := HU9.out.put (F' := fun i => F i ∨ ((Value.slice A4 r'.rd.length ca4).ownBlock = some i ∨ (Value.slice C4 r'.wr.length cb4).ownBlock = some i ∨ (Value.slice D7 sgk.length cd7).ownBlock = some i)) (k := f) (r := ⟨⟨r', v2, root, sgk, false⟩, .slice A4 r'.rd.length ca4, .slice C4 r'.wr.length cb4, .slice D7 sgk.length cd7⟩) hm10 hg10 ⟨l9, strs_own o9⟩ (by
            intro g hg
            have h1 := hlb g hg
            have := hFl _ HU.out.fp
            have := hFl _ HU.out.fd
            have := hFl _ HU.out.fb
            have := hFl _ HU.out.fm
            exact ⟨Or.inr hg, by omega, by omega, by omega, by omega⟩) (fun i hi => Or.inl hi) (by
            intro i hi
            rcases hi with hi | hi
            · exact HU9.out.lt i hi
            · exact (hlb i hi).2) (by
            have := HT.out.lt.1
            rintro (hi | hi)
            · exact HU.out.t3 hi
            · have := hlb _ hi; omega) (by
            have := HT.out.lt.2
            rintro (hi | hi)
            · exact HU.out.t4 hi
            · have := hlb _ hi; omega)
          refine ⟨rfl, _, _, hput, ?_, fun i hi => Or.inl hi, fun i hi => ?_⟩
          · exact (HSt.out.keep.same (Keep.drew F wr)).same (Keep.of_grown hg10 fun i hi => by cases hi; exact HU.out.fm)
          · rcases hi with hi | hi
            · exact Or.inl hi
            · exact Or.inr (hlb i hi).1)
        clear hK Kn hS hm10 hg10 hz10
        refine wpAnyG_done (by kernel_rfl) ?_
        try simp only [Act.put, List.setIfInBounds_toArray, List.set_cons_zero, List.set_cons_succ]
        go_wp2_with fail
        go_ret
        exact hFin.out
  · have fx : (er == 0) = false := by simpa using hx0
    have fx2 : (er != 0) = true := by simp only [bne, fx]; rfl
    rw [if_pos hx0] at HG
    clear hx0
    go_wp2_with fail
    go_ret
    rw [HG.out]
    exact UsRet.same HU.out HB5.out _
end Go.Proofs.YtckblcfkajpofaaGreatDoor
namespace Go.Proofs.YtckblcfkajpofaaGreatDoor
set_option linter.unusedVariables false
set_option linter.unusedSimpArgs false

theorem aput_same_length {κ α : Type} [DecidableEq κ] {l : List (κ × α)} {k : κ} {v x : α} (h : aget l k = some x) : (aput l k v).length = l.length := by
  unfold aput; rw [h]; simp
theorem Us.own_get {U : Us} {f : ByteArray} {o : Ow} (h : U.own f = some o) : aget U.files f = some o := (Us.own_some h).1
/-- what is put in the place of a right one is right -/
theorem Us.put_ok {U : Us} (hok : U.ok) {f : ByteArray} {o q : Ow} {k : Nat} (ho : aget U.files f = some o) (hq : q.ok U.name f) : ({ U with drew := U.drew + k, files := aput U.files f q } : Us).ok :=
  ⟨hok.name, hok.seed, hok.secret, fun j x hx => by
    have hx' : aget (aput U.files f q) j = some x := hx
    rw [aget_aput] at hx'
    split at hx'
    · rename_i e; cases hx'; subst e; exact hq
    · exact hok.all j x hx', by
    show (aput U.files f q).length ≤ U.drew + k
    rw [aput_same_length ho]; have := hok.len; omega⟩
theorem Us.remove_ok {U : Us} (hok : U.ok) (f : ByteArray) : (U.remove f).1.ok := by
  unfold Us.remove
  cases ho : U.own f with
  | none => exact hok
  | some o =>
    have hg := Us.own_get ho
    have h1 := hok.all f o hg
    exact Us.put_ok (k := 0) hok hg ⟨h1.owner, h1.file, h1.right, h1.ver, h1.root, h1.sgn, h1.sgs⟩
theorem Us.changed_ok {U : Us} (hok : U.ok) {f : ByteArray} {o : Ow} (ho : aget U.files f = some o) {r : Rt} (hr : r.right = true) (h1 : r.owner = o.r.owner) (h2 : r.file = o.r.file) (h3 : r.epoch = o.r.epoch ∨ r.epoch = o.r.epoch + 1) : (U.changed f o r).ok := by
  have hq := hok.all f o ho
  have hs := hq.sgn
  unfold Us.changed
  split
  · rename_i hlt
    refine Us.put_ok (k := 0) hok ho ⟨h1.trans hq.owner, h2.trans hq.file, hr, Nat.mod_lt _ (by decide), hq.root, ?_, hq.sgs⟩
    show (o.sg.length : Int) = r.epoch + 1; omega
  · rename_i hlt
    refine Us.put_ok (k := 1) hok ho ⟨h1.trans hq.owner, h2.trans hq.file, hr, Nat.mod_lt _ (by decide), hq.root, ?_, fun s hs => ?_⟩
    · show ((o.sg ++ [_]).length : Int) = r.epoch + 1; rw [List.length_append]; simp; omega
    · rcases List.mem_append.1 hs with hs | hs
      · exact hq.sgs s hs
      · rw [List.mem_singleton] at hs; subst hs; exact secT_size _ _ _
theorem Us.change_ok {U : Us} (hok : U.ok) (f : ByteArray) (g : Rt → Rt × Int) (hg : ∀ r, (g r).2 = 0 → (g r).1.right = true ∧ (g r).1.owner = r.owner ∧ (g r).1.file = r.file ∧ ((g r).1.epoch = r.epoch ∨ (g r).1.epoch = r.epoch + 1)) : (U.change f g).1.ok := by
  unfold Us.change
  cases ho : U.own f with
  | none => exact hok
  | some o =>
    dsimp only
    split
    · exact hok
    · rename_i h0
      obtain ⟨a, b, c, d⟩ := hg o.r (by simpa using h0)
      exact Us.changed_ok hok (Us.own_get ho) a b c d
theorem Us.create_ok {U : Us} (hok : U.ok) (f : ByteArray) : (U.create f).1.ok := by
  unfold Us.create
  cases hn : nameR f with
  | false => exact hok
  | true =>
    rw [if_neg (by simp)]
    split
    · split
      · exact hok
      · split
        · exact hok
        · exact umade_ok hok hn _
    · split
      · exact hok
      · exact umade_ok hok hn _
/-- what errs changes nothing -/
theorem Us.create_err {U : Us} {f : ByteArray} (h : (U.create f).2 ≠ 0) : (U.create f).1 = U := by
  unfold Us.create at h ⊢
  repeat' split
  all_goals first | rfl | (exfalso; simp_all)
theorem Us.remove_err {U : Us} {f : ByteArray} (h : (U.remove f).2 ≠ 0) : (U.remove f).1 = U := by
  unfold Us.remove at h ⊢
  cases ho : U.own f with
  | none => rfl
  | some o => rw [ho] at h; exact absurd rfl h
theorem Us.change_err {U : Us} {f : ByteArray} {g : Rt → Rt × Int} (h : (U.change f g).2 ≠ 0) : (U.change f g).1 = U := by
  unfold Us.change at h ⊢
  cases ho : U.own f with
  | none => rfl
  | some o =>
    rw [ho] at h
    dsimp only at h ⊢
    split
    · rfl
    · rename_i h0; rw [if_neg h0] at h; exact absurd rfl h
theorem Us.create_drew (U : Us) (f : ByteArray) : (U.create f).1.drew ≤ U.drew + 2 ∧ U.drew ≤ (U.create f).1.drew := by
  unfold Us.create Us.made
  repeat' split
  all_goals (dsimp only; omega)
theorem Us.remove_drew (U : Us) (f : ByteArray) : (U.remove f).1.drew = U.drew := by
  unfold Us.remove
  cases U.own f <;> rfl
theorem Us.change_drew (U : Us) (f : ByteArray) (g : Rt → Rt × Int) : (U.change f g).1.drew ≤ U.drew + 1 ∧ U.drew ≤ (U.change f g).1.drew := by
  unfold Us.change
  cases U.own f with
  | none => exact ⟨by dsimp only; omega, by dsimp only; omega⟩
  | some o =>
    dsimp only
    split
    · exact ⟨by dsimp only; omega, by dsimp only; omega⟩
    · unfold Us.changed
      split <;> exact ⟨by dsimp only; omega, by dsimp only; omega⟩
end Go.Proofs.YtckblcfkajpofaaGreatDoor
namespace Go.Proofs.YtckblcfkajpofaaGreatDoor
open Go.RowKit Go.Sort
set_option linter.unusedVariables false
set_option linter.unusedSimpArgs false

theorem UsRet.lift {w W w' : World} {r : Us × Int} {F : Nat → Prop} {p d b m : Nat} {e : Ending} (hb : Below w.heap.size w W) (h : UsRet W r F p d b m e w') : UsRet w r F p d b m e w' := by
  obtain ⟨h1, F', rows, h2, h3, h4, h5⟩ := h
  refine ⟨h1, F', rows, h2, (Keep.of_below hb).same h3, h4, fun i hi => ?_⟩
  rcases h5 i hi with h | h
  · exact Or.inl h
  · exact Or.inr (Nat.le_trans hb.size h)
theorem change_calls {w : World} {U : Us} {F : Nat → Prop} {p d b m : Nat} {rows : List (ByteArray × Rw)} (h : UsAt w U F p d b m rows) (hok : U.ok) (hT : Tabs w) (hd : U.drew ≤ 90000) (f : ByteArray) (KF : FuncId) (caps : Array Value) (g : Rt → Rt × Int)
    (hcf : ∀ (W : World) (r : Rt) (vr vw : Value), (callFunc KF (#[.agg #[.string r.owner, .string r.file, .int .i64 r.epoch, vr, vw]] ++ caps)).run Tryz.prog W = .ok (.enter KF (#[.agg #[.string r.owner, .string r.file, .int .i64 r.epoch, vr, vw]] ++ caps)) W)
    (hdo : ∀ W (r : Rt) vr vw, Below w.heap.size w W → Lists W r vr vw → r.wf → Calls Tryz.prog KF (#[.agg #[.string r.owner, .string r.file, .int .i64 r.epoch, vr, vw]] ++ caps) W fun e w' => RtRet W e w' (g r))
    (hx : ∀ r, (g r).2 = 0 → (g r).1.right = true ∧ (g r).1.owner = r.owner ∧ (g r).1.file = r.file ∧ ((g r).1.epoch = r.epoch ∨ (g r).1.epoch = r.epoch + 1)) :
    Calls Tryz.prog 254 #[.pointer (some ⟨p, 0, none⟩), .string f, .func (.func KF) #[] caps] w fun e w' => UsRet w (U.change f g) F p d b m e w' := by
  cases ho : U.own f with
  | none => exact change_none h hok f _ g ho
  | some o =>
    have hr := (Rt.right_good (hok.all f o (Us.own_get ho)).right).wf
    have h1 := change_walk h hok hT hd f KF caps (g o.r).1 (g o.r).2 o ho (fun W vr vw => hcf W o.r vr vw) (fun W vr vw hb hl => hdo W o.r vr vw hb hl hr) (fun h0 => (hx o.r h0).2.2.2)
    have e : U.change f g = if (g o.r).2 ≠ 0 then (U, (g o.r).2) else (U.changed f o (g o.r).1, 0) := by
      unfold Us.change; rw [ho]
    rw [e]; exact h1
theorem hcf_grant (c : Array Value) (W : World) (r : Rt) (vr vw : Value) (g1 g2 : Nat) : (callFunc 255 (#[.agg #[.string r.owner, .string r.file, .int .i64 r.epoch, vr, vw]] ++ #[.pointer (some ⟨g1, 0, none⟩), .pointer (some ⟨g2, 0, none⟩)])).run Tryz.prog W = .ok (.enter 255 (#[.agg #[.string r.owner, .string r.file, .int .i64 r.epoch, vr, vw]] ++ #[.pointer (some ⟨g1, 0, none⟩), .pointer (some ⟨g2, 0, none⟩)])) W := by kernel_rfl
theorem hcf_revoke (c : Array Value) (W : World) (r : Rt) (vr vw : Value) (g1 : Nat) : (callFunc 257 (#[.agg #[.string r.owner, .string r.file, .int .i64 r.epoch, vr, vw]] ++ #[.pointer (some ⟨g1, 0, none⟩)])).run Tryz.prog W = .ok (.enter 257 (#[.agg #[.string r.owner, .string r.file, .int .i64 r.epoch, vr, vw]] ++ #[.pointer (some ⟨g1, 0, none⟩)])) W := by kernel_rfl
set_option maxRecDepth 100000 in
set_option maxHeartbeats 1000000 in
theorem ugrant_calls {w : World} {U : Us} {F : Nat → Prop} {p d b m : Nat} {rows : List (ByteArray × Rw)} (h : UsAt w U F p d b m rows) (hok : U.ok) (hT : Tabs w) (hd : U.drew ≤ 90000) (f u : ByteArray) (wt : Bool) (hu : u.size ≤ 9223372036854775807) :
    Calls Tryz.prog 184 #[.pointer (some ⟨p, 0, none⟩), .string f, .string u, .bool wt] w fun e w' => UsRet w (U.change f fun r => r.grant u wt) F p d b m e w' := by
  obtain ⟨W, hW⟩ : ∃ W, (w.alloc (.cells #[.string u] 9)).alloc (.cells #[.bool wt] 4) = W := ⟨_, rfl⟩
  have hb : Below w.heap.size w W := by rw [← hW]; exact ((Below.refl _ w).alloc (Nat.le_refl _) _).alloc (by simp [size_alloc]) _
  have hr0 : W.heap[w.heap.size]? = some (.cells #[.string u] 9 (0, 0)) := by rw [← hW, get_alloc, if_neg (by simp [size_alloc]), get_alloc, if_pos rfl]
  have hr1 : W.heap[w.heap.size + 1]? = some (.cells #[.bool wt] 4 (0, 0)) := by rw [← hW, get_alloc, if_pos (by simp [size_alloc])]
  have hC := change_calls (h.below hb) hok (hT.below hb) hd f 255 #[.pointer (some ⟨w.heap.size, 0, none⟩), .pointer (some ⟨w.heap.size + 1, 0, none⟩)] (fun r => r.grant u wt) (fun W r vr vw => hcf_grant #[] W r vr vw _ _)
    (fun W' r vr vw hb' hl hw => by
      have k := (Keep.of_below hb' : Keep (fun _ => False) W W')
      exact grant1_calls u wt w.heap.size (w.heap.size + 1) hl ((hT.below hb).below hb') hw hu (k.cell (by rw [cell_of_row _ _ _ _ _ _ hr0]; rfl) fun e => e) (k.cell (by rw [cell_of_row _ _ _ _ _ _ hr1]; rfl) fun e => e))
    (fun r h0 => by obtain ⟨a, b, c, d⟩ := Rt.grant_ok h0; exact ⟨a, b, c, Or.inl d⟩)
  have HC := Lib.hid hC
  have HB := Lib.hid hb
  obtain ⟨G, hG⟩ : ∃ G, (U.change f fun r => r.grant u wt) = G := ⟨_, rfl⟩
  rw [hG] at HC ⊢
  clear hC hr0 hr1 hb h hok hT hG
  go_enter Tryz.func184, Tryz.ntmps184
  go_wp2_with fail
  refine HC.out.mono ?_
  rintro e w1 hret
  obtain ⟨he, hrest⟩ := hret
  subst he
  have HF := Lib.hid (UsRet.lift HB.out ⟨rfl, hrest⟩)
  clear hrest
  go_wp2_with fail
  go_ret
  exact HF.out
set_option maxRecDepth 100000 in
set_option maxHeartbeats 1000000 in
theorem urevoke_calls {w : World} {U : Us} {F : Nat → Prop} {p d b m : Nat} {rows : List (ByteArray × Rw)} (h : UsAt w U F p d b m rows) (hok : U.ok) (hT : Tabs w) (hd : U.drew ≤ 90000) (f u : ByteArray) (hu : u.size ≤ 9223372036854775807) :
    Calls Tryz.prog 185 #[.pointer (some ⟨p, 0, none⟩), .string f, .string u] w fun e w' => UsRet w (U.change f fun r => r.revoke u) F p d b m e w' := by
  obtain ⟨W, hW⟩ : ∃ W, w.alloc (.cells #[.string u] 9) = W := ⟨_, rfl⟩
  have hb : Below w.heap.size w W := by rw [← hW]; exact (Below.refl _ w).alloc (Nat.le_refl _) _
  have hr0 : W.heap[w.heap.size]? = some (.cells #[.string u] 9 (0, 0)) := by rw [← hW, get_alloc, if_pos rfl]
  have hC := change_calls (h.below hb) hok (hT.below hb) hd f 257 #[.pointer (some ⟨w.heap.size, 0, none⟩)] (fun r => r.revoke u) (fun W r vr vw => hcf_revoke #[] W r vr vw _)
    (fun W' r vr vw hb' hl hw => by
      have k := (Keep.of_below hb' : Keep (fun _ => False) W W')
      exact revoke1_calls u w.heap.size hl ((hT.below hb).below hb') hw hu (k.cell (by rw [cell_of_row _ _ _ _ _ _ hr0]; rfl) fun e => e))
    (fun r h0 => by obtain ⟨a, b, c, d⟩ := Rt.revoke_ok h0; exact ⟨a, b, c, Or.inr d⟩)
  have HC := Lib.hid hC
  have HB := Lib.hid hb
  obtain ⟨G, hG⟩ : ∃ G, (U.change f fun r => r.revoke u) = G := ⟨_, rfl⟩
  rw [hG] at HC ⊢
  clear hC hr0 hb h hok hT hG
  go_enter Tryz.func185, Tryz.ntmps185
  go_wp2_with fail
  refine HC.out.mono ?_
  rintro e w1 hret
  obtain ⟨he, hrest⟩ := hret
  subst he
  have HF := Lib.hid (UsRet.lift HB.out ⟨rfl, hrest⟩)
  clear hrest
  go_wp2_with fail
  go_ret
  exact HF.out
end Go.Proofs.YtckblcfkajpofaaGreatDoor
namespace Go.Proofs.YtckblcfkajpofaaGreatDoor
open Go.RowKit Go.Sort
set_option linter.unusedVariables false
set_option linter.unusedSimpArgs false

set_option maxHeartbeats 400000 in
theorem pick14_calls (c n : Int) (w : World) (h : -9223372036854775808 ≤ c) (h' : c ≤ 9223372036854775807) (hn : 1 ≤ n) (hn' : n ≤ 1000) :
    Calls Tryz.prog 82 #[.int .i64 c, .int .i64 n] w fun e w' => e = .returned (.int .i64 (pickZ c n)) ∧ w = w' := by
  by_cases hc : c < 0
  · have e : pickZ c n = -((c + 1).tmod n) := by rw [pickZ, if_pos hc, ← Int.neg_tmod, Int.tmod_eq_emod_of_nonneg (by omega)]
    rw [e]; clear e
    go_enter Tryz.func82, Tryz.ntmps82
    go_wp2
    go_ret
    exact ⟨rfl, rfl⟩
  · have e : pickZ c n = c % n := by rw [pickZ, if_neg hc]
    rw [e]; clear e
    have hc' : 0 ≤ c := by omega
    go_enter Tryz.func82, Tryz.ntmps82
    go_wp2
    go_ret
    exact ⟨rfl, rfl⟩
def fileList : List ByteArray := [⟨#[110, 111, 116, 101, 115]⟩, ⟨#[97]⟩, ⟨#[98]⟩, ⟨#[99]⟩, ⟨#[100]⟩, ⟨#[101]⟩, ⟨#[102]⟩, ⟨#[103]⟩, ⟨#[104]⟩, ⟨#[88]⟩]
def fileB (c : Int) : ByteArray := fileList.getD (pickZ c 10).toNat ByteArray.empty
theorem fileB_size (c : Int) : (fileB c).size ≤ 5 := by
  have hp := pickZ_lt c (n := 10) (by omega)
  unfold fileB
  generalize pickZ c 10 = p at hp
  have hc : p = 0 ∨ p = 1 ∨ p = 2 ∨ p = 3 ∨ p = 4 ∨ p = 5 ∨ p = 6 ∨ p = 7 ∨ p = 8 ∨ p = 9 := by omega
  rcases hc with rfl | rfl | rfl | rfl | rfl | rfl | rfl | rfl | rfl | rfl <;> decide
set_option maxRecDepth 100000 in
set_option maxHeartbeats 800000 in
theorem file_calls (c : Int) (w : World) (h : -9223372036854775808 ≤ c) (h' : c ≤ 9223372036854775807) :
    Calls Tryz.prog 78 #[.int .i64 c] w fun e w' => e = .returned (.string (fileB c)) ∧ Below w.heap.size w w' := by
  have hp := pickZ_lt c (n := 10) (by omega)
  obtain ⟨p, hpp⟩ : ∃ p, pickZ c 10 = p := ⟨_, rfl⟩
  rw [hpp] at hp
  obtain ⟨hp0, hp1⟩ := hp
  have E : Hid (fileB c = fileList.getD p.toNat ByteArray.empty) := Lib.hid (by rw [fileB, hpp])
  have HP := Lib.hid (fun w => pick14_calls c 10 w h h' (by omega) (by omega))
  rw [hpp] at HP
  clear hpp
  have hc : p = 0 ∨ p = 1 ∨ p = 2 ∨ p = 3 ∨ p = 4 ∨ p = 5 ∨ p = 6 ∨ p = 7 ∨ p = 8 ∨ p = 9 := by omega
  clear hp0 hp1
  rcases hc with rfl | rfl | rfl | rfl | rfl | rfl | rfl | rfl | rfl | rfl
  all_goals
    go_enter Tryz.func78, Tryz.ntmps78
    go_wp2_with fail
    refine (HP.out _).mono ?_
    rintro e w' ⟨rfl, rfl⟩
    go_wp2_with fail
    go_ret
    exact ⟨by rw [E.out]; rfl, (Below.refl _ _).alloc (Nat.le_refl _) _⟩
set_option maxRecDepth 100000 in
set_option maxHeartbeats 800000 in
theorem who_calls (c : Int) (w : World) (h : -9223372036854775808 ≤ c) (h' : c ≤ 9223372036854775807) :
    Calls Tryz.prog 99 #[.int .i64 c] w fun e w' => e = .returned (.string (whoB c)) ∧ Below w.heap.size w w' := by
  have hp := pickZ_lt c (n := 8) (by omega)
  obtain ⟨p, hpp⟩ : ∃ p, pickZ c 8 = p := ⟨_, rfl⟩
  rw [hpp] at hp
  obtain ⟨hp0, hp1⟩ := hp
  have E : Hid (whoB c = whoList.getD p.toNat ByteArray.empty) := Lib.hid (by rw [whoB, hpp])
  have HP := Lib.hid (fun w => pick14_calls c 8 w h h' (by omega) (by omega))
  rw [hpp] at HP
  clear hpp
  have hc : p = 0 ∨ p = 1 ∨ p = 2 ∨ p = 3 ∨ p = 4 ∨ p = 5 ∨ p = 6 ∨ p = 7 := by omega
  clear hp0 hp1
  rcases hc with rfl | rfl | rfl | rfl | rfl | rfl | rfl | rfl
  all_goals
    go_enter Tryz.func99, Tryz.ntmps99
    go_wp2_with fail
    refine (HP.out _).mono ?_
    rintro e w' ⟨rfl, rfl⟩
    go_wp2_with fail
    go_ret
    exact ⟨by rw [E.out]; rfl, (Below.refl _ _).alloc (Nat.le_refl _) _⟩
structure ActU where
  op : Int
  file : Int
  who : Int
structure ActU.wf (a : ActU) : Prop where
  op1 : -9223372036854775808 ≤ a.op
  op2 : a.op ≤ 9223372036854775807
  file1 : -9223372036854775808 ≤ a.file
  file2 : a.file ≤ 9223372036854775807
  who1 : -9223372036854775808 ≤ a.who
  who2 : a.who ≤ 9223372036854775807
abbrev actA (a : ActU) : Value := .agg #[.int .i64 a.op, .int .i64 a.file, .int .i64 a.who]
def Us.act (U : Us) (a : ActU) : Us × Int :=
  if pickZ a.op 9 < 2 then U.create (fileB a.file) else if pickZ a.op 9 < 5 then U.change (fileB a.file) (fun r => r.grant (whoB a.who) (pickZ a.op 9 == 4)) else if pickZ a.op 9 < 8 then U.change (fileB a.file) (fun r => r.revoke (whoB a.who)) else U.remove (fileB a.file)
theorem Us.act_ok {U : Us} (h : U.ok) (a : ActU) : (U.act a).1.ok := by
  unfold Us.act
  split
  · exact Us.create_ok h _
  · split
    · exact Us.change_ok h _ _ fun r h0 => by obtain ⟨x, y, z, t⟩ := Rt.grant_ok h0; exact ⟨x, y, z, Or.inl t⟩
    · split
      · exact Us.change_ok h _ _ fun r h0 => by obtain ⟨x, y, z, t⟩ := Rt.revoke_ok h0; exact ⟨x, y, z, Or.inr t⟩
      · exact Us.remove_ok h _
theorem Us.act_err {U : Us} {a : ActU} (h : (U.act a).2 ≠ 0) : (U.act a).1 = U := by
  unfold Us.act at h ⊢
  split
  · rename_i h1; rw [if_pos h1] at h; exact Us.create_err h
  · rename_i h1; rw [if_neg h1] at h
    split
    · rename_i h2; rw [if_pos h2] at h; exact Us.change_err h
    · rename_i h2; rw [if_neg h2] at h
      split
      · rename_i h3; rw [if_pos h3] at h; exact Us.change_err h
      · rename_i h3; rw [if_neg h3] at h; exact Us.remove_err h
theorem Us.act_drew (U : Us) (a : ActU) : (U.act a).1.drew ≤ U.drew + 2 ∧ U.drew ≤ (U.act a).1.drew := by
  unfold Us.act
  split
  · exact Us.create_drew _ _
  · split
    · have := Us.change_drew U (fileB a.file) (fun r => r.grant (whoB a.who) (pickZ a.op 9 == 4)); omega
    · split
      · have := Us.change_drew U (fileB a.file) (fun r => r.revoke (whoB a.who)); omega
      · have := Us.remove_drew U (fileB a.file); omega
set_option maxRecDepth 100000 in
set_option maxHeartbeats 2000000 in
theorem does_calls {w : World} {U : Us} {F : Nat → Prop} {p d b m : Nat} {rows : List (ByteArray × Rw)} (h : UsAt w U F p d b m rows) (hok : U.ok) (hT : Tabs w) (hd : U.drew ≤ 90000) (a : ActU) (ha : a.wf) :
    Calls Tryz.prog 76 #[.pointer (some ⟨p, 0, none⟩), actA a] w fun e w' => UsRet w (U.act a) F p d b m e w' := by
  obtain ⟨op, fl, wh⟩ := a
  obtain ⟨a1, a2, a3, a4, a5, a6⟩ := ha
  dsimp only at a1 a2 a3 a4 a5 a6
  have hp := pickZ_lt op (n := 9) (by omega)
  have hact : U.act ⟨op, fl, wh⟩ = if pickZ op 9 < 2 then U.create (fileB fl) else if pickZ op 9 < 5 then U.change (fileB fl) (fun r => r.grant (whoB wh) (pickZ op 9 == 4)) else if pickZ op 9 < 8 then U.change (fileB fl) (fun r => r.revoke (whoB wh)) else U.remove (fileB fl) := rfl
  have hP := fun w => pick14_calls op 9 w a1 a2 (by omega) (by omega)
  obtain ⟨k, hk⟩ : ∃ k, pickZ op 9 = k := ⟨_, rfl⟩
  rw [hk] at hp hact
  simp only [hk] at hP
  have hF := fun w => file_calls fl w a3 a4
  have hfs := fileB_size fl
  obtain ⟨f, hf⟩ : ∃ f, fileB fl = f := ⟨_, rfl⟩
  rw [hf] at hfs hact
  simp only [hf] at hF
  have hW := fun w => who_calls wh w a5 a6
  have hus := whoB_size wh
  obtain ⟨u, hu⟩ : ∃ u, whoB wh = u := ⟨_, rfl⟩
  rw [hu] at hus hact
  simp only [hu] at hW
  obtain ⟨G, hG⟩ : ∃ G, U.act ⟨op, fl, wh⟩ = G := ⟨_, rfl⟩
  rw [hG] at hact ⊢
  have HP := Lib.hid hP
  have HF := Lib.hid hF
  have HW := Lib.hid hW
  have HU := Lib.hid h
  have HOK := Lib.hid hok
  have HT := Lib.hid hT
  have HA := Lib.hid hact
  clear hact hG hP hF hW hk hf hu h hok hT
  obtain ⟨W0, hW0⟩ : ∃ W0, w.alloc (.cells #[.int .i64 op, .int .i64 fl, .int .i64 wh] 109) = W0 := ⟨_, rfl⟩
  have hb0 : Below w.heap.size w W0 := by rw [← hW0]; exact (Below.refl _ w).alloc (Nat.le_refl _) _
  have hr0 : W0.heap[w.heap.size]? = some (.cells #[.int .i64 op, .int .i64 fl, .int .i64 wh] 109 (0, 0)) := by rw [← hW0, get_alloc, if_pos rfl]
  have HB0 := Lib.hid hb0
  have HR0 := Lib.hid hr0
  have c0 : W0.cell? ⟨w.heap.size, 0, none⟩ = some (.int .i64 op) := by rw [cell_of_row _ _ _ _ _ _ hr0]; rfl
  have c1 : W0.cell? ⟨w.heap.size, 1, none⟩ = some (.int .i64 fl) := by rw [cell_of_row _ _ _ _ _ _ hr0]; rfl
  clear hb0 hr0
  go_enter Tryz.func76, Tryz.ntmps76
  go_wp2_with fail
  refine (HF.out _).mono ?_
  rintro e w1 ⟨rfl, hb1⟩
  have hr1 := (Keep.of_below hb1 : Keep (fun _ => False) W0 w1).at HR0.out fun e => e
  have HB1 := Lib.hid (HB0.out.trans (hb1.mono HB0.out.size))
  have d0 : w1.cell? ⟨w.heap.size, 0, none⟩ = some (.int .i64 op) := by rw [cell_of_row _ _ _ _ _ _ hr1]; rfl
  have d2 : w1.cell? ⟨w.heap.size, 2, none⟩ = some (.int .i64 wh) := by rw [cell_of_row _ _ _ _ _ _ hr1]; rfl
  clear hb1 hr1 c0 c1 hW0
  go_wp2_with fail
  refine (HP.out _).mono ?_
  rintro e w2 ⟨rfl, rfl⟩
  have HU1 := Lib.hid (HU.out.below HB1.out)
  have HT1 := Lib.hid (HT.out.below HB1.out)
  by_cases k2 : k < 2
  · have HE : Hid (G = U.create f) := Lib.hid (by rw [HA.out, if_pos k2])
    have HC := Lib.hid (create_calls HU1.out HOK.out HT1.out hd f (by omega))
    go_wp2_with fail
    refine HC.out.mono ?_
    rintro e w3 ⟨rfl, hrest⟩
    have HR := Lib.hid (UsRet.lift HB1.out ⟨rfl, hrest⟩)
    clear hrest
    go_wp2_with fail
    go_ret
    rw [HE.out]; exact HR.out
  by_cases k5 : k < 5
  · have HE : Hid (G = U.change f fun r => r.grant u (k == 4)) := Lib.hid (by rw [HA.out, if_neg k2, if_pos k5])
    have HC := Lib.hid (fun W (hb : Below w1.heap.size w1 W) => ugrant_calls (HU1.out.below hb) HOK.out (HT1.out.below hb) hd f u (k == 4) (by omega))
    obtain ⟨kk, hkk⟩ : ∃ kk, (k == 4) = kk := ⟨_, rfl⟩
    rw [hkk] at HC HE
    go_wp2_with fail
    refine (HW.out _).mono ?_
    rintro e w3 ⟨rfl, hb3⟩
    have HB3 := Lib.hid (HB1.out.trans (hb3.mono HB1.out.size))
    have HC3 := Lib.hid (HC.out _ hb3)
    clear hb3
    go_wp2_with fail
    refine HC3.out.mono ?_
    rintro e w4 ⟨rfl, hrest⟩
    have HR := Lib.hid (UsRet.lift HB3.out ⟨rfl, hrest⟩)
    clear hrest
    go_wp2_with fail
    go_ret
    rw [HE.out]; exact HR.out
  by_cases k8 : k < 8
  · have HE : Hid (G = U.change f fun r => r.revoke u) := Lib.hid (by rw [HA.out, if_neg k2, if_neg k5, if_pos k8])
    have HC := Lib.hid (fun W (hb : Below w1.heap.size w1 W) => urevoke_calls (HU1.out.below hb) HOK.out (HT1.out.below hb) hd f u (by omega))
    go_wp2_with fail
    refine (HW.out _).mono ?_
    rintro e w3 ⟨rfl, hb3⟩
    have HB3 := Lib.hid (HB1.out.trans (hb3.mono HB1.out.size))
    have HC3 := Lib.hid (HC.out _ hb3)
    clear hb3
    go_wp2_with fail
    refine HC3.out.mono ?_
    rintro e w4 ⟨rfl, hrest⟩
    have HR := Lib.hid (UsRet.lift HB3.out ⟨rfl, hrest⟩)
    clear hrest
    go_wp2_with fail
    go_ret
    rw [HE.out]; exact HR.out
  · have HE : Hid (G = U.remove f) := Lib.hid (by rw [HA.out, if_neg k2, if_neg k5, if_neg k8])
    have HC := Lib.hid (remove_calls HU1.out HOK.out HT1.out f)
    go_wp2_with fail
    refine HC.out.mono ?_
    rintro e w3 ⟨rfl, hrest⟩
    have HR := Lib.hid (UsRet.lift HB1.out ⟨rfl, hrest⟩)
    clear hrest
    go_wp2_with fail
    go_ret
    rw [HE.out]; exact HR.out
end Go.Proofs.YtckblcfkajpofaaGreatDoor
namespace Go.Proofs.YtckblcfkajpofaaGreatDoor
open Go.RowKit Go.Sort
set_option linter.unusedVariables false
set_option linter.unusedSimpArgs false

def actRow (a : ActU) : List Value := [.int .i64 a.op, .int .i64 a.file, .int .i64 a.who]
theorem act14_at {w wr : World} {A : Option Addr} {n c k : Nat} {l : List ActU} {x : ActU} (hv : rowsOf 3 actRow w (.slice A n c) l) (hb : Below w.heap.size w wr) (hx : l[k]? = some x) (b off : Nat) (hA : A = some ⟨b, off, none⟩) :
    wr.cell? ⟨b, off + k * 3, none⟩ = some (.int .i64 x.op) ∧ wr.cell? ⟨b, off + k * 3 + 1, none⟩ = some (.int .i64 x.file) ∧ wr.cell? ⟨b, off + k * 3 + 2, none⟩ = some (.int .i64 x.who) := by
  obtain ⟨A', c', e, _, _, h3⟩ := hv.below hb
  have hlt := (List.getElem?_eq_some_iff.1 hx).1
  obtain ⟨b', off', rfl, hc⟩ := h3 (by omega)
  cases e
  cases hA
  exact ⟨hc k x hx 0 _ rfl, hc k x hx 1 _ rfl, hc k x hx 2 _ rfl⟩
def zeroOw : Ow := ⟨⟨⟨#[]⟩, ⟨#[]⟩, 0, [], []⟩, 0, ⟨#[]⟩, [], false⟩
def ownOut (r : Option Ow) : Ow × Int := match r with
  | some o => (o, 0)
  | none => (zeroOw, 4)
theorem ownOut_small {U : Us} (hok : U.ok) (f : ByteArray) : (ownOut (U.own f)).1.r.rd.length ≤ 5 ∧ (ownOut (U.own f)).1.r.wr.length ≤ 5 ∧ (ownOut (U.own f)).1.sg.length ≤ 8 := by
  cases h : U.own f with
  | none => exact ⟨by decide, by decide, by decide⟩
  | some o => have := (hok.all f o (Us.own_get h)).small; exact ⟨this.1, this.2.1, this.2.2.1⟩
theorem ownRet_out {w w' : World} {r : Option Ow} {e : Ending} (h : OwnRet w r e w') : (∃ vr vw vs, e = .returned (.tuple #[agO (ownOut r).1 vr vw vs, .int .i64 (ownOut r).2]) ∧ OLists w' (ownOut r).1 vr vw vs) ∧ Below w.heap.size w w' := by
  obtain ⟨hb, h⟩ := h
  cases r with
  | none => exact ⟨⟨.slice none 0 0, .slice none 0 0, .slice none 0 0, h, ⟨⟨strs_nil _, strs_nil _⟩, strs_nil _⟩⟩, hb⟩
  | some o =>
    obtain ⟨vr, vw, vs, he, ho⟩ := h
    exact ⟨⟨vr, vw, vs, he, ho.lists⟩, hb⟩
theorem keys_small {U : Us} (hok : U.ok) : ∀ k ∈ akeys U.files, k.size ≤ 200 := by
  intro k hk
  obtain ⟨o, ho⟩ := Option.isSome_iff_exists.1 (aget_isSome.2 hk)
  have hf := hok.all k o ho
  have h1 := (Rt.right_good hf.right).file
  rw [hf.file] at h1; omega
theorem unew_calls' (w : World) (s : ByteArray) (seed : Nat) (hs : s.size ≤ 9223372036854775807) (hd : seed < 18446744073709551616) (hT : Tabs w) (hn : nameR s = true) :
    Calls Tryz.prog 22 #[.string s, .int .u64 seed] w fun e w' => Below w.heap.size w w' ∧ ∃ p d b m, e = .returned (.tuple #[.pointer (some ⟨p, 0, none⟩), .int .i64 0]) ∧ UsAt w' (unew s seed) (four p d b m) p d b m [] ∧ (∀ i, four p d b m i → w.heap.size ≤ i) :=
  (unew_calls w s seed hs hd hT).mono fun e w' h => by rw [hn, if_pos rfl] at h; exact h
structure H4 where
  p : Nat
  d : Nat
  b : Nat
  m : Nat
theorem Us.act_same (U : Us) (a : ActU) : (U.act a).1.name = U.name ∧ (U.act a).1.secret = U.secret := by
  unfold Us.act
  split
  · unfold Us.create Us.made; repeat' split
    all_goals exact ⟨rfl, rfl⟩
  · have hch : ∀ g, (U.change (fileB a.file) g).1.name = U.name ∧ (U.change (fileB a.file) g).1.secret = U.secret := fun g => by
      unfold Us.change
      cases U.own (fileB a.file) with
      | none => exact ⟨rfl, rfl⟩
      | some o =>
        dsimp only
        split
        · exact ⟨rfl, rfl⟩
        · unfold Us.changed; split <;> exact ⟨rfl, rfl⟩
    split
    · exact hch _
    · split
      · exact hch _
      · unfold Us.remove
        cases U.own (fileB a.file) <;> exact ⟨rfl, rfl⟩
/-- a user, in blocks of its own, none of them of X -/
def One (w0 w : World) (U : Us) (x : H4) (X : Nat → Prop) : Prop :=
  Below w0.heap.size w0 w ∧ (∃ F rows, UsAt w U F x.p x.d x.b x.m rows ∧ ∀ n, F n → w0.heap.size ≤ n ∧ ¬ X n) ∧ ∀ n, X n → n < w.heap.size
theorem One.below {w0 w w' : World} {U : Us} {x : H4} {X : Nat → Prop} (h : One w0 w U x X) (hb : Below w.heap.size w w') : One w0 w' U x X := by
  obtain ⟨h1, ⟨F, rows, h2, h3⟩, h4⟩ := h
  exact ⟨h1.trans (hb.mono h1.size), ⟨F, rows, h2.below hb, h3⟩, fun n hn => Nat.lt_of_lt_of_le (h4 n hn) hb.size⟩
theorem One.acts {w0 w : World} {U : Us} {x : H4} {X : Nat → Prop} (h : One w0 w U x X) (f : FuncId) (args : Array Value) (r : Us × Int)
    (hc : ∀ F rows, UsAt w U F x.p x.d x.b x.m rows → Calls Tryz.prog f args w fun e w' => UsRet w r F x.p x.d x.b x.m e w') :
    Calls Tryz.prog f args w fun e w' => e = .returned (.int .i64 r.2) ∧ One w0 w' r.1 x X ∧ Keep (fun n => ¬ X n) w w' := by
  obtain ⟨h1, ⟨F, rows, h2, h3⟩, h4⟩ := h
  refine (hc F rows h2).mono ?_
  rintro e w' ⟨he, F', rows', g1, g2, g3, g4⟩
  refine ⟨he, ⟨((Keep.of_below h1 (F := fun i => w0.heap.size ≤ i)).same (g2.mono fun n hn => (h3 n hn).1)).new, ⟨F', rows', g1, fun n hn => ?_⟩, fun n hn => Nat.lt_of_lt_of_le (h4 n hn) g2.size⟩, g2.mono fun n hn => (h3 n hn).2⟩
  rcases g4 n hn with e | e
  · exact h3 n e
  · exact ⟨Nat.le_trans h1.size e, fun hx => by have := h4 n hx; omega⟩
theorem One.reads {w0 w : World} {U : Us} {x : H4} {X : Nat → Prop} (h : One w0 w U x X) {Post : World → Ending → World → Prop} (f : FuncId) (args : Array Value)
    (hc : ∀ F rows, UsAt w U F x.p x.d x.b x.m rows → Calls Tryz.prog f args w fun e w' => Post w e w' ∧ Below w.heap.size w w') :
    Calls Tryz.prog f args w fun e w' => Post w e w' ∧ Below w.heap.size w w' ∧ One w0 w' U x X := by
  have h' := h
  obtain ⟨h1, ⟨F, rows, h2, h3⟩, h4⟩ := h
  refine (hc F rows h2).mono ?_
  rintro e w' ⟨he, hb⟩
  exact ⟨he, hb, h'.below hb⟩
theorem One.does {w0 w : World} {U : Us} {x : H4} {X : Nat → Prop} (h : One w0 w U x X) (hok : U.ok) (hT : Tabs w0) (hd : U.drew ≤ 90000) (a : ActU) (ha : a.wf) :
    Calls Tryz.prog 76 #[.pointer (some ⟨x.p, 0, none⟩), actA a] w fun e w' => e = .returned (.int .i64 (U.act a).2) ∧ One w0 w' (U.act a).1 x X ∧ Keep (fun n => ¬ X n) w w' :=
  h.acts _ _ _ fun F rows hu => does_calls hu hok (hT.below h.1) hd a ha
theorem One.owns {w0 w : World} {U : Us} {x : H4} {X : Nat → Prop} (h : One w0 w U x X) (hok : U.ok) (f : ByteArray) :
    Calls Tryz.prog 77 #[.pointer (some ⟨x.p, 0, none⟩), .string f] w fun e w' => (∃ vr vw vs, e = .returned (.tuple #[agO (ownOut (U.own f)).1 vr vw vs, .int .i64 (ownOut (U.own f)).2]) ∧ OLists w' (ownOut (U.own f)).1 vr vw vs) ∧ Below w.heap.size w w' ∧ One w0 w' U x X :=
  h.reads (Post := fun w e w' => ∃ vr vw vs, e = .returned (.tuple #[agO (ownOut (U.own f)).1 vr vw vs, .int .i64 (ownOut (U.own f)).2]) ∧ OLists w' (ownOut (U.own f)).1 vr vw vs) _ _ fun F rows hu => (uown_calls hu hok f).mono fun e w' h => ownRet_out h
end Go.Proofs.YtckblcfkajpofaaGreatDoor
