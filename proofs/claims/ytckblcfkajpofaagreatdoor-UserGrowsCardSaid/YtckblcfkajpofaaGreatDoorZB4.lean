/- user: Copy; users that are alike: plain law. law 14: users in blocks of their own, so many. -/
import Derived.Test.YtckblcfkajpofaaGreatDoorZB3
import Derived.Test.YtckblcfkajpofaaGreatDoorZBRange
namespace Go.Proofs.YtckblcfkajpofaaGreatDoor
open Go.RowKit Go.Sort
set_option linter.unusedVariables false
set_option linter.unusedSimpArgs false

/-- alike but for the order in which files lie -/
structure Us.eqv (U V : Us) : Prop where
  name : U.name = V.name
  secret : U.secret = V.secret
  seed : U.seed = V.seed
  drew : U.drew = V.drew
  files : ∀ k, aget U.files k = aget V.files k
  keys : (akeys U.files).Perm (akeys V.files)
theorem Us.eqv.refl (U : Us) : U.eqv U := ⟨rfl, rfl, rfl, rfl, fun _ => rfl, List.Perm.refl _⟩
theorem Us.eqv.symm {U V : Us} (h : U.eqv V) : V.eqv U := ⟨h.name.symm, h.secret.symm, h.seed.symm, h.drew.symm, fun k => (h.files k).symm, h.keys.symm⟩
theorem Us.eqv.trans {U V W : Us} (h : U.eqv V) (k : V.eqv W) : U.eqv W := ⟨h.name.trans k.name, h.secret.trans k.secret, h.seed.trans k.seed, h.drew.trans k.drew, fun x => (h.files x).trans (k.files x), h.keys.trans k.keys⟩
theorem Us.eqv.own {U V : Us} (h : U.eqv V) (f : ByteArray) : U.own f = V.own f := by unfold Us.own; rw [h.files]
theorem Us.eqv.list {U V : Us} (h : U.eqv V) : U.list = V.list := by
  unfold Us.list
  rw [sortB_congr h.keys]
  exact List.filter_congr fun k _ => by rw [h.files]
theorem Us.eqv.ok {U V : Us} (h : U.eqv V) (hok : U.ok) : V.ok :=
  ⟨by rw [← h.name]; exact hok.name, by rw [← h.seed]; exact hok.seed, by rw [← h.secret]; exact hok.secret, fun k o ho => by rw [← h.name]; exact hok.all k o (by rw [h.files]; exact ho), by
    have h1 := h.keys.length_eq
    simp only [akeys, List.length_map] at h1
    rw [← h.drew, ← h1]; exact hok.len⟩
theorem aput_keys_perm {α : Type} {l m : List (ByteArray × α)} (h : (akeys l).Perm (akeys m)) (k : ByteArray) (v : α) : (akeys (aput l k v)).Perm (akeys (aput m k v)) := by
  rw [akeys_aput, akeys_aput]
  by_cases hk : k ∈ akeys l
  · rw [if_pos hk, if_pos (h.mem_iff.1 hk)]; exact h
  · rw [if_neg hk, if_neg (fun e => hk (h.mem_iff.2 e))]; exact h.append_right _
theorem Us.eqv.put {U V : Us} (h : U.eqv V) (k : Nat) (f : ByteArray) (o : Ow) : ({ U with drew := U.drew + k, files := aput U.files f o } : Us).eqv { V with drew := V.drew + k, files := aput V.files f o } :=
  ⟨h.name, h.secret, h.seed, by show U.drew + k = V.drew + k; rw [h.drew], fun j => by show aget (aput U.files f o) j = aget (aput V.files f o) j; rw [aget_aput, aget_aput, h.files], aput_keys_perm h.keys f o⟩
def Us.like (x y : Us × Int) : Prop := x.2 = y.2 ∧ x.1.eqv y.1
theorem Us.eqv.made {U V : Us} (h : U.eqv V) (f : ByteArray) (v : Nat) : (U.made f v).eqv (V.made f v) := by
  unfold Us.made
  rw [h.name, h.seed, h.drew]
  have h2 := h.put 2 f ⟨⟨V.name, f, 0, [], []⟩, (v + 1) % 18446744073709551616, secT ⟨#[114, 111, 111, 116]⟩ (pathB V.name f) (drawN V.seed V.drew), [secT ⟨#[115, 105, 103, 110]⟩ (pathB V.name f) (drawN V.seed (V.drew + 1))], false⟩
  exact ⟨rfl, h.secret, rfl, rfl, h2.files, h2.keys⟩
theorem Us.eqv.create {U V : Us} (h : U.eqv V) (f : ByteArray) : Us.like (U.create f) (V.create f) := by
  unfold Us.create
  rw [h.list, h.files]
  split
  · exact ⟨rfl, h⟩
  · split
    · split
      · exact ⟨rfl, h⟩
      · split
        · exact ⟨rfl, h⟩
        · exact ⟨rfl, h.made f _⟩
    · split
      · exact ⟨rfl, h⟩
      · exact ⟨rfl, h.made f _⟩
theorem Us.eqv.remove {U V : Us} (h : U.eqv V) (f : ByteArray) : Us.like (U.remove f) (V.remove f) := by
  unfold Us.remove
  rw [h.own]
  cases V.own f with
  | none => exact ⟨rfl, h⟩
  | some o => exact ⟨rfl, h.put 0 f { o with gone := true }⟩
theorem Us.eqv.changed {U V : Us} (h : U.eqv V) (f : ByteArray) (o : Ow) (r : Rt) : (U.changed f o r).eqv (V.changed f o r) := by
  unfold Us.changed
  split
  · exact h.put 0 f _
  · rw [h.name, h.seed, h.drew]
    have h2 := h.put 1 f ⟨r, (o.ver + 1) % 18446744073709551616, o.root, o.sg ++ [secT ⟨#[115, 105, 103, 110]⟩ (pathB V.name f) (drawN V.seed V.drew)], o.gone⟩
    exact ⟨rfl, h.secret, rfl, rfl, h2.files, h2.keys⟩
theorem Us.eqv.change {U V : Us} (h : U.eqv V) (f : ByteArray) (g : Rt → Rt × Int) : Us.like (U.change f g) (V.change f g) := by
  unfold Us.change
  rw [h.own]
  cases V.own f with
  | none => exact ⟨rfl, h⟩
  | some o =>
    dsimp only
    split
    · exact ⟨rfl, h⟩
    · exact ⟨rfl, h.changed f o _⟩
theorem Us.eqv.act {U V : Us} (h : U.eqv V) (a : ActU) : Us.like (U.act a) (V.act a) := by
  unfold Us.act
  split
  · exact h.create _
  · split
    · exact h.change _ _
    · split
      · exact h.change _ _
      · exact h.remove _

theorem info_user : (Tryz.prog.info? 162).map (·.size) = some 5 := by kernel_rfl
/-- in the loop over the files: those done lie in the new map -/
structure CpSt (w wr : World) (U : Us) (m d P m2 r : Nat) (rows done : List (ByteArray × Rw)) (left : List (ByteArray × Value)) : Prop where
  bel : Below w.heap.size w wr
  row : wr.heap[P]? = some (.cells #[.string U.name, .string U.secret, .int .u64 U.seed, .pointer (some ⟨d, 0, none⟩), .map (some m2)] 162 (0, 0))
  map : smap wr Value.string m2 (amap Rw.val done)
  rng : sranges wr Value.string m r (amap Rw.val rows) left
  keys : (akeys rows).Perm (akeys done ++ akeys left)
  done : ∀ k q, aget done k = some q → ∃ q', aget rows k = some q' ∧ q.o = q'.o ∧ OLists wr q.o q.vr q.vw q.vs ∧ ∀ g, (q.vr.ownBlock = some g ∨ q.vw.ownBlock = some g ∨ q.vs.ownBlock = some g) → w.heap.size ≤ g ∧ g < wr.heap.size ∧ g ≠ P ∧ g ≠ m2 ∧ g ≠ r
theorem sranges.get {w : World} {m r : Nat} {l left : List (ByteArray × Value)} (h : sranges w Value.string m r l left) {k : ByteArray} {v : Value} (hm : (k, v) ∈ left) : aget l k = some v := by
  obtain ⟨es, clock, since, seen, c0, h1, h2, h3, hn, h5, h6, h7, h8, h9, hs⟩ := h
  exact aget_of_mem hn (hs.subset hm)
def mN (w : World) (d : Nat) : Nat := match w.cell? ⟨d, 1, none⟩ with
  | some (.int _ n) => n.toNat
  | _ => 0
theorem mN_of {w : World} {s m d b : Nat} (h : IsDraws w s m d b) : mN w d = m := by
  unfold mN; rw [cell_of_row _ _ _ _ _ _ h.hd]; simp
abbrev cpRow (U : Us) (d m2 : Nat) : Array Value := #[.string U.name, .string U.secret, .int .u64 U.seed, .pointer (some ⟨d, 0, none⟩), .map (some m2)]
set_option maxRecDepth 100000 in
set_option maxHeartbeats 8000000 in
theorem copy_calls {w : World} {U : Us} {F : Nat → Prop} {p d b m : Nat} {rows : List (ByteArray × Rw)} (h : UsAt w U F p d b m rows) (hok : U.ok) (hT : Tabs w) (hd : U.drew ≤ 90000) :
    Calls Tryz.prog 84 #[.pointer (some ⟨p, 0, none⟩)] w fun e w' => Below w.heap.size w w' ∧ ∃ V F' p' d' b' m' rows', e = .returned (.pointer (some ⟨p', 0, none⟩)) ∧ U.eqv V ∧ UsAt w' V F' p' d' b' m' rows' ∧ ∀ i, F' i → w.heap.size ≤ i := by
  obtain ⟨c0, c1, c2, c3, c4⟩ := h.cells
  have HU := Lib.hid h
  have HOK := Lib.hid hok
  have HT := Lib.hid hT
  have hmm := fun W => run_makeMap_plain (P := Tryz.prog) (w := W) 160
  clear h hok hT
  go_enter Tryz.func84, Tryz.ntmps84
  go_wp2_with (with_reducible refine wp_stop_store (o := ⟨none, .store _ (.tmp 3) _, _, _, _, _⟩) _ _ _ rfl ?_)
  unfold Stop
  refine wp_store_all rfl _ _ _ rfl rfl rfl _ _ ((get_alloc _ _ _).trans (if_pos rfl)) info_user rfl (by simp [Value.oneCell']) ?_
  intro w1 h1 k1 s1
  obtain ⟨P, hP⟩ : ∃ P, w.heap.size = P := ⟨_, rfl⟩
  have hb1 : Below w.heap.size w w1 := below_at ((Below.refl _ w).alloc (Nat.le_refl _) _) k1 (Nat.le_refl _)
  rw [size_alloc] at s1
  rw [hP] at h1 s1
  have e4 := (row5 h1).2.2.2.2
  have f4 := frozen_of_row h1 4
  have hset := set_at h1 4 (.map (some (P + 1)))
  have kset : Keep (fun i => i = P) w1 (w1.setCell ⟨P, 4, none⟩ (.map (some (P + 1)))) := Keep.setCell (fun i => i = P) _ (p := ⟨P, 4, none⟩) rfl _
  obtain ⟨W1, hW1⟩ : ∃ W1, w1.setCell ⟨P, 4, none⟩ (.map (some (P + 1))) = W1 := ⟨_, rfl⟩
  rw [hW1] at hset kset
  simp at hset
  have hb1' : Below w.heap.size w W1 := below_at hb1 kset (by omega)
  have hs1 : W1.heap.size = P + 1 := by rw [← hW1]; simp [s1]
  have hsm := smap_made W1 Value.string
  have hset2 := (Keep.alloc (fun _ => False) W1 (.map #[] 0)).at hset fun e => e
  have hb2 : Below w.heap.size w (W1.alloc (.map #[] 0)) := hb1'.alloc hb1'.size _
  have hs2 : (W1.alloc (.map #[] 0)).heap.size = P + 2 := by simp [size_alloc, hs1]
  obtain ⟨W2, hW2⟩ : ∃ W2, W1.alloc (.map #[] 0) = W2 := ⟨_, rfl⟩
  rw [hs1] at hsm
  rw [hW2] at hsm hset2 hb2 hs2
  have hU2 := HU.out.below hb2
  have hum := hU2.map
  have HSM := Lib.hid hsm
  have HR2 := Lib.hid hset2
  have HB2 := Lib.hid hb2
  have HU2 := Lib.hid hU2
  clear h1 k1 hb1 hset kset hsm hset2 hb1' hb2 hU2 c0 c1 c2 c3 c4
  have HP := Lib.hid hP
  rw [hP]
  clear hP
  obtain ⟨c0, c1, c2, c3, c4⟩ := HU2.out.cells
  go_wp2_with (at_range; refine wp_range rfl _ _ rfl 9 111 Tryz.underlying160 m _ rfl hum ?_; intro w3 hr3 hk3 hs3)
  go_frame
  rw [hs2] at hr3 hs3 ⊢
  have hPw := HP.out
  have hst : CpSt w w3 U m d P (P + 1) (P + 2) rows [] (amap Rw.val rows) :=
    ⟨((Keep.of_below HB2.out (F := fun i => w.heap.size ≤ i)).same (hk3.mono fun _ e => e.elim)).new, hk3.at HR2.out fun e => e, hk3.smap HSM.out fun e => e, hr3, by rw [akeys_amap]; simp [akeys], fun k q hk => by simp [aget] at hk⟩
  have HST := Lib.hid hst
  clear hst hr3 hk3 hs3 hum c0 c1 c2 c3 c4
  go_loopw [4] (fun s wr => ∃ done left, Hid (CpSt w wr U m d P (P + 1) (P + 2) rows done left)) (fun _ wr => leftN wr m (P + 2))
  case atStart => exact ⟨[], _, HST⟩
  case round =>
    obtain ⟨done, left, HC⟩ := hrel
    have hrg := HC.out.rng
    go_wp2_with (at_next; refine wp_next rfl _ rfl m (P + 2) _ _ rfl hrg (fun h => by cases h; rfl) ?_ ?_)
    · intro hleft
      subst hleft
      have hkeys := HC.out.keys
      simp only [akeys, List.map_nil, List.append_nil] at hkeys
      have HKY := Lib.hid hkeys
      have hUr := HU.out.below HC.out.bel
      obtain ⟨c0, c1, c2, c3, c4⟩ := hUr.cells
      have hdn := dnew_calls wr U.seed HOK.out.seed
      have HPL : Hid (P + 2 < wr.heap.size) := Lib.hid hrg.lt
      obtain ⟨B, hB⟩ : ∃ B, wr.heap.size = B := ⟨_, rfl⟩
      have HBE := Lib.hid hB
      rw [hB] at hdn
      have HD := Lib.hid hdn
      clear hkeys hdn hUr hrg hB
      go_wp2_with fail
      refine HD.out.mono ?_
      rintro e w5 ⟨rfl, hd5, hs5, hb5⟩
      have hb5' : Below wr.heap.size wr w5 := by rw [HBE.out]; exact hb5
      have hr5 := (Keep.of_below hb5' : Keep (fun _ => False) wr w5).at HC.out.row fun e => e
      have e3 := (row5 hr5).2.2.2.1
      have f3 := frozen_of_row hr5 3
      have hset := set_at hr5 3 (.pointer (some ⟨B + 1, 0, none⟩))
      have kset : Keep (fun i => i = P) w5 (w5.setCell ⟨P, 3, none⟩ (.pointer (some ⟨B + 1, 0, none⟩))) := Keep.setCell (fun i => i = P) _ (p := ⟨P, 3, none⟩) rfl _
      obtain ⟨W6, hW6⟩ : ∃ W6, w5.setCell ⟨P, 3, none⟩ (.pointer (some ⟨B + 1, 0, none⟩)) = W6 := ⟨_, rfl⟩
      rw [hW6] at hset kset
      simp at hset
      have hPB := HPL.out
      rw [HBE.out] at hPB
      have hd6 := hd5.keep kset (by omega) (by omega)
      have k56 : Keep (fun i => i = P) wr W6 := (Keep.of_below hb5').same kset
      have hb6 : Below w.heap.size w W6 := below_at (HC.out.bel.trans (hb5'.mono HC.out.bel.size)) kset (by omega)
      have HR6 := Lib.hid hset
      have HD6 := Lib.hid hd6
      have HK6 := Lib.hid k56
      have HB6 := Lib.hid hb6
      have hsz6 : W6.heap.size = B + 2 := by rw [← hW6]; simp [hs5]
      have HSZ := Lib.hid hsz6
      clear hd5 hs5 hb5 hb5' hr5 hset kset hd6 k56 hb6 hsz6 c0 c1 c2 c3 c4
      go_wp2_with fail
      clear e3 f3 hW6
      go_loopw [40] (fun t wz => ∃ j : Nat, j ≤ U.drew ∧ Hid (IsDraws wz U.seed j (B + 1) B ∧ Keep (fun i => i = B + 1 ∨ i = B) W6 wz)) (fun _ wz => 100000 - mN wz (B + 1))
      case atStart => exact ⟨0, Nat.zero_le _, Lib.hid ⟨HD6.out, Keep.refl _ _⟩⟩
      case round =>
        obtain ⟨j, hj, HJ⟩ := hrel
        have hrow := HJ.out.2.at HR6.out (by omega)
        have hbz : Below w.heap.size w wr := ((Keep.of_below HB6.out (F := fun i => w.heap.size ≤ i)).same (HJ.out.2.mono fun i hi => by omega)).new
        have hUz := HU.out.below hbz
        have HBZ := Lib.hid hbz
        have HUZ := Lib.hid hUz
        have hS0 : (fun W : World => W.cell? ⟨P, 3, none⟩ = some (.pointer (some ⟨B + 1, 0, none⟩)) ∧ W.cell? ⟨p, 3, none⟩ = some (.pointer (some ⟨d, 0, none⟩))) wr.drew := ⟨(row5 (show wr.drew.heap[P]? = _ from hrow)).2.2.2.1, (hUz.below (Below.refl _ wr).drew).cells.2.2.2.1⟩
        have HRW := Lib.hid hrow
        have HM1 := Lib.hid (many_calls wr.drew (HJ.out.1.keep (Keep.drew (fun _ => False) wr) (fun e => e) (fun e => e)))
        have HM2 := Lib.hid (many_calls wr.drew (hUz.drs.keep (Keep.drew (fun _ => False) wr) (fun e => e) (fun e => e)))
        clear hrow hbz hUz
        go_wp2_with fail
        refine wp_region_G (fun W => W.cell? ⟨P, 3, none⟩ = some (.pointer (some ⟨B + 1, 0, none⟩)) ∧ W.cell? ⟨p, 3, none⟩ = some (.pointer (some ⟨d, 0, none⟩))) [8] (by kernel_rfl) ?_
        have hS := hS0
        clear hS0
        refine wpAnyG_pure (i := 0) (v := ?vb0) at0 (by kernel_rfl) (fun _ _ _ h => h) (Or.inl ⟨by rfl, ?hb0⟩) (Or.inr (by assumption)) ?rb0
        case hb0 => (intro w hSw; (try dsimp only at hSw); go_simp; try with_reducible rfl)
        case' rb0 => skip
        try simp only [Act.put, List.setIfInBounds_toArray, List.set_cons_zero, List.set_cons_succ]
        refine wpAnyG_take (ws := [0,1,2,3,4,5,6,7]) (i := 1) (v := ?vb1) at1 (by kernel_rfl) (fun _ _ _ h => h) (Or.inl ⟨by rfl, ?hb1⟩) (by assumption) ?rb1
        case hb1 => (intro w hSw; (try dsimp only at hSw); go_simp; try with_reducible rfl)
        case' rb1 => skip
        try simp only [Act.put, List.setIfInBounds_toArray, List.set_cons_zero, List.set_cons_succ]
        refine wpAnyG_pure (i := 3) (v := ?vb3) at3 (by kernel_rfl) (fun _ _ _ h => h) (Or.inl ⟨by rfl, ?hb3⟩) (Or.inr (by assumption)) ?rb3
        case hb3 => (intro w hSw; (try dsimp only at hSw); go_simp; try with_reducible rfl)
        case' rb3 => skip
        try simp only [Act.put, List.setIfInBounds_toArray, List.set_cons_zero, List.set_cons_succ]
        refine wpAnyG_pure (i := 4) (v := ?vb4) at4 (by kernel_rfl) (fun _ _ _ h => h) (Or.inl ⟨by rfl, ?hb4⟩) (Or.inr (by assumption)) ?rb4
        case hb4 => (intro w hSw; (try dsimp only at hSw); go_simp; try with_reducible rfl)
        case' rb4 => skip
        try simp only [Act.put, List.setIfInBounds_toArray, List.set_cons_zero, List.set_cons_succ]
        refine wpAnyG_pure (i := 5) (v := ?vb5) at5 (by kernel_rfl) (fun _ _ _ h => h) (Or.inl ⟨by rfl, ?hb5⟩) (Or.inr (by assumption)) ?rb5
        case hb5 => (intro w hSw; (try dsimp only at hSw); go_simp; try with_reducible rfl)
        case' rb5 => skip
        try simp only [Act.put, List.setIfInBounds_toArray, List.set_cons_zero, List.set_cons_succ]
        refine wpAnyG_take (ws := [0,1,2,3,4,5,6,7]) (i := 6) (v := ?vb6) at6 (by kernel_rfl) (fun _ _ _ h => h) (Or.inl ⟨by rfl, ?hb6⟩) (by assumption) ?rb6
        case hb6 => (intro w hSw; (try dsimp only at hSw); go_simp; try with_reducible rfl)
        case' rb6 => skip
        try simp only [Act.put, List.setIfInBounds_toArray, List.set_cons_zero, List.set_cons_succ]
        refine wpAnyG_one 2 at2 (by kernel_rfl) (fun Kn hK => ?_)
        go_simp
        refine HM1.out.mono ?_
        rintro e w7 ⟨rfl, rfl⟩
        refine hK.out _ _ (Or.inr hS) ?_
        clear hK Kn
        try simp only [Act.put, List.setIfInBounds_toArray, List.set_cons_zero, List.set_cons_succ]
        refine wpAnyG_one 7 at7 (by kernel_rfl) (fun Kn hK => ?_)
        go_simp
        refine HM2.out.mono ?_
        rintro e w8 ⟨rfl, rfl⟩
        refine hK.out _ _ (Or.inr hS) ?_
        clear hK Kn
        try simp only [Act.put, List.setIfInBounds_toArray, List.set_cons_zero, List.set_cons_succ]
        refine wpAnyG_one 8 at8 (by kernel_rfl) (fun Kn hK => ?_)
        go_simp
        refine hK.out _ _ (Or.inl (by kernel_rfl)) ?_
        clear hK Kn
        refine wpAnyG_done (by kernel_rfl) ?_
        try simp only [Act.put, List.setIfInBounds_toArray, List.set_cons_zero, List.set_cons_succ]
        obtain ⟨cP3, cp3⟩ := hS
        by_cases hlt : j < U.drew
        · have hNX := next_calls wr.drew (HJ.out.1.keep (Keep.drew (fun _ => False) wr) (fun e => e) (fun e => e)) (by omega)
          have HNX := Lib.hid hNX
          clear hNX
          go_wp2_with fail
          refine HNX.out.mono ?_
          rintro e w9 ⟨rfl, hd9, hk9⟩
          have HD9 : Hid (IsDraws w9 U.seed (j + 1) (B + 1) B ∧ Keep (fun i => i = B + 1 ∨ i = B) W6 w9) := Lib.hid ⟨hd9, (HJ.out.2.same (Keep.drew _ wr)).same hk9⟩
          clear hd9 hk9 cP3 cp3
          go_wp2_with fail
          go_roundw
          case rel => exact ⟨j + 1, by omega, HD9⟩
          case measure => rw [mN_of HD9.out.1, mN_of HJ.out.1]; omega
        · obtain rfl : j = U.drew := by omega
          have hFIN : UsAt wr.drew { U with files := amap Rw.o done } (fun i => i = P ∨ i = B + 1 ∨ i = B ∨ i = P + 1 ∨ ∃ k q, aget done k = some q ∧ (q.vr.ownBlock = some i ∨ q.vw.ownBlock = some i ∨ q.vs.ownBlock = some i)) P (B + 1) B (P + 1) done := by
            have hPB := HPL.out
            rw [HBE.out] at hPB
            have hw6 := HSZ.out
            have hzs := HJ.out.2.size
            have kz : Keep (fun i => i = B + 1 ∨ i = B) W6 wr.drew := HJ.out.2.same (Keep.drew _ wr)
            have kall : ∀ k q, aget done k = some q → ∀ g, (q.vr.ownBlock = some g ∨ q.vw.ownBlock = some g ∨ q.vs.ownBlock = some g) → w.heap.size ≤ g ∧ g < B ∧ g ≠ P ∧ g ≠ P + 1 := fun k q hq g hg => by
              obtain ⟨q', h1, h2, h3, h4⟩ := HC.out.done k q hq
              have := h4 g hg
              have h5 := HBE.out
              exact ⟨by omega, by omega, by omega, by omega⟩
            have htab := HT.out.lt
            refine ⟨HRW.out, HJ.out.1.keep (Keep.drew (fun _ => False) wr) (fun e => e) (fun e => e), kz.smap (HK6.out.smap HC.out.map (by omega)) (by omega), rfl, fun k q hq => ?_, fun k q hq g hg => ?_, Or.inl rfl, Or.inr (Or.inl rfl), Or.inr (Or.inr (Or.inl rfl)), Or.inr (Or.inr (Or.inr (Or.inl rfl))), fun i hi => ?_, fun hi => ?_, fun hi => ?_⟩
            · obtain ⟨q', h1, h2, h3, h4⟩ := HC.out.done k q hq
              exact (h3.keep HK6.out fun g hg e => (kall k q hq g hg).2.2.1 e).keep kz fun g hg e => by have := kall k q hq g hg; omega
            · have := kall k q hq g hg
              exact ⟨Or.inr (Or.inr (Or.inr (Or.inr ⟨k, q, hq, hg⟩))), by omega, by omega, by omega, by omega⟩
            · show i < wr.heap.size
              rcases hi with hi | hi | hi | hi | ⟨k, q, hq, hg⟩
              · omega
              · omega
              · omega
              · omega
              · have := kall k q hq i hg; omega
            · rcases hi with hi | hi | hi | hi | ⟨k, q, hq, hg⟩
              · omega
              · omega
              · omega
              · omega
              · have := kall k q hq _ hg; omega
            · rcases hi with hi | hi | hi | hi | ⟨k, q, hq, hg⟩
              · omega
              · omega
              · omega
              · omega
              · have := kall k q hq _ hg; omega
          have HFIN := Lib.hid hFIN
          clear hFIN cP3 cp3
          go_wp2_with fail
          go_ret
          refine ⟨HBZ.out.drew, { U with files := amap Rw.o done }, _, P, B + 1, B, P + 1, done, rfl, ⟨rfl, rfl, rfl, rfl, fun k => ?_, ?_⟩, HFIN.out, fun i hi => ?_⟩
          · rw [HU.out.find]
            show _ = aget (amap Rw.o done) k
            rw [aget_amap]
            cases hq : aget done k with
            | some q =>
              obtain ⟨q', h1, h2, _⟩ := HC.out.done k q hq
              rw [h1]; simp [h2]
            | none =>
              cases hq2 : aget rows k with
              | none => rfl
              | some q2 =>
                have h1 : k ∈ akeys rows := aget_isSome.1 (by rw [hq2]; rfl)
                have h2 : k ∈ akeys done := HKY.out.mem_iff.1 h1
                have h3 := aget_isSome.2 h2
                rw [hq] at h3; cases h3
          · rw [HU.out.files]
            show (akeys (amap Rw.o rows)).Perm (akeys (amap Rw.o done))
            rw [akeys_amap, akeys_amap]; exact HKY.out
          · have hPB := HPL.out
            rw [HBE.out] at hPB
            rcases hi with hi | hi | hi | hi | ⟨k, q, hq, hg⟩
            · omega
            · omega
            · omega
            · omega
            · obtain ⟨q', h1, h2, h3, h4⟩ := HC.out.done k q hq
              exact (h4 i hg).1
    · intro k v w4 hm hrg4 hk4 hsz hen
      clear hsz
      obtain ⟨q, hq, rfl⟩ : ∃ q, aget rows k = some q ∧ q.val = v := by
        have := hrg.get hm
        rw [aget_amap] at this
        exact Option.map_eq_some_iff.1 this
      have hlt := filter_ne_length hm
      have hlt2 : leftN w4 m (P + 2) < leftN wr m (P + 2) := by rw [hrg4.left_eq, hrg.left_eq]; exact hlt
      have hkeys : (akeys left).Perm (k :: akeys (adel left k)) := (perm_take hrg.nodup hm).map Prod.fst
      have hb4 : Below w.heap.size w w4 := below_at HC.out.bel hk4 (by omega)
      have hls := (HU.out.lists k q hq).below hb4
      have hqo := HOK.out.all k q.o (by rw [HU.out.find, hq]; rfl)
      have hsm := hqo.small
      have hrow4 := hk4.at HC.out.row (by omega)
      have hmap4 := hk4.smap HC.out.map (by omega)
      have HB4 := Lib.hid hb4
      have HLS := Lib.hid hls
      have HQ := Lib.hid hq
      have HR4 := Lib.hid hrow4
      have HM4 := Lib.hid hmap4
      have HG4 := Lib.hid hrg4
      have HK4 := Lib.hid hk4
      have HLT := Lib.hid hlt2
      have HKY := Lib.hid hkeys
      obtain ⟨o, vr, vw, vs⟩ := q
      dsimp only at hls hsm
      obtain ⟨A, ca, rfl, _, _⟩ := hls.rt.rd.form
      obtain ⟨C, cb, rfl, _, _⟩ := hls.rt.wr.form
      obtain ⟨D, cd, rfl, _, _⟩ := hls.sg.form
      obtain ⟨⟨ow, fi, ep, rd, wl⟩, ver, root, sg, gone⟩ := o
      dsimp only at hsm
      simp only [Rw.val, agO] at hen
      have HSMALL := Lib.hid hsm
      clear hls hq hqo hsm hrow4 hmap4 hb4 hrg hrg4 hk4 hlt hlt2 hkeys hm
      go_wp2_with (with_reducible refine wp_stop_store (o := ⟨none, .store _ (.tmp 5) _, _, _, _, _⟩) _ _ _ rfl ?_)
      unfold Stop
      refine wp_store_all rfl _ _ _ rfl rfl rfl _ _ ((get_alloc _ _ _).trans (if_pos rfl)) info_ow rfl (by simp [Value.oneCell']) ?_
      intro w5 h5 k5 s5
      obtain ⟨Z, hZ⟩ : ∃ Z, w4.heap.size = Z := ⟨_, rfl⟩
      have hb45 : Below w4.heap.size w4 w5 := below_at ((Below.refl _ w4).alloc (Nat.le_refl _) _) k5 (Nat.le_refl _)
      rw [hZ] at h5 ⊢
      have HR5 := Lib.hid h5
      have HB5 := Lib.hid hb45
      clear h5 k5 s5 hb45 hen hZ
      go_wp2_with fail
      have hgl := HG4.out.lt
      have hb5d : Below w4.heap.size w4 w5.drew := HB5.out.drew
      have HB5D := Lib.hid hb5d
      have hrP := (Keep.of_below hb5d : Keep (fun _ => False) w4 w5.drew).at HR4.out fun e => e
      have hrZ : w5.drew.heap[Z]? = _ := HR5.out
      have HOC := Lib.hid (own_calls w5.drew ⟨⟨ow, fi, ep, rd, wl⟩, ver, root, sg, gone⟩ _ _ _ (HLS.out.below hb5d) (by have := HSMALL.out; dsimp only; omega) (by have := HSMALL.out; dsimp only; omega) (by have := HSMALL.out; dsimp only; omega))
      simp only [agO] at HOC
      have HPR := Lib.hid hrP
      have HZR := Lib.hid hrZ
      refine wp_region_G (fun W => W.cell? ⟨P, 4, none⟩ = some (.map (some (P + 1))) ∧ W.cell? ⟨Z, 0, none⟩ = some (.string ow) ∧ W.cell? ⟨Z, 1, none⟩ = some (.string fi) ∧ W.cell? ⟨Z, 2, none⟩ = some (.int .i64 ep) ∧ W.cell? ⟨Z, 3, none⟩ = some (.slice A rd.length ca) ∧ W.cell? ⟨Z, 4, none⟩ = some (.slice C wl.length cb) ∧ W.cell? ⟨Z, 5, none⟩ = some (.int .u64 ver) ∧ W.cell? ⟨Z, 6, none⟩ = some (.string root) ∧ W.cell? ⟨Z, 7, none⟩ = some (.slice D sg.length cd) ∧ W.cell? ⟨Z, 8, none⟩ = some (.bool gone)) [5] (by kernel_rfl) ?_
      have hS : (fun W : World => W.cell? ⟨P, 4, none⟩ = some (.map (some (P + 1))) ∧ W.cell? ⟨Z, 0, none⟩ = some (.string ow) ∧ W.cell? ⟨Z, 1, none⟩ = some (.string fi) ∧ W.cell? ⟨Z, 2, none⟩ = some (.int .i64 ep) ∧ W.cell? ⟨Z, 3, none⟩ = some (.slice A rd.length ca) ∧ W.cell? ⟨Z, 4, none⟩ = some (.slice C wl.length cb) ∧ W.cell? ⟨Z, 5, none⟩ = some (.int .u64 ver) ∧ W.cell? ⟨Z, 6, none⟩ = some (.string root) ∧ W.cell? ⟨Z, 7, none⟩ = some (.slice D sg.length cd) ∧ W.cell? ⟨Z, 8, none⟩ = some (.bool gone)) w5.drew := ⟨(row5 hrP).2.2.2.2, row9 hrZ⟩
      clear hrP hrZ hb5d
      refine wpAnyG_pure (i := 0) (v := ?va0) at0 (by kernel_rfl) (fun _ _ _ h => h) (Or.inl ⟨by rfl, ?ha0⟩) (Or.inr (by assumption)) ?ra0
      case ha0 => (intro w hSw; (try dsimp only at hSw); go_simp; try with_reducible rfl)
      case' ra0 => skip
      try simp only [Act.put, List.setIfInBounds_toArray, List.set_cons_zero, List.set_cons_succ]
      refine wpAnyG_take (ws := [1,3]) (i := 1) (v := ?va1) at1 (by kernel_rfl) (fun _ _ _ h => h) (Or.inl ⟨by rfl, ?ha1⟩) (by assumption) ?ra1
      case ha1 => (intro w hSw; (try dsimp only at hSw); go_simp; try with_reducible rfl)
      case' ra1 => skip
      try simp only [Act.put, List.setIfInBounds_toArray, List.set_cons_zero, List.set_cons_succ]
      refine wpAnyG_pure (i := 2) (v := ?va2) at2 (by kernel_rfl) (fun _ _ _ h => h) (Or.inl ⟨by rfl, ?ha2⟩) (Or.inr (by assumption)) ?ra2
      case ha2 => (intro w hSw; (try dsimp only at hSw); go_simp; try with_reducible rfl)
      case' ra2 => skip
      try simp only [Act.put, List.setIfInBounds_toArray, List.set_cons_zero, List.set_cons_succ]
      refine wpAnyG_take (ws := [1,3]) (i := 3) (v := ?va3) at3 (by kernel_rfl) (fun _ _ _ h => h) (Or.inl ⟨by rfl, ?ha3⟩) (by assumption) ?ra3
      case ha3 => (intro w hSw; (try dsimp only at hSw); go_simp; try with_reducible rfl)
      case' ra3 => skip
      try simp only [Act.put, List.setIfInBounds_toArray, List.set_cons_zero, List.set_cons_succ]
      refine wpAnyG_one 4 at4 (by kernel_rfl) (fun Kn hK => ?_)
      go_simp
      refine HOC.out.mono ?_
      rintro e w6 ⟨vr6, vw6, vs6, rfl, ho6, hb6⟩
      obtain ⟨A6, ca6, rfl, _, _⟩ := own_slice ho6.rd
      obtain ⟨C6, cb6, rfl, _, _⟩ := own_slice ho6.wr
      obtain ⟨D6, cd6, rfl, _, _⟩ := own_slice ho6.sg
      dsimp only at ho6
      have hrP6 := (Keep.of_below hb6 : Keep (fun _ => False) w5.drew w6).at HPR.out fun e => e
      have hrZ6 := (Keep.of_below hb6 : Keep (fun _ => False) w5.drew w6).at HZR.out fun e => e
      clear hS
      refine hK.out _ _ (Or.inr ⟨(row5 hrP6).2.2.2.2, row9 hrZ6⟩) ?_
      have hb46 : Below w4.heap.size w4 w6 := HB5D.out.trans (hb6.mono HB5D.out.size)
      have hm6 := (Keep.of_below hb46 : Keep (fun _ => False) w4 w6).smap HM4.out fun e => e
      have hg6 := HG4.out.kept (Keep.of_below hb46 : Keep (fun _ => False) w4 w6) (fun e => e) (fun e => e)
      have HB46 := Lib.hid hb46
      have HP6 := Lib.hid hrP6
      have HG6 := Lib.hid hg6
      have HO6 := Lib.hid ho6
      have HB6 := Lib.hid hb6
      clear hK Kn hrP6 hrZ6 hb46 hg6 ho6 hb6
      try simp only [Act.put, List.setIfInBounds_toArray, List.set_cons_zero, List.set_cons_succ]
      refine wpAnyG_one 5 at5 (by kernel_rfl) (fun Kn hK => ?_)
      refine step_upd rfl _ _ _ _ rfl lawS 111 Tryz.underlying160 (P + 1) _ rfl hm6 k rfl _ rfl ?_
      intro w7 hm7 hg7 hz7
      refine hK.out _ _ (Or.inl (by kernel_rfl)) ?_
      have hk7 : Keep (fun i => i = P + 1) w6 w7 := Keep.of_grown hg7 fun i hi => by cases hi; rfl
      have hFm := HU.out.lt _ HU.out.fm
      have hs46 := HB46.out.size
      have hs45 := HB5D.out.size
      have hst7 : CpSt w w7 U m d P (P + 1) (P + 2) rows (aput done k ⟨⟨⟨ow, fi, ep, rd, wl⟩, ver, root, sg, gone⟩, .slice A6 rd.length ca6, .slice C6 wl.length cb6, .slice D6 sg.length cd6⟩) (adel left k) := by
        have hbw6 : Below w.heap.size w w6 := HB4.out.trans (HB46.out.mono HB4.out.size)
        have hnd : (akeys rows).Nodup := by
          obtain ⟨es, ck, _, _, _, hn⟩ := HU.out.map
          rw [akeys_amap] at hn; exact hn
        have hkd : k ∉ akeys done := fun hkd => by
          have h1 := HC.out.keys.nodup hnd
          rw [List.nodup_append] at h1
          exact h1.2.2 k hkd k (HKY.out.mem_iff.2 List.mem_cons_self) rfl
        refine ⟨below_at hbw6 hk7 (by omega), hk7.at HP6.out (by omega), ?_, HG6.out.kept hk7 (by omega) (by omega), ?_, fun j q hq => ?_⟩
        · rw [← aput_amap]; exact hm7
        · rw [akeys_aput, if_neg hkd, List.append_assoc]
          exact HC.out.keys.trans (HKY.out.append_left _)
        · rw [aget_aput] at hq
          split at hq
          · rename_i e
            cases hq
            subst e
            refine ⟨_, HQ.out, rfl, ⟨⟨?_, ?_⟩, ?_⟩, fun g hg => ?_⟩
            · exact HO6.out.lists.rt.rd.keep hk7 fun g hg e => by have := own_new HO6.out.rd g hg; have e2 : g = P + 1 := e; omega
            · exact HO6.out.lists.rt.wr.keep hk7 fun g hg e => by have := own_new HO6.out.wr g hg; have e2 : g = P + 1 := e; omega
            · exact HO6.out.lists.sg.keep hk7 fun g hg e => by have := own_new HO6.out.sg g hg; have e2 : g = P + 1 := e; omega
            · have h1 : w5.drew.heap.size ≤ g ∧ g < w6.heap.size := by
                rcases hg with hg | hg | hg
                · exact ⟨own_new HO6.out.rd g hg, own_lt HO6.out.rd hg⟩
                · exact ⟨own_new HO6.out.wr g hg, own_lt HO6.out.wr hg⟩
                · exact ⟨own_new HO6.out.sg g hg, own_lt HO6.out.sg hg⟩
              have := HB4.out.size
              have := hk7.size
              refine ⟨by omega, by omega, by omega, by omega, by omega⟩
          · obtain ⟨q', h1, h2, h3, h4⟩ := HC.out.done j q hq
            have kk : Keep (fun i => i = P + 2 ∨ i = P + 1) wr w7 := ((HK4.out.mono fun i hi => Or.inl hi).same (Keep.of_below HB46.out)).same (hk7.mono fun i hi => Or.inr hi)
            refine ⟨q', h1, h2, h3.keep kk fun g hg e => ?_, fun g hg => ?_⟩
            · have := h4 g hg; omega
            · have := h4 g hg; have := kk.size; refine ⟨by omega, by omega, by omega, by omega, by omega⟩
      have HST7 := Lib.hid hst7
      have hlt7 : leftN w7 m (P + 2) < leftN wr m (P + 2) := by
        have h1 := HLT.out
        rw [hst7.rng.left_eq, HC.out.rng.left_eq]
        rw [HG4.out.left_eq, HC.out.rng.left_eq] at h1
        exact h1
      have HLT7 := Lib.hid hlt7
      clear hK Kn hm7 hg7 hz7 hk7 hst7 hlt7 hm6
      refine wpAnyG_done (by kernel_rfl) ?_
      try simp only [Act.put, List.setIfInBounds_toArray, List.set_cons_zero, List.set_cons_succ]
      go_wp2_with fail
      go_roundw
      case rel => exact ⟨_, _, HST7⟩
      case measure => exact HLT7.out
end Go.Proofs.YtckblcfkajpofaaGreatDoor
namespace Go.Proofs.YtckblcfkajpofaaGreatDoor
open Go.RowKit Go.Sort
set_option linter.unusedVariables false
set_option linter.unusedSimpArgs false

structure H4 where
  p : Nat
  d : Nat
  b : Nat
  m : Nat
abbrev UsIn (w : World) (x : Us × H4) (F : Nat → Prop) (rows : List (ByteArray × Rw)) : Prop := UsAt w x.1 F x.2.p x.2.d x.2.b x.2.m rows
def Sep (w0 w : World) (us : List (Us × H4)) : Prop :=
  Below w0.heap.size w0 w ∧ ∃ Fs : Nat → Nat → Prop, (∀ i x, us[i]? = some x → ∃ rows, UsIn w x (Fs i) rows ∧ ∀ n, Fs i n → w0.heap.size ≤ n) ∧ ∀ i j n, i < us.length → j < us.length → i ≠ j → Fs i n → ¬ Fs j n
theorem Sep.below {w0 w w' : World} {us : List (Us × H4)} (h : Sep w0 w us) (hb : Below w.heap.size w w') : Sep w0 w' us := by
  obtain ⟨h1, Fs, h2, h3⟩ := h
  exact ⟨h1.trans (hb.mono h1.size), Fs, fun i x hx => by obtain ⟨rows, a, b⟩ := h2 i x hx; exact ⟨rows, a.below hb, b⟩, h3⟩
theorem Sep.acts {w0 w : World} {us : List (Us × H4)} (h : Sep w0 w us) (i : Nat) {x : Us × H4} (hx : us[i]? = some x) (f : FuncId) (args : Array Value) (r : Us × Int)
    (hc : ∀ F rows, UsIn w x F rows → Calls Tryz.prog f args w fun e w' => UsRet w r F x.2.p x.2.d x.2.b x.2.m e w') :
    Calls Tryz.prog f args w fun e w' => e = .returned (.int .i64 r.2) ∧ Sep w0 w' (us.set i (r.1, x.2)) := by
  obtain ⟨h1, Fs, h2, h3⟩ := h
  obtain ⟨rows, ha, hn⟩ := h2 i x hx
  have hil := (List.getElem?_eq_some_iff.1 hx).1
  refine (hc (Fs i) rows ha).mono ?_
  rintro e w' ⟨he, F', rows', g1, g2, g3, g4⟩
  have hbel : Below w0.heap.size w0 w' := ((Keep.of_below h1 (F := fun k => w0.heap.size ≤ k)).same (g2.mono fun k hk => hn k hk)).new
  refine ⟨he, hbel, fun j => if j = i then F' else Fs j, fun j y hy => ?_, fun j k n hj hk hjk a b => ?_⟩
  · rw [List.getElem?_set] at hy
    by_cases hji : i = j
    · rw [if_pos hji, if_pos hil] at hy
      cases hy
      subst hji
      refine ⟨rows', ?_, fun n hn' => ?_⟩
      · show UsAt w' r.1 (if i = i then F' else Fs i) _ _ _ _ rows'
        rw [if_pos rfl]; exact g1
      · dsimp only at hn'
        rw [if_pos rfl] at hn'
        rcases g4 n hn' with e | e
        · exact hn n e
        · exact Nat.le_trans h1.size e
    · rw [if_neg hji] at hy
      obtain ⟨rows2, a, b⟩ := h2 j y hy
      have hjl := (List.getElem?_eq_some_iff.1 hy).1
      refine ⟨rows2, ?_, fun n hn' => ?_⟩
      · show UsAt w' y.1 (if j = i then F' else Fs j) _ _ _ _ rows2
        rw [if_neg (Ne.symm hji)]
        exact a.keep g2 fun n e e2 => h3 j i n hjl hil (Ne.symm hji) e e2
      · dsimp only at hn'
        rw [if_neg (Ne.symm hji)] at hn'
        exact b n hn'
  · rw [List.length_set] at hj hk
    try dsimp only at a b
    have old : ∀ j' y', us[j']? = some y' → j' ≠ i → ∀ n', Fs j' n' → ¬ F' n' := fun j' y' hy' hne n' hf hF => by
      rcases g4 n' hF with e | e
      · exact h3 j' i n' (List.getElem?_eq_some_iff.1 hy').1 hil hne hf e
      · obtain ⟨rows2, a2, _⟩ := h2 j' y' hy'
        have := a2.lt n' hf; omega
    by_cases hji : j = i
    · rw [if_pos hji] at a
      rw [if_neg (by rw [hji] at hjk; exact Ne.symm hjk)] at b
      exact old k _ (List.getElem?_eq_getElem hk) (by rw [hji] at hjk; exact Ne.symm hjk) n b a
    · rw [if_neg hji] at a
      by_cases hki : k = i
      · rw [if_pos hki] at b
        exact old j _ (List.getElem?_eq_getElem hj) hji n a b
      · rw [if_neg hki] at b
        exact h3 j k n hj hk hjk a b
theorem Sep.reads {w0 w : World} {us : List (Us × H4)} (h : Sep w0 w us) (i : Nat) {x : Us × H4} (hx : us[i]? = some x) {Post : World → Ending → World → Prop} (f : FuncId) (args : Array Value)
    (hc : ∀ F rows, UsIn w x F rows → Calls Tryz.prog f args w fun e w' => Post w e w' ∧ Below w.heap.size w w') :
    Calls Tryz.prog f args w fun e w' => Post w e w' ∧ Below w.heap.size w w' ∧ Sep w0 w' us := by
  have h' := h
  obtain ⟨h1, Fs, h2, h3⟩ := h
  obtain ⟨rows, ha, hn⟩ := h2 i x hx
  refine (hc (Fs i) rows ha).mono ?_
  rintro e w' ⟨he, hb⟩
  exact ⟨he, hb, h'.below hb⟩
theorem Sep.add {w0 w w' : World} {us : List (Us × H4)} (h : Sep w0 w us) (hb : Below w.heap.size w w') {V : Us} {F : Nat → Prop} {p d b m : Nat} {rows : List (ByteArray × Rw)} (hV : UsAt w' V F p d b m rows) (hn : ∀ i, F i → w.heap.size ≤ i) : Sep w0 w' (us ++ [(V, ⟨p, d, b, m⟩)]) := by
  obtain ⟨h1, Fs, h2, h3⟩ := h
  refine ⟨h1.trans (hb.mono h1.size), fun j => if j = us.length then F else Fs j, fun j y hy => ?_, fun j k n hj hk hjk x y => ?_⟩
  · by_cases hj : j < us.length
    · rw [List.getElem?_append_left hj] at hy
      obtain ⟨rows2, a, c⟩ := h2 j y hy
      refine ⟨rows2, ?_, fun n hn' => ?_⟩
      · show UsAt w' y.1 (if j = us.length then F else Fs j) _ _ _ _ rows2
        rw [if_neg (by omega)]; exact a.below hb
      · dsimp only at hn'; rw [if_neg (by omega)] at hn'; exact c n hn'
    · have hjl := (List.getElem?_eq_some_iff.1 hy).1
      rw [List.length_append, List.length_singleton] at hjl
      have hje : j = us.length := by omega
      subst hje
      rw [List.getElem?_append_right (Nat.le_refl _), Nat.sub_self] at hy
      cases hy
      refine ⟨rows, ?_, fun n hn' => ?_⟩
      · show UsAt w' V (if us.length = us.length then F else Fs us.length) _ _ _ _ rows
        rw [if_pos rfl]; exact hV
      · dsimp only at hn'; rw [if_pos rfl] at hn'
        exact Nat.le_trans h1.size (hn n hn')
  · rw [List.length_append, List.length_singleton] at hj hk
    try dsimp only at x y
    have old : ∀ j', j' < us.length → ∀ n', Fs j' n' → ¬ F n' := fun j' hj' n' hf hF => by
      obtain ⟨rows2, a2, _⟩ := h2 j' _ (List.getElem?_eq_getElem hj')
      have := a2.lt n' hf; have := hn n' hF; omega
    by_cases hje : j = us.length
    · rw [if_pos hje] at x
      rw [if_neg (by omega)] at y
      exact old k (by omega) n y x
    · rw [if_neg hje] at x
      by_cases hke : k = us.length
      · rw [if_pos hke] at y; exact old j (by omega) n x y
      · rw [if_neg hke] at y; exact h3 j k n (by omega) (by omega) hjk x y
theorem Sep.one {w0 w w' : World} (hb : Below w0.heap.size w0 w) (hb' : Below w.heap.size w w') {V : Us} {F : Nat → Prop} {p d b m : Nat} {rows : List (ByteArray × Rw)} (hV : UsAt w' V F p d b m rows) (hn : ∀ i, F i → w.heap.size ≤ i) : Sep w0 w' [(V, ⟨p, d, b, m⟩)] :=
  Sep.add (us := []) ⟨hb, fun _ _ => False, fun i x hx => by simp at hx, fun i j n hi => by simp at hi⟩ hb' hV hn
theorem Sep.does {w0 w : World} {us : List (Us × H4)} (h : Sep w0 w us) (i : Nat) {x : Us × H4} (hx : us[i]? = some x) (hok : x.1.ok) (hT : Tabs w0) (hd : x.1.drew ≤ 90000) (a : ActU) (ha : a.wf) :
    Calls Tryz.prog 76 #[.pointer (some ⟨x.2.p, 0, none⟩), actA a] w fun e w' => e = .returned (.int .i64 (x.1.act a).2) ∧ Sep w0 w' (us.set i ((x.1.act a).1, x.2)) :=
  h.acts i hx _ _ _ fun F rows hu => does_calls hu hok (hT.below h.1) hd a ha
theorem Sep.owns {w0 w : World} {us : List (Us × H4)} (h : Sep w0 w us) (i : Nat) {x : Us × H4} (hx : us[i]? = some x) (hok : x.1.ok) (f : ByteArray) :
    Calls Tryz.prog 77 #[.pointer (some ⟨x.2.p, 0, none⟩), .string f] w fun e w' => (∃ vr vw vs, e = .returned (.tuple #[agO (ownOut (x.1.own f)).1 vr vw vs, .int .i64 (ownOut (x.1.own f)).2]) ∧ OLists w' (ownOut (x.1.own f)).1 vr vw vs) ∧ Below w.heap.size w w' ∧ Sep w0 w' us :=
  h.reads i hx (Post := fun w e w' => ∃ vr vw vs, e = .returned (.tuple #[agO (ownOut (x.1.own f)).1 vr vw vs, .int .i64 (ownOut (x.1.own f)).2]) ∧ OLists w' (ownOut (x.1.own f)).1 vr vw vs) _ _ fun F rows hu => (uown_calls hu hok f).mono fun e w' h => ownRet_out h
theorem Sep.lists {w0 w : World} {us : List (Us × H4)} (h : Sep w0 w us) (i : Nat) {x : Us × H4} (hx : us[i]? = some x) (hok : x.1.ok) (hd : x.1.drew ≤ 90000) :
    Calls Tryz.prog 28 #[.pointer (some ⟨x.2.p, 0, none⟩)] w fun e w' => (∃ v, e = .returned v ∧ strs w' v x.1.list) ∧ Below w.heap.size w w' ∧ Sep w0 w' us :=
  h.reads i hx (Post := fun w e w' => ∃ v, e = .returned v ∧ strs w' v x.1.list) _ _ fun F rows hu => (files_calls hu (by have := hok.len; omega) (keys_small hok)).mono fun e w' ⟨v, h1, h2, h3⟩ => ⟨⟨v, h1, strs_own h2⟩, h3⟩
theorem Sep.copy {w0 w : World} {us : List (Us × H4)} (h : Sep w0 w us) (i : Nat) {x : Us × H4} (hx : us[i]? = some x) (hok : x.1.ok) (hT : Tabs w0) (hd : x.1.drew ≤ 90000) :
    Calls Tryz.prog 84 #[.pointer (some ⟨x.2.p, 0, none⟩)] w fun e w' => ∃ V h4, e = .returned (.pointer (some ⟨h4.p, 0, none⟩)) ∧ x.1.eqv V ∧ Sep w0 w' (us ++ [(V, h4)]) := by
  have h' := h
  obtain ⟨h1, Fs, h2, h3⟩ := h
  obtain ⟨rows, ha, hn⟩ := h2 i x hx
  refine (copy_calls ha hok (hT.below h1) hd).mono ?_
  rintro e w' ⟨hb, V, F', p', d', b', m', rows', he, hq, hV, hN⟩
  exact ⟨V, ⟨p', d', b', m'⟩, he, hq, h'.add hb hV hN⟩
theorem Us.act_same (U : Us) (a : ActU) : (U.act a).1.name = U.name ∧ (U.act a).1.secret = U.secret := by
  unfold Us.act
  split
  · unfold Us.create Us.made; repeat' split
    all_goals exact ⟨rfl, rfl⟩
  · have hch : ∀ g, (U.change (fileB a.file) g).1.name = U.name ∧ (U.change (fileB a.file) g).1.secret = U.secret := fun g => by
      unfold Us.change
      cases U.own (fileB a.file) with
      | none => exact ⟨rfl, rfl⟩
      | some o =>
        dsimp only
        split
        · exact ⟨rfl, rfl⟩
        · unfold Us.changed; split <;> exact ⟨rfl, rfl⟩
    split
    · exact hch _
    · split
      · exact hch _
      · unfold Us.remove
        cases U.own (fileB a.file) <;> exact ⟨rfl, rfl⟩
end Go.Proofs.YtckblcfkajpofaaGreatDoor
