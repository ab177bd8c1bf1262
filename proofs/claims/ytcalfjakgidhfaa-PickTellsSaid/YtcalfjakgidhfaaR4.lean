/- The document's store: Put of a new key. -/
import Derived.Test.YtcalfjakgidhfaaR3
namespace Go.Proofs.Ytcalfjakgidhfaa
open Go.RowKit
set_option linter.unusedVariables false
set_option linter.unusedSimpArgs false

set_option maxRecDepth 100000 in
set_option maxHeartbeats 2000000 in
theorem ref_put_new {w : World} {v : Value} {R : RS} {G : Nat → Prop} (h : IsRef w v R G) (key blob : ByteArray) (hz : R.putErr key blob = 0) (hi : R.find key = none) :
    Calls Try.prog 41 #[v, .string key, .string blob] w fun e w' => e = .returned (.int .i64 0) ∧ IsRef w' v (R.put key blob) (fun k => G k ∨ (w.heap.size ≤ k ∧ k < w'.heap.size)) ∧ Keep G w w' := by
  obtain ⟨b, Cv, rows, rfl, h2, h3, h4, h5, h6, h7, h8, h9, g1, g2, g3, g4⟩ := h
  have hp : R.n < 2000 := by
    unfold RS.putErr at hz
    split at hz; · cases hz
    split at hz; · cases hz
    split at hz; · cases hz
    omega
  have hk : ¬ (key.size = 0 ∨ key.size > 200) := by intro e; rw [RS.putErr, if_pos e] at hz; cases hz
  have hb : ¬ blob.size > 40000 := by intro e; rw [RS.putErr, if_neg hk, if_pos e] at hz; cases hz
  have hf : placeN rows key = none := by rw [← RS.find_rows h6]; exact hi
  have HPL := Lib.hid (ref_place h2 h3 (Nat.le_trans h8 h7) key)
  obtain ⟨A0, cap0, hCv, hcap0, _⟩ := own_slice h3
  have hbb : b < w.heap.size := g4 _ g1
  have nCb : ¬ Cv.ownBlock = some b := own_type h2 h3 (by decide)
  obtain ⟨A1, c1, w1, hrun1, hown1, hk1, hloc1, hgt1⟩ := append_cell h3 ⟨key, .slice none 0 0, [], false⟩ rfl (Nat.le_trans h8 h7)
  obtain ⟨rows', hr'⟩ : ∃ rows' : List RR, rows ++ [⟨key, .slice none 0 0, [], false⟩] = rows' := ⟨_, rfl⟩
  have hrl' : rows'.length = rows.length + 1 := by rw [← hr']; simp
  rw [hr', hrl'] at hown1
  obtain ⟨g, cap, hgg, hcap, hcell⟩ := own_block hown1 (by omega)
  cases hgg
  have h2w1 := hk1.at h2 nCb
  -- the cells' slice is laid into the store
  obtain ⟨ws, hws⟩ : ∃ ws, w1.setCell ⟨b, 0, none⟩ (.slice (some ⟨g, 0, none⟩) (rows.length + 1) c1) = ws := ⟨_, rfl⟩
  have ks : Keep (fun k => k = b) w1 ws := by rw [← hws]; exact Keep.setCell (fun k => k = b) w1 (p := ⟨b, 0, none⟩) rfl _
  have hss : ws.heap.size = w1.heap.size := by rw [← hws]; simp
  have h2s : ws.heap[b]? = some (.cells #[.slice (some ⟨g, 0, none⟩) (rows.length + 1) c1, .int .i64 R.n] 86 (0, 0)) := by
    rw [← hws]; have := set_at h2w1 0 (.slice (some ⟨g, 0, none⟩) (rows.length + 1) c1); simpa using this
  have hgb : ¬ g = b := fun e => own_type h2w1 hown1 (by decide) (by rw [← e]; rfl)
  have hown1s := ks.own hown1 (fun k hk e => by cases hk; exact hgb e)
  have hgsz : g < w1.heap.size := (World.ownsRow.lt hown1 g rfl).2
  -- the copy of the cell, and its row
  have kA := Keep.alloc (fun _ => False) ws (.cells #[.string key, .slice none 0 0, .bool false] 89)
  have hA1 := (MapKept.heap_alloc ws (.cells #[.string key, .slice none 0 0, .bool false] 89)).1
  obtain ⟨A, cp, w3, hrun, hown, hk3, hloc, hgt⟩ := append_str2 (w := ws.alloc (.cells #[.string key, .slice none 0 0, .bool false] 89)) (v := .slice none 0 0) (l := []) (own_nil _ 0 9 1) blob (Nat.zero_le _)
  have hk3' : Keep (fun _ => False) ws w3 := kA.same (hk3.mono fun k e => by cases e)
  have h2' := hk3'.at h2s (fun e => e)
  have h3' := hk3'.own hown1s (fun _ _ e => e)
  have hA2 := hk3.at hA1 (fun e => by cases e)
  rw [hss] at hA2
  rw [size_alloc, hss] at hrun
  rw [← hws] at hrun
  obtain ⟨_, _, _, hcp, _⟩ := own_slice hown
  have e0 := cell_of_row w3 b 0 _ _ _ h2'
  have e1 := cell_of_row w3 b 1 _ _ _ h2'
  have eb1 := frozen_of_row h2' 1
  have a0 := cell_of_row w3 w1.heap.size 0 _ _ _ hA2
  have a1 := cell_of_row w3 w1.heap.size 1 _ _ _ hA2
  have a2 := cell_of_row w3 w1.heap.size 2 _ _ _ hA2
  have af1 := frozen_of_row hA2 1
  have af2 := frozen_of_row hA2 2
  simp at e0 e1 a0 a1 a2
  have hx : rows'[rows.length]? = some ⟨key, .slice none 0 0, [], false⟩ := by rw [← hr']; simp
  have f0 : (flatR rows')[rows.length * 3]? = some (.string key) := (flatR_get hx).1
  have f1 : (flatR rows')[rows.length * 3 + 1]? = some (.slice none 0 0) := (flatR_get hx).2.1
  have f2 : (flatR rows')[rows.length * 3 + 2]? = some (.bool false) := (flatR_get hx).2.2
  obtain ⟨g', cap', hgg, _, hcell'⟩ := own_block h3' (by omega)
  cases hgg
  -- what the walk reads of w, of w1, of the world behind the store into b
  have c0 := cell_of_row w b 0 _ _ _ h2
  have c1' := cell_of_row w b 1 _ _ _ h2
  have m0 := cell_of_row w1 b 0 _ _ _ h2w1
  have mf0 := frozen_of_row h2w1 0
  simp at c0 c1' m0
  have u0 := (hcell _ _ f0).1
  have u1 := (hcell _ _ f1).1
  have u2 := (hcell _ _ f2).1
  have p0 := (hcell' _ _ f0).1
  have p1 := (hcell' _ _ f1).1
  have p2 := (hcell' _ _ f2).1
  have pf0 := (hcell' _ _ f0).2
  have pf1 := (hcell' _ _ f1).2
  have pf2 := (hcell' _ _ f2).2
  have hw1 : w.heap.size ≤ w1.heap.size := hk1.size
  have hab : ¬ w1.heap.size = b := by omega
  have hba : ¬ b = w1.heap.size := by omega
  have hag : ¬ w1.heap.size = g := by omega
  have hga : ¬ g = w1.heap.size := by omega
  have hbg : ¬ b = g := fun e => hgb e.symm
  have hil : (rows.length : Int) < rows.length + 1 := by omega
  have hrl : rows.length ≤ 2000 := Nat.le_trans h8 h7
  have he1 : key.toList.isEmpty = false := by
    cases e : key.toList with
    | nil => exact absurd (Or.inl (by rw [← size_list, e]; rfl)) hk
    | cons x l => rfl
  have he2 : ¬ (200 : Int) < key.size := by omega
  have he3 : ¬ (40000 : Int) < blob.size := by omega
  have he4 : ¬ (2000 : Int) ≤ R.n := by omega
  rw [hf] at HPL
  clear hk hb
  have hlc : ∀ k, (Value.slice A 1 cp).ownBlock = some k → w.heap.size ≤ k ∧ k < w3.heap.size := fun k hk => by
    rcases hloc with e | e
    · rw [List.length_nil] at e; rw [e] at hk; cases hk
    · rw [List.length_nil] at e
      have h1 := e ▸ hk
      cases h1
      rw [size_alloc, hss] at *
      exact ⟨by omega, (World.ownsRow.lt hown _ e).2⟩
  have hgG : G g ∨ (w.heap.size ≤ g ∧ g < w3.heap.size) := by
    have h3sz := hk3'.size
    rcases hloc1 with e | e
    · exact Or.inl (g2 g (by rw [← e]; rfl))
    · have : g = w.heap.size + 1 := by cases e; rfl
      exact Or.inr ⟨by omega, by rw [hss] at h3sz; omega⟩
  have getR : ∀ (j : Nat) (r : RR), rows'[j]? = some r → j ≠ rows.length → rows[j]? = some r := fun j r hr hj => by
    rw [← hr'] at hr
    rw [List.getElem?_append] at hr
    split at hr
    · exact hr
    · rename_i hlt; have : j - rows.length ≠ 0 := by omega
      rw [List.getElem?_cons, if_neg this] at hr; simp at hr
  have newR : ∀ (r : RR), rows'[rows.length]? = some r → r = ⟨key, .slice none 0 0, [], false⟩ := fun r hr => by rw [hx] at hr; exact (Option.some.inj hr).symm
  have kw : Keep (fun k => Cv.ownBlock = some k ∨ k = b) w w3 := ((hk1.mono fun k e => Or.inl e).same (ks.mono fun k e => Or.inr e)).same (hk3'.mono fun k e => e.elim)
  have h4w : ∀ (j : Nat) (r : RR), rows'[j]? = some r → j ≠ rows.length → w3.ownsRow 0 9 1 r.v r.l.length (strV r.l) := fun j r hr hj => by
    have ho := h4 j r (getR j r hr hj)
    refine kw.own ho fun k hk e => ?_
    rcases e with e | rfl
    · rcases h3.2 with ⟨rfl, _⟩ | ⟨g', cp', cur, rfl, _, hg', _⟩
      · cases e
      · cases e; exact own_type hg' ho (by decide) hk
    · exact own_type h2 ho (by decide) hk
  rw [← hrl'] at h2' h3'
  have hd := ref_done (n := R.n) (blob := blob) (G := fun k => G k ∨ (w.heap.size ≤ k ∧ k < w3.heap.size)) h2' h3' hA2 hx h4w hown (fun j k r r' hr hr2 hjk => by
      by_cases hj : j = rows.length
      · subst hj; rw [newR r hr]; exact Or.inl rfl
      · by_cases hk : k = rows.length
        · subst hk; rw [newR r' hr2]
          by_cases e0 : r.v.ownBlock = none
          · exact Or.inl e0
          · exact Or.inr e0
        · exact h5 j k r r' (getR j r hr hj) (getR k r' hr2 hk) hjk) (fun j r hr hj => by
      by_cases e0 : r.v.ownBlock = none
      · exact Or.inl e0
      · refine Or.inr fun e' => ?_
        obtain ⟨q, hq⟩ := Option.ne_none_iff_exists'.1 e0
        have h1 := (World.ownsRow.lt (h4 j r (getR j r hr hj)) q hq).2
        have h2 := (hlc q (by rw [hq] at e'; exact e'.symm)).1
        omega) hab hag hp (by rw [hrl']; omega) (fun j r hr => by
      by_cases hj : j = rows.length
      · subst hj; rw [newR r hr]; exact Nat.zero_le _
      · exact h9 j r (getR j r hr hj)) (Or.inl g1) hgG (fun j r k hr hj hk => Or.inl (g3 j r k (getR j r hr hj) hk)) (fun k hk => Or.inr (hlc k hk))
    (fun k hk => hk.elim (fun e => Nat.lt_of_lt_of_le (g4 k e) kw.size) (fun e => e.2))
  have hsz : (((((((w3.setCell ⟨w1.heap.size, 1, none⟩ (.slice A 1 cp)).setCell ⟨w1.heap.size, 2, none⟩ (.bool true)).setCell ⟨g, rows.length * 3, none⟩ (.string key)).setCell ⟨g, rows.length * 3 + 1, none⟩ (.slice A 1 cp)).setCell ⟨g, rows.length * 3 + 2, none⟩ (.bool true)).setCell ⟨b, 1, none⟩ (.int .i64 ((R.n : Int) + 1))).drew).heap.size = w3.heap.size := by simp
  have hput : R.put key blob = ⟨(rows'.map RR.un).set rows.length (key, [] ++ [blob], true), R.n + 1⟩ := by
    unfold RS.put
    rw [if_pos hz, hi, h6, ← hr', List.map_append]
    simp [RR.un]
  have hfin : IsRef (((((((w3.setCell ⟨w1.heap.size, 1, none⟩ (.slice A 1 cp)).setCell ⟨w1.heap.size, 2, none⟩ (.bool true)).setCell ⟨g, rows.length * 3, none⟩ (.string key)).setCell ⟨g, rows.length * 3 + 1, none⟩ (.slice A 1 cp)).setCell ⟨g, rows.length * 3 + 2, none⟩ (.bool true)).setCell ⟨b, 1, none⟩ (.int .i64 ((R.n : Int) + 1))).drew) (.pointer (some ⟨b, 0, none⟩)) (R.put key blob) (fun k => G k ∨ (w.heap.size ≤ k ∧ k < (((((((w3.setCell ⟨w1.heap.size, 1, none⟩ (.slice A 1 cp)).setCell ⟨w1.heap.size, 2, none⟩ (.bool true)).setCell ⟨g, rows.length * 3, none⟩ (.string key)).setCell ⟨g, rows.length * 3 + 1, none⟩ (.slice A 1 cp)).setCell ⟨g, rows.length * 3 + 2, none⟩ (.bool true)).setCell ⟨b, 1, none⟩ (.int .i64 ((R.n : Int) + 1))).drew).heap.size)) ∧ Keep G w (((((((w3.setCell ⟨w1.heap.size, 1, none⟩ (.slice A 1 cp)).setCell ⟨w1.heap.size, 2, none⟩ (.bool true)).setCell ⟨g, rows.length * 3, none⟩ (.string key)).setCell ⟨g, rows.length * 3 + 1, none⟩ (.slice A 1 cp)).setCell ⟨g, rows.length * 3 + 2, none⟩ (.bool true)).setCell ⟨b, 1, none⟩ (.int .i64 ((R.n : Int) + 1))).drew) := by
    rw [hsz, hput]
    refine ⟨hd.1, (kw.mono (G := G) fun k hk => ?_).trans hd.2 fun k hk => ?_⟩
    · rcases hk with e | rfl
      · exact g2 k e
      · exact g1
    · rcases hk with rfl | rfl | rfl
      · exact Or.inr hw1
      · rcases hgG with e | e
        · exact Or.inl e
        · exact Or.inr e.1
      · exact Or.inl g1
  have HFIN := Lib.hid hfin
  subst hCv
  clear hfin hput hsz hd h4w kw newR getR hgG hlc h2 h3 h4 h5 h6 h9 g1 g2 g3 g4 hz hi hf nCb hown1 hk1 hloc1 hgt1 hr' hrl' h2w1 hss h2s hown1s hgsz kA hA1 hown hk3 hloc hgt hk3' h2' h3' hA2 hx f0 f1 f2 hcell hcell' ks hws hgb hw1
  go_enter Try.func41, Try.ntmps41
  go_wp2_with fail
  refine (HPL.out).mono ?_
  rintro e w4 ⟨rfl, rfl⟩
  simp only [placeZ]
  go_wp2_with (at_builtin; first | refine wp_append_run rfl _ _ _ rfl rfl rfl hrun1 ?_ | refine wp_append_run rfl _ _ _ rfl rfl rfl hrun ?_)
  go_region_held3 (fun w' => w'.cell? ⟨b, 0, none⟩ = some (.slice (some ⟨g, 0, none⟩) (rows.length + 1) c1) ∧ w'.cell? ⟨w1.heap.size, 0, none⟩ = some (.string key) ∧ w'.cell? ⟨w1.heap.size, 1, none⟩ = some (.slice A 1 cp) ∧ w'.cell? ⟨w1.heap.size, 2, none⟩ = some (.bool true)) (refine ⟨?_, ?_, ?_, ?_⟩ <;> first | go_cell | (simp [*]; done)) (fail)
  go_wp2_with fail
  go_ret
  exact ⟨rfl, HFIN.out⟩

theorem ref_put_err {w : World} {v : Value} {R : RS} {G : Nat → Prop} (h : IsRef w v R G) (key blob : ByteArray) (hz : R.putErr key blob ≠ 0) :
    Calls Try.prog 41 #[v, .string key, .string blob] w fun e w' => e = .returned (.int .i64 (R.putErr key blob)) ∧ w = w' := by
  obtain ⟨b, Cv, rows, rfl, h2, h3, h4, h5, h6, h7, h8, h9, g1, g2, g3, g4⟩ := h
  have c1 := cell_of_row w b 1 _ _ _ h2
  simp at c1
  clear h2 h3 h4 h5 h6 h8 h9 g1 g2 g3 g4
  obtain ⟨z, hz0⟩ : ∃ z, R.putErr key blob = z := ⟨_, rfl⟩
  have hz1 := hz0
  unfold RS.putErr at hz1
  rw [hz0] at hz ⊢
  clear hz0
  by_cases hk : key.size = 0 ∨ key.size > 200
  · rw [if_pos hk] at hz1
    subst hz1
    clear hz
    by_cases he : key.toList.isEmpty = true
    · clear hk
      go_enter Try.func41, Try.ntmps41
      go_wp2_with fail
      go_ret
      exact ⟨rfl, rfl⟩
    · have he2 : (200 : Int) < key.size := by
        have : ¬ key.size = 0 := fun e => he (by rw [← size_list] at e; rw [List.eq_nil_of_length_eq_zero e]; rfl)
        omega
      have he1 : key.toList.isEmpty = false := by simpa using he
      clear hk he
      go_enter Try.func41, Try.ntmps41
      go_wp2_with fail
      go_ret
      exact ⟨rfl, rfl⟩
  · rw [if_neg hk] at hz1
    have he1 : key.toList.isEmpty = false := by
      cases e : key.toList with
      | nil => exact absurd (Or.inl (by rw [← size_list, e]; rfl)) hk
      | cons x l => rfl
    have he2 : ¬ (200 : Int) < key.size := by omega
    by_cases hb : blob.size > 40000
    · rw [if_pos hb] at hz1
      subst hz1
      have he3 : (40000 : Int) < blob.size := by omega
      clear hz hk hb
      go_enter Try.func41, Try.ntmps41
      go_wp2_with fail
      go_ret
      exact ⟨rfl, rfl⟩
    · rw [if_neg hb] at hz1
      by_cases hn : R.n = 2000
      · rw [if_pos hn] at hz1
        subst hz1
        have he3 : ¬ (40000 : Int) < blob.size := by omega
        have he4 : (2000 : Int) ≤ R.n := by omega
        clear hz hk hb hn
        go_enter Try.func41, Try.ntmps41
        go_wp2_with fail
        go_ret
        exact ⟨rfl, rfl⟩
      · rw [if_neg hn] at hz1
        exact absurd hz1.symm hz

theorem IsRef.wider {w : World} {v : Value} {R : RS} {F G : Nat → Prop} (h : IsRef w v R F) (hG : ∀ k, F k → G k) (hlt : ∀ k, G k → k < w.heap.size) : IsRef w v R G := by
  obtain ⟨b, Cv, rows, h1, h2, h3, h4, h5, h6, h7, h8, h9, g1, g2, g3, g4⟩ := h
  exact ⟨b, Cv, rows, h1, h2, h3, h4, h5, h6, h7, h8, h9, hG _ g1, fun g hg => hG _ (g2 g hg), fun i r g hr hg => hG _ (g3 i r g hr hg), hlt⟩
theorem IsRef.lt {w : World} {v : Value} {R : RS} {F : Nat → Prop} (h : IsRef w v R F) : ∀ k, F k → k < w.heap.size := by
  obtain ⟨b, Cv, rows, h1, h2, h3, h4, h5, h6, h7, h8, h9, g1, g2, g3, g4⟩ := h; exact g4

theorem ref_put {w : World} {v : Value} {R : RS} {G : Nat → Prop} (h : IsRef w v R G) (key blob : ByteArray) :
    Calls Try.prog 41 #[v, .string key, .string blob] w fun e w' => e = .returned (.int .i64 (R.putErr key blob)) ∧ IsRef w' v (R.put key blob) (fun k => G k ∨ (w.heap.size ≤ k ∧ k < w'.heap.size)) ∧ Keep G w w' := by
  by_cases hz : R.putErr key blob = 0
  · rw [hz]
    cases hi : R.find key with
    | some i => exact ref_put_at h key blob hz hi
    | none => exact ref_put_new h key blob hz hi
  · refine (ref_put_err h key blob hz).mono fun e w' ⟨h1, h2⟩ => ⟨h1, ?_, ?_⟩
    · subst h2
      rw [RS.put, if_neg hz]
      exact h.wider (fun k hk => Or.inl hk) fun k hk => hk.elim (h.lt k) (fun e => e.2)
    · subst h2; exact Keep.refl _ _
end Go.Proofs.Ytcalfjakgidhfaa
