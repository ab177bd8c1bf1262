/- The document's store: Put. -/
import Derived.Test.YtcalfjakgidhfaaR2b
namespace Go.Proofs.Ytcalfjakgidhfaa
open Go.RowKit
set_option linter.unusedVariables false
set_option linter.unusedSimpArgs false

set_option maxRecDepth 100000 in
set_option maxHeartbeats 2000000 in
theorem ref_put_at {w : World} {v : Value} {R : RS} {G : Nat → Prop} (h : IsRef w v R G) (key blob : ByteArray) (hz : R.putErr key blob = 0) {i : Nat} (hi : R.find key = some i) :
    Calls Try.prog 41 #[v, .string key, .string blob] w fun e w' => e = .returned (.int .i64 0) ∧ IsRef w' v (R.put key blob) (fun k => G k ∨ (w.heap.size ≤ k ∧ k < w'.heap.size)) ∧ Keep G w w' := by
  obtain ⟨b, Cv, rows, rfl, h2, h3, h4, h5, h6, h7, h8, h9, g1, g2, g3, g4⟩ := h
  have hp : R.n < 2000 := by
    unfold RS.putErr at hz
    split at hz; · cases hz
    split at hz; · cases hz
    split at hz; · cases hz
    omega
  have hk : ¬ (key.size = 0 ∨ key.size > 200) := by intro e; rw [RS.putErr, if_pos e] at hz; cases hz
  have hb : ¬ blob.size > 40000 := by intro e; rw [RS.putErr, if_neg hk, if_pos e] at hz; cases hz
  have hf : placeN rows key = some i := by rw [← RS.find_rows h6]; exact hi
  obtain ⟨hlt, hkey, _⟩ := List.findIdx?_eq_some_iff_getElem.1 hf
  obtain ⟨⟨xk, xv, xl, xis⟩, hx⟩ : ∃ x, rows[i]? = some x := ⟨_, List.getElem?_eq_getElem hlt⟩
  have hxk : xk = key := by
    rw [List.getElem?_eq_getElem hlt] at hx
    have e := Option.some.inj hx
    rw [e] at hkey; simpa using hkey
  subst hxk
  obtain ⟨g, cap, rfl, hcap, hcell⟩ := own_block h3 (by omega)
  have f0 : (flatR rows)[i * 3]? = some (.string xk) := (flatR_get hx).1
  have f1 : (flatR rows)[i * 3 + 1]? = some xv := (flatR_get hx).2.1
  have f2 : (flatR rows)[i * 3 + 2]? = some (.bool xis) := (flatR_get hx).2.2
  have c0 := cell_of_row w b 0 _ _ _ h2
  have c1 := cell_of_row w b 1 _ _ _ h2
  simp at c0 c1
  have d0 := (hcell _ _ f0).1
  have d1 := (hcell _ _ f1).1
  have d2 := (hcell _ _ f2).1
  have hrow : w.ownsRow 0 9 1 xv xl.length (strV xl) := h4 i _ hx
  obtain ⟨A0, cp0, hxv, _⟩ := own_slice hrow
  have hlen : xl.length ≤ 2000 := Nat.le_trans (h9 i _ hx) h7
  have HPL := Lib.hid (ref_place h2 h3 (Nat.le_trans h8 h7) xk)
  have hgb : g < w.heap.size := g4 _ (g2 g rfl)
  have hbb : b < w.heap.size := g4 _ g1
  have hne : ¬ g = b := fun e => by
    rcases h3.2 with ⟨e', _⟩ | ⟨g', cp, cur, e', _, hg', _⟩
    · cases e'
    · cases e'; subst e; rw [h2] at hg'; cases hg'
  -- the copy of the cell, and the row behind it
  obtain ⟨w1, hw1⟩ : ∃ w1, w.alloc (.cells #[.string xk, xv, .bool xis] 89) = w1 := ⟨_, rfl⟩
  have hrow1 : w1.ownsRow 0 9 1 xv xl.length (strV xl) := by rw [← hw1]; exact hrow.alloc _
  obtain ⟨A, cp, w2, hrun, hown, hk2, hloc, hgt⟩ := append_str2 hrow1 blob (by omega)
  obtain ⟨_, _, hv', hcp, _⟩ := own_slice hown
  clear hv'
  subst hw1
  rw [size_alloc, hxv] at hrun
  rw [hxv] at d1
  have hA1 := (MapKept.heap_alloc w (.cells #[.string xk, xv, .bool xis] 89)).1
  have kA := Keep.alloc (fun _ => False) w (.cells #[.string xk, xv, .bool xis] 89)
  have n1 : ¬ xv.ownBlock = some b := row_ne_own h2 hrow (by decide)
  have n2 : ¬ xv.ownBlock = some w.heap.size := fun e => by have := (World.ownsRow.lt hrow _ e).2; omega
  have n3 : ¬ xv.ownBlock = some g := fun e => by
    rcases h3.2 with ⟨e', _⟩ | ⟨g', cp', cur, e', _, hg', _⟩
    · cases e'
    · cases e'; exact row_ne_own hg' hrow (by decide) e
  have h2' := hk2.at (kA.at h2 (fun e => e)) n1
  have h3' := hk2.own (kA.own h3 (fun _ _ e => e)) (fun k hk => by cases hk; exact n3)
  have hA2 := hk2.at hA1 n2
  have e0 := cell_of_row w2 b 0 _ _ _ h2'
  have e1 := cell_of_row w2 b 1 _ _ _ h2'
  have eb1 := frozen_of_row h2' 1
  have a0 := cell_of_row w2 w.heap.size 0 _ _ _ hA2
  have a1 := cell_of_row w2 w.heap.size 1 _ _ _ hA2
  have a2 := cell_of_row w2 w.heap.size 2 _ _ _ hA2
  have af1 := frozen_of_row hA2 1
  have af2 := frozen_of_row hA2 2
  simp at e0 e1 a0 a1 a2
  obtain ⟨g', cap', hgg, _, hcell'⟩ := own_block h3' (by omega)
  cases hgg
  have q0 := hcell' _ _ f0
  have q1 := hcell' _ _ f1
  have q2 := hcell' _ _ f2
  have hab : ¬ w.heap.size = b := by omega
  have hba : ¬ b = w.heap.size := by omega
  have hag : ¬ w.heap.size = g := by omega
  have hga : ¬ g = w.heap.size := by omega
  have hbg : ¬ b = g := fun e => hne e.symm
  have p0 := q0.1
  have p1 := q1.1
  have p2 := q2.1
  have pf0 := q0.2
  have pf1 := q1.2
  have pf2 := q2.2
  rw [hxv] at p1 a1
  rw [hf] at HPL
  have hil : (i : Int) < rows.length := by omega
  have hrl : rows.length ≤ 2000 := Nat.le_trans h8 h7
  have he1 : xk.toList.isEmpty = false := by
    cases e : xk.toList with
    | nil => exact absurd (Or.inl (by rw [← size_list, e]; rfl)) hk
    | cons x l => rfl
  have he2 : ¬ (200 : Int) < xk.size := by omega
  have he3 : ¬ (40000 : Int) < blob.size := by omega
  have he4 : ¬ (2000 : Int) ≤ R.n := by omega
  clear hk hb
  have hgG : G g := g2 g rfl
  have hxG : ∀ k, xv.ownBlock = some k → G k := fun k hk => g3 i _ k hx hk
  have hgt' : w.heap.size + 1 < w2.heap.size := by have := hgt; rw [size_alloc] at this; exact this
  have hvG : ∀ k, (Value.slice A (xl.length + 1) cp).ownBlock = some k → G k ∨ (w.heap.size ≤ k ∧ k < w2.heap.size) := fun k hk => by
    rcases hloc with e | e
    · exact Or.inl (hxG k (by rw [← e]; exact hk))
    · rw [e] at hk; cases hk; rw [size_alloc]; rw [size_alloc] at e; exact Or.inr ⟨by omega, (World.ownsRow.lt hown _ e).2⟩
  have hkw2 : Keep (fun k => xv.ownBlock = some k) w w2 := (kA.mono fun _ e => e.elim).same hk2
  have h4w : ∀ (j : Nat) (r : RR), rows[j]? = some r → j ≠ i → w2.ownsRow 0 9 1 r.v r.l.length (strV r.l) := fun j r hr hj => by
    refine hkw2.own (h4 j r hr) fun k hk e => ?_
    rcases h5 j i r _ hr hx hj with e' | e'
    · rw [e'] at hk; cases hk
    · exact e' (hk.trans e.symm)
  have hd := ref_done (G := fun k => G k ∨ (w.heap.size ≤ k ∧ k < w2.heap.size)) h2' h3' hA2 hx h4w hown h5 (fun j r hr hj => by
      rcases hloc with e | e
      · rw [e]; exact h5 j i r _ hr hx hj
      · by_cases e0 : r.v.ownBlock = none
        · exact Or.inl e0
        · refine Or.inr fun e' => ?_
          have := (World.ownsRow.lt (h4 j r hr) _ (e'.trans e)).2
          rw [size_alloc] at this; omega) hab hag hp (Nat.le_succ_of_le h8) h9 (Or.inl g1) (Or.inl hgG) (fun j r k hr hj hk => Or.inl (g3 j r k hr hk)) hvG
    (fun k hk => hk.elim (fun e => by have := g4 k e; omega) (fun e => e.2))
  have hsz : (((((((w2.setCell ⟨w.heap.size, 1, none⟩ (.slice A (xl.length + 1) cp)).setCell ⟨w.heap.size, 2, none⟩ (.bool true)).setCell ⟨g, i * 3, none⟩ (.string xk)).setCell ⟨g, i * 3 + 1, none⟩ (.slice A (xl.length + 1) cp)).setCell ⟨g, i * 3 + 2, none⟩ (.bool true)).setCell ⟨b, 1, none⟩ (.int .i64 ((R.n : Int) + 1))).drew).heap.size = w2.heap.size := by simp
  have hput : R.put xk blob = ⟨(rows.map RR.un).set i (xk, xl ++ [blob], true), R.n + 1⟩ := by
    unfold RS.put
    rw [if_pos hz, hi, h6]
    have e : (rows.map RR.un)[i]? = some (xk, xl, xis) := by rw [List.getElem?_map, hx]; rfl
    show RS.mk ((rows.map RR.un).set i (xk, (((rows.map RR.un)[i]?).map (fun x => x.2.1)).getD [] ++ [blob], true)) (R.n + 1) = _
    rw [e]; rfl
  have hfin : IsRef (((((((w2.setCell ⟨w.heap.size, 1, none⟩ (.slice A (xl.length + 1) cp)).setCell ⟨w.heap.size, 2, none⟩ (.bool true)).setCell ⟨g, i * 3, none⟩ (.string xk)).setCell ⟨g, i * 3 + 1, none⟩ (.slice A (xl.length + 1) cp)).setCell ⟨g, i * 3 + 2, none⟩ (.bool true)).setCell ⟨b, 1, none⟩ (.int .i64 ((R.n : Int) + 1))).drew) (.pointer (some ⟨b, 0, none⟩)) (R.put xk blob) (fun k => G k ∨ (w.heap.size ≤ k ∧ k < (((((((w2.setCell ⟨w.heap.size, 1, none⟩ (.slice A (xl.length + 1) cp)).setCell ⟨w.heap.size, 2, none⟩ (.bool true)).setCell ⟨g, i * 3, none⟩ (.string xk)).setCell ⟨g, i * 3 + 1, none⟩ (.slice A (xl.length + 1) cp)).setCell ⟨g, i * 3 + 2, none⟩ (.bool true)).setCell ⟨b, 1, none⟩ (.int .i64 ((R.n : Int) + 1))).drew).heap.size)) ∧ Keep G w (((((((w2.setCell ⟨w.heap.size, 1, none⟩ (.slice A (xl.length + 1) cp)).setCell ⟨w.heap.size, 2, none⟩ (.bool true)).setCell ⟨g, i * 3, none⟩ (.string xk)).setCell ⟨g, i * 3 + 1, none⟩ (.slice A (xl.length + 1) cp)).setCell ⟨g, i * 3 + 2, none⟩ (.bool true)).setCell ⟨b, 1, none⟩ (.int .i64 ((R.n : Int) + 1))).drew) := by
    rw [hsz, hput]
    refine ⟨hd.1, (hkw2.mono hxG).trans hd.2 fun k hk => ?_⟩
    rcases hk with rfl | rfl | rfl
    · exact Or.inr (Nat.le_refl _)
    · exact Or.inl hgG
    · exact Or.inl g1
  have HFIN := Lib.hid hfin
  have HRUN := Lib.hid hrun
  clear hfin hput hsz hd h4w hkw2 hvG hgt' hxG hgG h2 h3 h4 h5 h9 g1 g2 g3 g4 hf hx hz hxv hi h6 hk2 hown h2' h3' hA2 hrow q0 q1 q2 hcell' hcell hA1 kA n1 n2 n3 hrow1 f0 f1 f2 hkey hloc hgt HRUN
  go_enter Try.func41, Try.ntmps41
  go_wp2_with fail
  refine (HPL.out).mono ?_
  rintro e w3 ⟨rfl, rfl⟩
  simp only [placeZ]
  go_wp2_with (at_builtin; refine wp_append_run rfl _ _ _ rfl rfl rfl hrun ?_)
  go_region_held3 (fun w' => w'.cell? ⟨b, 0, none⟩ = some (.slice (some ⟨g, 0, none⟩) rows.length cap) ∧ w'.cell? ⟨w.heap.size, 0, none⟩ = some (.string xk) ∧ w'.cell? ⟨w.heap.size, 1, none⟩ = some (.slice A (xl.length + 1) cp) ∧ w'.cell? ⟨w.heap.size, 2, none⟩ = some (.bool true)) (refine ⟨?_, ?_, ?_, ?_⟩ <;> first | go_cell | (simp [*]; done)) (fail)
  go_wp2_with fail
  go_ret
  exact ⟨rfl, HFIN.out⟩
end Go.Proofs.Ytcalfjakgidhfaa
