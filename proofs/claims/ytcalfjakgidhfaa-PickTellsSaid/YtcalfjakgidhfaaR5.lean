/- The document's store: Delete. -/
import Derived.Test.YtcalfjakgidhfaaR4
namespace Go.Proofs.Ytcalfjakgidhfaa
open Go.RowKit
set_option linter.unusedVariables false
set_option linter.unusedSimpArgs false

def RS.isAt (R : RS) (i : Nat) : Bool := ((R.c[i]?).map (·.2.2)).getD false
def RS.delErr (R : RS) (k : ByteArray) : Int := match R.find k with | some i => if R.isAt i = true then 0 else 4 | none => 4
def RS.del (R : RS) (k : ByteArray) : RS := match R.find k with
  | some i => if R.isAt i = true then ⟨R.c.set i (k, ((R.c[i]?).map (·.2.1)).getD [], false), R.n⟩ else R
  | none => R

theorem find_key {rows : List RR} {key : ByteArray} {i : Nat} (hf : placeN rows key = some i) : ∃ v l is, rows[i]? = some ⟨key, v, l, is⟩ := by
  obtain ⟨hlt, hkey, _⟩ := List.findIdx?_eq_some_iff_getElem.1 hf
  refine ⟨rows[i].v, rows[i].l, rows[i].is, ?_⟩
  rw [List.getElem?_eq_getElem hlt]
  have : rows[i].key = key := by simpa using hkey
  rw [← this]

theorem ref_undone {w : World} {b g i cap n : Nat} {rows : List RR} {x : RR} {G : Nat → Prop}
    (h2 : w.heap[b]? = some (.cells #[.slice (some ⟨g, 0, none⟩) rows.length cap, .int .i64 n] 86 (0, 0)))
    (h3 : w.ownsRow 0 89 3 (.slice (some ⟨g, 0, none⟩) rows.length cap) rows.length (flatR rows)) (hx : rows[i]? = some x)
    (h4 : ∀ (j : Nat) (r : RR), rows[j]? = some r → w.ownsRow 0 9 1 r.v r.l.length (strV r.l))
    (h5 : ∀ (j k : Nat) (r r' : RR), rows[j]? = some r → rows[k]? = some r' → j ≠ k → r.v.ownBlock = none ∨ r.v.ownBlock ≠ r'.v.ownBlock)
    (hn : n ≤ 2000) (hl : rows.length ≤ n) (h9 : ∀ (j : Nat) (r : RR), rows[j]? = some r → r.l.length ≤ n)
    (g1 : G b) (g2 : G g) (g3 : ∀ (j : Nat) (r : RR) (k : Nat), rows[j]? = some r → r.v.ownBlock = some k → G k) (g4 : ∀ k, G k → k < w.heap.size) :
    IsRef (w.setCell ⟨g, i * 3 + 2, none⟩ (.bool false)) (.pointer (some ⟨b, 0, none⟩)) ⟨(rows.map RR.un).set i (x.key, x.l, false), n⟩ G ∧ Keep (fun k => k = g) w (w.setCell ⟨g, i * 3 + 2, none⟩ (.bool false)) := by
  have hlt : i < rows.length := (List.getElem?_eq_some_iff.1 hx).1
  obtain ⟨cg, hg⟩ := own_at h3
  have hbg : ¬ b = g := by intro e; subst e; rw [h2] at hg; cases hg
  obtain ⟨f0, f1, f2⟩ := flatR_get hx
  have s1 := (h3.stored (i * 3 + 2) (.bool false)).1
  have hfl := flatR_set hlt ⟨x.key, x.v, x.l, false⟩
  have k0 : ∀ (L : List Value) (j : Nat) (u : Value), L[j]? = some u → L.set j u = L := fun L j u h => by
    apply List.ext_getElem?; intro m; rw [List.getElem?_set]
    split
    · rename_i e; subst e; split
      · exact h.symm
      · rename_i hh; exact absurd (List.getElem?_eq_some_iff.1 h).1 hh
    · rfl
  dsimp only at hfl
  rw [k0 _ _ _ f0, k0 _ _ _ f1] at hfl
  rw [← hfl] at s1
  have kg : Keep (fun k => k = g) w (w.setCell ⟨g, i * 3 + 2, none⟩ (.bool false)) := Keep.setCell (fun k => k = g) w (p := ⟨g, i * 3 + 2, none⟩) rfl _
  have keep1 : ∀ (v : Value) (m : Nat) (xs : List Value), w.ownsRow 0 9 1 v m xs → (w.setCell ⟨g, i * 3 + 2, none⟩ (.bool false)).ownsRow 0 9 1 v m xs := fun v m xs ho =>
    kg.own ho fun k hk e => by subst e; exact own_type hg ho (by decide) hk
  have hget : ∀ (j : Nat) (r : RR), (rows.set i ⟨x.key, x.v, x.l, false⟩)[j]? = some r → ∃ r0, rows[j]? = some r0 ∧ r.v = r0.v ∧ r.l = r0.l := fun j r hr => by
    rw [List.getElem?_set] at hr
    split at hr
    · rename_i e; subst e; simp [hlt] at hr; exact ⟨x, hx, by rw [← hr], by rw [← hr]⟩
    · exact ⟨r, hr, rfl, rfl⟩
  refine ⟨⟨b, .slice (some ⟨g, 0, none⟩) rows.length cap, rows.set i ⟨x.key, x.v, x.l, false⟩, rfl, kg.at h2 hbg, ?_, ?_, ?_, ?_, hn, ?_, ?_, g1, ?_, ?_, ?_⟩, kg⟩
  · rw [List.length_set]; exact s1
  · intro j r hr
    obtain ⟨r0, h0, e1, e2⟩ := hget j r hr
    rw [e1, e2]; exact keep1 _ _ _ (h4 j r0 h0)
  · intro j k r r' hr hr' hjk
    obtain ⟨r0, h0, e1, e2⟩ := hget j r hr
    obtain ⟨r0', h0', e1', e2'⟩ := hget k r' hr'
    rw [e1, e1']; exact h5 j k r0 r0' h0 h0' hjk
  · simp only; rw [List.map_set]; rfl
  · rw [List.length_set]; exact hl
  · intro j r hr
    obtain ⟨r0, h0, e1, e2⟩ := hget j r hr
    rw [e2]; exact h9 j r0 h0
  · intro k hk; cases hk; exact g2
  · intro j r k hr hk
    obtain ⟨r0, h0, e1, e2⟩ := hget j r hr
    rw [e1] at hk; exact g3 j r0 k h0 hk
  · intro k hk; exact Nat.lt_of_lt_of_le (g4 k hk) kg.size

set_option maxRecDepth 100000 in
set_option maxHeartbeats 1000000 in
theorem ref_delete {w : World} {v : Value} {R : RS} {G : Nat → Prop} (h : IsRef w v R G) (key : ByteArray) :
    Calls Try.prog 40 #[v, .string key] w fun e w' => e = .returned (.int .i64 (R.delErr key)) ∧ IsRef w' v (R.del key) G ∧ Keep G w w' := by
  have h0 := h
  obtain ⟨b, Cv, rows, rfl, h2, h3, h4, h5, h6, h7, h8, h9, g1, g2, g3, g4⟩ := h
  have hfr := RS.find_rows h6 key
  have HPL := ref_place h2 h3 (Nat.le_trans h8 h7) key
  have c0 := cell_of_row w b 0 _ _ _ h2
  simp at c0
  cases hf : placeN rows key with
  | none =>
    have e1 : R.delErr key = 4 := by unfold RS.delErr; rw [hfr, hf]
    have e2 : R.del key = R := by unfold RS.del; rw [hfr, hf]
    rw [e1, e2]
    rw [hf] at HPL
    have HP := Lib.hid HPL
    have H0 := Lib.hid h0
    clear h0 h2 h3 h4 h5 h6 h9 g1 g2 g3 g4 hfr HPL e1 e2 hf
    go_enter Try.func40, Try.ntmps40
    go_wp2_with fail
    refine (HP.out).mono ?_
    rintro e w4 ⟨rfl, rfl⟩
    simp only [placeZ]
    go_wp2_with fail
    go_ret
    exact ⟨rfl, H0.out, Keep.refl _ _⟩
  | some i =>
    obtain ⟨xv, xl, xis, hx⟩ := find_key hf
    have hlt : i < rows.length := (List.getElem?_eq_some_iff.1 hx).1
    have hc : R.c[i]? = some (key, xl, xis) := by rw [h6, List.getElem?_map, hx]; rfl
    have hat : R.isAt i = xis := by unfold RS.isAt; rw [hc]; rfl
    obtain ⟨g, cap, rfl, hcap, hcell⟩ := own_block h3 (by omega)
    have f2 : (flatR rows)[i * 3 + 2]? = some (.bool xis) := (flatR_get hx).2.2
    obtain ⟨d2, df2⟩ := hcell _ _ f2
    have hil : (i : Int) < rows.length := by omega
    have hrl : rows.length ≤ 2000 := Nat.le_trans h8 h7
    have hgb : ¬ g = b := fun e => own_type h2 h3 (by decide) (by rw [← e]; rfl)
    have hbg : ¬ b = g := fun e => hgb e.symm
    rw [hf] at HPL
    have HP := Lib.hid HPL
    cases xis with
    | false =>
      have e1 : R.delErr key = 4 := by unfold RS.delErr; rw [hfr, hf]; simp [hat]
      have e2 : R.del key = R := by unfold RS.del; rw [hfr, hf]; simp [hat]
      rw [e1, e2]
      have H0 := Lib.hid h0
      clear h0 h2 h3 h4 h5 h6 h9 g1 g2 g3 g4 hfr HPL e1 e2 hf hx hc hat hcell f2
      go_enter Try.func40, Try.ntmps40
      go_wp2_with fail
      refine (HP.out).mono ?_
      rintro e w4 ⟨rfl, rfl⟩
      simp only [placeZ]
      go_wp2_with fail
      go_ret
      exact ⟨rfl, H0.out, Keep.refl _ _⟩
    | true =>
      have e1 : R.delErr key = 0 := by unfold RS.delErr; rw [hfr, hf]; simp [hat]
      have e2 : R.del key = ⟨(rows.map RR.un).set i (key, xl, false), R.n⟩ := by unfold RS.del; rw [hfr, hf]; simp only [hat, if_true]; rw [hc, h6]; rfl
      have hd := ref_undone h2 h3 hx h4 h5 h7 h8 h9 g1 (g2 g rfl) g3 g4
      rw [e1, e2]
      have HFIN := Lib.hid (And.intro hd.1 (hd.2.mono (G := G) fun k hk => by subst hk; exact g2 k rfl))
      clear h0 h2 h3 h4 h5 h6 h9 g1 g2 g3 g4 hfr HPL e1 e2 hf hx hc hat hcell f2 hd
      go_enter Try.func40, Try.ntmps40
      go_wp2_with fail
      refine (HP.out).mono ?_
      rintro e w4 ⟨rfl, rfl⟩
      simp only [placeZ]
      go_wp2_with fail
      go_ret
      exact ⟨rfl, HFIN.out⟩
end Go.Proofs.Ytcalfjakgidhfaa
