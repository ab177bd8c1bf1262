/- The document's store: Versions, Get, List. -/
import Derived.Test.YtcalfjakgidhfaaR5
import Derived.Test.YtcalfjakgidhfaaRis
namespace Go.Proofs.Ytcalfjakgidhfaa
open Go.RowKit
set_option linter.unusedVariables false
set_option linter.unusedSimpArgs false

def RS.vers (R : RS) (k : ByteArray) : List ByteArray := ((aget R.c k).map (·.1)).getD []
def RS.is (R : RS) (k : ByteArray) : Bool := ((aget R.c k).map (·.2)).getD false
def RS.get (R : RS) (k : ByteArray) : ByteArray := if R.is k = true then (R.vers k).getD ((R.vers k).length - 1) ByteArray.empty else ByteArray.empty
def RS.getErr (R : RS) (k : ByteArray) : Int := if R.is k = true then 0 else 4
/-- each cell has a blob -/
def RS.fine (R : RS) : Prop := ∀ x ∈ R.c, x.2.1 ≠ [] ∧ x.1.size ≤ 200

theorem aget_place_none {rows : List RR} {k : ByteArray} (h : placeN rows k = none) : aget (rows.map RR.un) k = none := by
  unfold placeN at h
  rw [List.findIdx?_eq_none_iff] at h
  rw [aget_none]
  intro hm
  simp only [akeys, List.map_map, List.mem_map] at hm
  obtain ⟨r, hr, e⟩ := hm
  have := h r hr
  simp at this; exact this e
theorem aget_place {rows : List RR} {k : ByteArray} {i : Nat} {r : RR} (h : placeN rows k = some i) (hr : rows[i]? = some r) : aget (rows.map RR.un) k = some (r.l, r.is) := by
  unfold placeN at h
  induction rows generalizing i with
  | nil => simp at h
  | cons x rows ih =>
    rw [List.map_cons, aget_cons]
    rw [List.findIdx?_cons] at h
    by_cases e : x.key = k
    · simp [e] at h; subst h; simp at hr; subst hr; rw [if_pos (by simpa [RR.un] using e)]; rfl
    · simp [e] at h
      obtain ⟨j, hj, rfl⟩ := h
      rw [if_neg (by simpa [RR.un] using e)]
      exact ih hj (by simpa using hr)

theorem ref_cell {w : World} {Cv : Value} {rows : List RR} (h3 : w.ownsRow 0 89 3 Cv rows.length (flatR rows)) {i : Nat} {r : RR} (hr : rows[i]? = some r) :
    ∃ g c, Cv = .slice (some ⟨g, 0, none⟩) rows.length c ∧ rows.length ≤ c ∧ w.cell? ⟨g, i * 3, none⟩ = some (.string r.key) ∧ w.cell? ⟨g, i * 3 + 1, none⟩ = some r.v ∧ w.cell? ⟨g, i * 3 + 2, none⟩ = some (.bool r.is) := by
  have hlt := (List.getElem?_eq_some_iff.1 hr).1
  obtain ⟨g, cap, rfl, hcap, hcell⟩ := own_block h3 (by omega)
  obtain ⟨f0, f1, f2⟩ := flatR_get hr
  exact ⟨g, cap, rfl, hcap, (hcell _ _ f0).1, (hcell _ _ f1).1, (hcell _ _ f2).1⟩

set_option maxHeartbeats 800000 in
theorem ref_get {w : World} {v : Value} {R : RS} {G : Nat → Prop} (h : IsRef w v R G) (hf : R.fine) (key : ByteArray) :
    Calls Try.prog 48 #[v, .string key] w fun e w' => e = .returned (.tuple #[.string (R.get key), .int .i64 (R.getErr key)]) ∧ Drawn w w' := by
  obtain ⟨b, Cv, rows, rfl, h2, h3, h4, h5, h6, h7, h8, h9, g1, g2, g3, g4⟩ := h
  have HPL := Lib.hid (ref_place h2 h3 (Nat.le_trans h8 h7) key)
  have c0 := cell_of_row w b 0 _ _ _ h2
  simp at c0
  cases hp : placeN rows key with
  | none =>
    have ha := aget_place_none hp
    rw [← h6] at ha
    have e1 : R.get key = ⟨#[]⟩ := by simp [RS.get, RS.is, ha]; rfl
    have e2 : R.getErr key = 4 := by simp [RS.getErr, RS.is, ha]
    rw [e1, e2]
    rw [hp] at HPL
    clear h2 h3 h4 h5 h6 h7 h8 h9 g1 g2 g3 g4 ha e1 e2 hp hf
    go_enter Try.func48, Try.ntmps48
    go_wp2_with fail
    refine HPL.out.mono ?_
    rintro e w' ⟨rfl, rfl⟩
    rw [show placeZ none = -1 by rfl]
    go_wp2_with fail
    go_ret2
    exact ⟨rfl, Drawn.refl _⟩
  | some i =>
    obtain ⟨xv, xl, xis, hx⟩ := find_key hp
    have ha := aget_place hp hx
    rw [← h6] at ha
    dsimp only at ha
    obtain ⟨g, cap, rfl, hcap, d0, d1, d2⟩ := ref_cell h3 hx
    have hlt : i < rows.length := (List.getElem?_eq_some_iff.1 hx).1
    have hil : (i : Int) < rows.length := by omega
    have hrl : rows.length ≤ 2000 := Nat.le_trans h8 h7
    dsimp only at d0 d1 d2
    rw [hp] at HPL
    cases xis with
    | false =>
      have e1 : R.get key = ⟨#[]⟩ := by simp [RS.get, RS.is, ha]; rfl
      have e2 : R.getErr key = 4 := by simp [RS.getErr, RS.is, ha]
      rw [e1, e2]
      clear h2 h3 h4 h5 h6 h7 h8 h9 g1 g2 g3 g4 ha e1 e2 hp hf hx d0 d1
      go_enter Try.func48, Try.ntmps48
      go_wp2_with fail
      refine HPL.out.mono ?_
      rintro e w' ⟨rfl, rfl⟩
      rw [show placeZ (some i) = i by rfl]
      go_wp2_with fail
      go_ret2
      exact ⟨rfl, Drawn.refl _⟩
    | true =>
      have hne : xl ≠ [] := (hf (key, xl, true) (by rw [h6]; exact List.mem_map.2 ⟨_, List.mem_of_getElem? hx, rfl⟩)).1
      have hlen : 0 < xl.length := List.length_pos_iff.2 hne
      have hl2 : xl.length ≤ 2000 := Nat.le_trans (h9 i _ hx) h7
      have h4i := h4 i _ hx
      dsimp only at h4i
      obtain ⟨g', c', rfl, hc', hcell⟩ := own_block h4i hlen
      obtain ⟨s, hs⟩ : ∃ s, xl[xl.length - 1]? = some s := ⟨_, List.getElem?_eq_getElem (by omega)⟩
      have hcs := (hcell (xl.length - 1) (.string s) (by rw [strV_get, hs]; rfl)).1
      have e1 : R.get key = s := by simp [RS.get, RS.is, RS.vers, ha, List.getD_eq_getElem?_getD, hs]
      have e2 : R.getErr key = 0 := by simp [RS.getErr, RS.is, ha]
      rw [e1, e2]
      have t1 : (1 : Int) ≤ xl.length := by omega
      clear h2 h3 h4 h5 h6 h7 h8 h9 g1 g2 g3 g4 ha e1 e2 hp hf hx d0 hne hs hcell h4i
      go_enter Try.func48, Try.ntmps48
      go_wp2_with fail
      refine HPL.out.mono ?_
      rintro e w' ⟨rfl, rfl⟩
      rw [show placeZ (some i) = i by rfl]
      go_wp2_with fail
      go_quiet (fail)
      go_wp2_with fail
      go_ret2
      exact ⟨rfl, _, rfl⟩

set_option maxRecDepth 100000 in
set_option maxHeartbeats 800000 in
theorem ref_versions {w : World} {v : Value} {R : RS} {G : Nat → Prop} (h : IsRef w v R G) (hf : R.fine) (key : ByteArray) :
    Calls Try.prog 47 #[v, .string key] w fun e w' => ∃ v', e = .returned v' ∧ w'.ownsRow w.heap.size 9 1 v' (R.vers key).length (strV (R.vers key)) ∧ Below w.heap.size w w' := by
  obtain ⟨b, Cv, rows, rfl, h2, h3, h4, h5, h6, h7, h8, h9, g1, g2, g3, g4⟩ := h
  have HPL := Lib.hid (ref_place h2 h3 (Nat.le_trans h8 h7) key)
  have c0 := cell_of_row w b 0 _ _ _ h2
  simp at c0
  cases hp : placeN rows key with
  | none =>
    have ha := aget_place_none hp
    rw [← h6] at ha
    have e1 : R.vers key = [] := by simp [RS.vers, ha]
    rw [e1]
    rw [hp] at HPL
    clear h2 h3 h4 h5 h6 h7 h8 h9 g1 g2 g3 g4 ha e1 hp hf
    go_enter Try.func47, Try.ntmps47
    go_wp2_with fail
    refine HPL.out.mono ?_
    rintro e w' ⟨rfl, rfl⟩
    rw [show placeZ none = -1 by rfl]
    go_wp2_with fail
    go_ret
    exact ⟨_, rfl, own_nil _ _ _ _, Below.refl _ _⟩
  | some i =>
    obtain ⟨xv, xl, xis, hx⟩ := find_key hp
    have ha := aget_place hp hx
    rw [← h6] at ha
    dsimp only at ha
    obtain ⟨g, cap, rfl, hcap, d0, d1, d2⟩ := ref_cell h3 hx
    have hlt : i < rows.length := (List.getElem?_eq_some_iff.1 hx).1
    have hil : (i : Int) < rows.length := by omega
    have hrl : rows.length ≤ 2000 := Nat.le_trans h8 h7
    rw [hp] at HPL
    have hne : xl ≠ [] := (hf (key, xl, xis) (by rw [h6]; exact List.mem_map.2 ⟨_, List.mem_of_getElem? hx, rfl⟩)).1
    have hlen : 0 < xl.length := List.length_pos_iff.2 hne
    have hl2 : xl.length ≤ 2000 := Nat.le_trans (h9 i _ hx) h7
    have h4i := h4 i _ hx
    dsimp only at h4i
    obtain ⟨g', c', rfl, hc', hcell⟩ := own_block h4i hlen
    dsimp only at hc' hcell d1
    have e1 : R.vers key = xl := by simp [RS.vers, ha]
    rw [e1]
    obtain ⟨i0, hi, hz0, hz1, hz2⟩ := info_parts info9
    obtain ⟨v', w', hr, o1, o2, o3, o4⟩ := run_append_own_at (P := Try.prog) (w.alloc (.cells #[] 9)) w.heap.size 37 37 9 i0 (.string ⟨#[]⟩) 1 16 Try.underlying37 hi hz0 hz1 hz2 rfl (by decide)
      (.slice (some ⟨w.heap.size, 0, none⟩) 0 0) 0 [] (World.ownsRow_made w #[] 0 (Nat.le_refl _) (Nat.zero_le _) rfl) ⟨g', 0, none⟩ xl.length c' (strV xl) (by simp [strV]) (fun j u hj => by
        rw [add_at, Nat.zero_add]
        exact (Keep.alloc (fun _ => False) w _).cell (hcell j u hj).1 fun e => e) (strV_one xl) (by unfold maxLen; omega) (by omega) (by rw [size_alloc]; omega)
    have hbl : Below w.heap.size w w' := ((Below.refl _ w).alloc (Nat.le_refl _) _).grown o2 (by simp) (fun k hk => by simp [Value.ownBlock] at hk; omega)
    simp only [Nat.zero_add, List.nil_append] at o1
    have H1 := Lib.hid o1
    have H2 := Lib.hid hbl
    have c0' : (w.alloc (.cells #[] 9)).cell? ⟨b, 0, none⟩ = some (.slice (some ⟨g, 0, none⟩) rows.length cap) := (Keep.alloc (fun _ => False) w _).cell c0 fun e => e
    have d1' : (w.alloc (.cells #[] 9)).cell? ⟨g, i * 3 + 1, none⟩ = some (.slice (some ⟨g', 0, none⟩) xl.length c') := (Keep.alloc (fun _ => False) w _).cell d1 fun e => e
    clear o1 o2 o3 o4 hbl h2 h3 h4 h5 h6 h7 h8 h9 g1 g2 g3 g4 ha e1 hp hf hx hne hcell d0 d2 h4i
    go_enter Try.func47, Try.ntmps47
    go_wp2_with fail
    refine HPL.out.mono ?_
    rintro e w'' ⟨rfl, rfl⟩
    rw [show placeZ (some i) = i by rfl]
    go_wp2_with (at_builtin; refine wp_append_run rfl _ _ _ rfl rfl rfl hr ?_)
    go_ret
    exact ⟨_, rfl, H1.out, H2.out⟩
end Go.Proofs.Ytcalfjakgidhfaa
