/- The document's store: New, place. -/
import Derived.Test.YtcalfjakgidhfaaR1
namespace Go.Proofs.Ytcalfjakgidhfaa
open Go.RowKit
set_option linter.unusedVariables false
set_option linter.unusedSimpArgs false

theorem ref_new (w : World) : Calls Try.prog 39 #[] w fun e w' => ∃ v, e = .returned v ∧ IsRef w' v RS.new (fun k => w.heap.size ≤ k ∧ k < w'.heap.size) ∧ Below w.heap.size w w' := by
  go_enter Try.func39, Try.ntmps39
  go_wp2
  go_ret
  refine ⟨_, rfl, ⟨w.heap.size, .slice none 0 0, [], rfl, (MapKept.heap_alloc w _).1, own_nil _ _ _ _, ?_, ?_, rfl, by decide, Nat.zero_le _, ?_, ⟨Nat.le_refl _, by simp⟩, ?_, ?_, fun k hk => hk.2⟩, (Below.refl _ _).alloc (Nat.le_refl _) _⟩
  · intro i r h; simp at h
  · intro i j r r' h; simp at h
  · intro i r h; simp at h
  · intro g h; simp [Value.ownBlock] at h
  · intro i r g h; simp at h

def placeZ (o : Option Nat) : Int := match o with | some i => i | none => -1
def placeN (rows : List RR) (k : ByteArray) : Option Nat := rows.findIdx? fun r => decide (r.key = k)
theorem RS.find_rows {R : RS} {rows : List RR} (h : R.c = rows.map RR.un) (k : ByteArray) : R.find k = placeN rows k := by
  unfold RS.find placeN; rw [h, List.findIdx?_map]; rfl

set_option maxHeartbeats 800000 in
theorem ref_place {w : World} {b : Nat} {Cv : Value} {rows : List RR} {n : Int} (hb : w.heap[b]? = some (.cells #[Cv, .int .i64 n] 86 (0, 0))) (hc : w.ownsRow 0 89 3 Cv rows.length (flatR rows)) (hl : rows.length ≤ 2000) (key : ByteArray) :
    Calls Try.prog 50 #[.pointer (some ⟨b, 0, none⟩), .string key] w fun e w' => e = .returned (.int .i64 (placeZ (placeN rows key))) ∧ w = w' := by
  have c0 := cell_of_row w b 0 _ _ _ hb
  have c1 := cell_of_row w b 1 _ _ _ hb
  simp at c0 c1
  have hsh : ∃ A c, Cv = .slice A rows.length c ∧ (0 < rows.length → ∃ g, A = some ⟨g, 0, none⟩ ∧ ∀ i r, rows[i]? = some r → w.cell? ⟨g, i * 3, none⟩ = some (.string r.key)) ∧ rows.length ≤ c := by
    rcases hc.2 with ⟨rfl, h0⟩ | ⟨g, cap, cur, rfl, h1, h2, h3, h4, h5, h6⟩
    · exact ⟨none, 0, by rw [h0], fun h => absurd h (by omega), by omega⟩
    · refine ⟨_, cap, rfl, fun h => ⟨g, rfl, fun i r hr => ?_⟩, h3⟩
      rw [cell_of_row w g _ _ _ _ h2, ← Array.getElem?_toList]
      have := (flatR_get hr).1
      rw [← h6, List.getElem?_take] at this
      split at this
      · exact this
      · cases this
  obtain ⟨A, c, rfl, hcell, hcap⟩ := hsh
  obtain ⟨z, hz⟩ : ∃ z, placeZ (placeN rows key) = z := ⟨_, rfl⟩
  rw [hz]
  have HZ := Lib.hid hz
  clear hz
  have HC := Lib.hid hcell
  clear hc hb hcell
  go_enter Try.func50, Try.ntmps50
  go_wp2
  go_loopw [5] (fun i wr => ∃ k : Nat, k ≤ rows.length ∧ i = .int .i64 k ∧ Hid (∀ j r, j < k → rows[j]? = some r → r.key ≠ key) ∧ w = wr) (fun i _ => rows.length - (intOf i).toNat)
  case atStart => exact ⟨0, Nat.zero_le _, rfl, fun j r h => absurd h (Nat.not_lt_zero _), rfl⟩
  case round =>
    obtain ⟨k, hk, rfl, HN, rfl⟩ := hrel
    by_cases hlt : k < rows.length
    · obtain ⟨x, hx⟩ : ∃ x, rows[k]? = some x := ⟨_, List.getElem?_eq_getElem hlt⟩
      obtain ⟨g, rfl, hcl⟩ := HC.out (by omega)
      have hcx := hcl k x hx
      have HX := Lib.hid hx
      clear hcl hx
      by_cases hkey : x.key = key
      · have hf : placeN rows key = some k := by
          unfold placeN
          rw [List.findIdx?_eq_some_iff_getElem]
          refine ⟨hlt, ?_, fun j hj => ?_⟩
          · have := HX.out; rw [List.getElem?_eq_getElem hlt] at this; cases this; simp [hkey]
          · have := HN.out j _ hj (List.getElem?_eq_getElem (by omega)); simp [this]
        obtain rfl : (k : Int) = z := by rw [← HZ.out, hf]; rfl
        have e1 : (x.key.toList == key.toList) = true := by simp [hkey]
        clear hf hkey
        go_wp2
        go_ret
        exact ⟨rfl, rfl⟩
      · have e1 : (x.key.toList == key.toList) = false := by rw [beq_eq_false_iff_ne]; exact fun e => hkey (list_inj e)
        have HK := Lib.hid hkey
        clear hkey
        go_wp2
        go_roundw
        case rel =>
          refine ⟨k + 1, by omega, by go_num, fun j r hj hr => ?_, trivial⟩
          by_cases hjk : j < k
          · exact HN.out j r hjk hr
          · obtain rfl : j = k := by omega
            have := HX.out; rw [hr] at this; cases this; exact HK.out
        case measure => simp [intOf]; omega
    · have hf : placeN rows key = none := by
        unfold placeN
        rw [List.findIdx?_eq_none_iff]
        intro r hr
        obtain ⟨j, hj, rfl⟩ := List.mem_iff_getElem.1 hr
        have := HN.out j _ (by omega) (List.getElem?_eq_getElem hj); simp [this]
      obtain rfl : (-1 : Int) = z := by rw [← HZ.out, hf]; rfl
      clear hf
      go_wp2
      go_ret
      exact ⟨rfl, rfl⟩
end Go.Proofs.Ytcalfjakgidhfaa
