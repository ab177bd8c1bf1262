/- A list of strings, copied. -/
import Derived.Test.YtcalfjakgidhfaaStC
import Derived.WalkSpells
namespace Go.Proofs.Ytcalfjakgidhfaa
open Go.RowKit
set_option linter.unusedVariables false
set_option linter.unusedSimpArgs false

/-- one string more behind a row of the call's own -/
theorem append_str {w : World} {base : Nat} {v : Value} {l : List ByteArray} (ho : w.ownsRow base 9 1 v l.length (strV l)) (k : ByteArray) (hl : l.length ≤ 1000000000) (hb : base ≤ w.heap.size) :
    ∃ v' w', (Builtin.append_ #[37, 37] 37 #[v, .slice (some ⟨w.heap.size, 0, none⟩) 1 1]).run Try.prog (w.alloc (.cells #[.string k] 9)) = .ok v' w' ∧
      w'.ownsRow base 9 1 v' (l ++ [k]).length (strV (l ++ [k])) ∧ Keep (fun i => v.ownBlock = some i) w w' := by
  obtain ⟨i0, hi, hz0, hz1, hz2⟩ := info_parts info9
  obtain ⟨v', w', hr, h2, h3, h4, h5⟩ := run_append_own_at (P := Try.prog) (w.alloc (.cells #[.string k] 9)) base 37 37 9 i0 (.string ⟨#[]⟩) 1 16 Try.underlying37 hi hz0 hz1 hz2 rfl (by decide) v l.length (strV l) (ho.alloc _)
    ⟨w.heap.size, 0, none⟩ 1 1 [.string k] rfl (cell_one_new w _ _) (by simp [Value.oneCell']) (by unfold maxLen; omega) (by omega) (by rw [size_alloc]; omega)
  exact ⟨v', w', hr, by simpa [strV] using h2, (Keep.alloc _ w _).same (Keep.of_grown h3 fun i e => e)⟩

set_option maxHeartbeats 800000 in
theorem clone_strs {w : World} {v : Value} {l : List ByteArray} (h : strs w v l) (hb : l.length * 16 ≤ 140737488355328) : Calls Try.prog 38 #[v] w fun e w' => ∃ v', e = .returned v' ∧ w'.ownsRow w.heap.size 9 1 v' l.length (strV l) ∧ Below w.heap.size w w' := by
  obtain ⟨A, c, rfl, h1, h2, h3⟩ := h
  have hnil := Lib.run_eql_slice_nil (P := Try.prog)
  cases A with
  | none =>
    have hl : l = [] := by
      cases l with
      | nil => rfl
      | cons x l => obtain ⟨b, off, e, _⟩ := h3 (by simp); cases e
    subst hl
    go_enter Try.func38, Try.ntmps38
    go_wp2
    go_ret
    exact ⟨_, rfl, own_nil _ _ _ _, Below.refl _ _⟩
  | some ad =>
    obtain ⟨i0, hi, hz0, hz1, hz2⟩ := info_parts info9
    obtain ⟨v', w', hr, o1, o2, o3, o4⟩ := run_append_own_at (P := Try.prog) (w.alloc (.cells #[] 9)) w.heap.size 37 37 9 i0 (.string ⟨#[]⟩) 1 16 Try.underlying37 hi hz0 hz1 hz2 rfl (by decide)
      (.slice (some ⟨w.heap.size, 0, none⟩) 0 0) 0 [] (World.ownsRow_made w #[] 0 (Nat.le_refl _) (Nat.zero_le _) rfl) ad l.length c (strV l) (by simp [strV]) (fun j u hj => by
        rw [strV_get] at hj
        cases e : l[j]? with
        | none => rw [e] at hj; cases hj
        | some s =>
          rw [e] at hj; cases hj
          have hlt := (List.getElem?_eq_some_iff.1 e).1
          obtain ⟨b, off, e', hc⟩ := h3 (by omega)
          cases e'
          rw [add_at]
          exact (Keep.alloc (fun _ => False) w _).cell (hc j s e) fun e => e) (strV_one l) (by unfold maxLen; omega) (by omega) (by rw [size_alloc]; omega)
    have hbl : Below w.heap.size w w' := ((Below.refl _ w).alloc (Nat.le_refl _) _).grown o2 (by simp) (fun k hk => by simp [Value.ownBlock] at hk; omega)
    simp only [Nat.zero_add, List.nil_append] at o1
    have H1 := Lib.hid o1
    have H2 := Lib.hid hbl
    clear o1 o2 o3 o4 hbl h3
    go_enter Try.func38, Try.ntmps38
    go_wp2_with (at_builtin; refine wp_append_run rfl _ _ _ rfl rfl rfl hr ?_)
    go_ret
    exact ⟨_, rfl, H1.out, H2.out⟩

/-- what a call hands back is its own -/
theorem own_new {w : World} {base : Nat} {e : TypeId} {size n : Nat} {v : Value} {xs : List Value} (h : w.ownsRow base e size v n xs) : ∀ k, v.ownBlock = some k → base ≤ k := fun k hk => (World.ownsRow.lt h k hk).1

set_option maxHeartbeats 800000 in
theorem store_versions {w : World} {v : Value} {S : St} {F : Nat → Prop} (h : IsStore w v S F) (key : ByteArray) : Calls Try.prog 22 #[v, .string key] w fun e w' => ∃ v', e = .returned v' ∧ w'.ownsRow w.heap.size 9 1 v' (S.versions key).length (strV (S.versions key)) ∧ Below w.heap.size w w' := by
  obtain ⟨b, be, bt, rows, rfl, h2, h3, h4, h5, h6, h7, hne, h8, h9, h10, h11, h12, h13⟩ := h
  have c0 := cell_of_row w b 0 _ _ _ h2
  simp at c0
  have hrow := rowAt_own h6 key
  have hlen : (S.versions key).length ≤ 2000 := by
    unfold St.versions
    cases e : aget S.ever key with
    | none => simp
    | some l => have := h13.len key l e; have := h13.puts; simp; omega
  have l0 : (Instr.lookup 66 (.map (some be)) (.string key) false).run Try.prog w = .ok (rowAt rows key).1 w := by
    have := h3.look law66 Try.underlying66 (zero_strs _) key false
    rw [aget_amap] at this; rw [this]; unfold rowAt; cases aget rows key <;> rfl
  have hs : strs w (rowAt rows key).1 (S.versions key) := by rw [← rowAt_ever h4]; exact strs_own hrow
  clear h2 h3 h4 h5 h6 h7 hne h8 h9 h10 h11 h12 h13 hrow
  go_enter Try.func22, Try.ntmps22
  go_wp2_with (go_at_call 38; refine (clone_strs hs (by omega)).mono ?_; rintro e w' ⟨v', rfl, H1, H2⟩; have H1' := Lib.hid H1; have H2' := Lib.hid H2; clear H1 H2)
  go_ret
  exact ⟨_, rfl, H1'.out, H2'.out⟩
end Go.Proofs.Ytcalfjakgidhfaa
