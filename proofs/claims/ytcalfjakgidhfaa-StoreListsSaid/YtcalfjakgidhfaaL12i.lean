/- The law StoreLists: lists that were told. -/
import Derived.Test.YtcalfjakgidhfaaL12g
import Derived.Test.YtcalfjakgidhfaaEver
import Derived.Laws.AppendOwnNone
namespace Go.Proofs.Ytcalfjakgidhfaa
open Go.RowKit Go.Sort
set_option linter.unusedVariables false
set_option linter.unusedSimpArgs false

def St.pstep (S : St) (a : ActV) : St := S.put (keyOf a.k a.key) a.blob
def runP (l : List ActV) : St := l.foldl St.pstep St.new
theorem runP_succ {l : List ActV} {k : Nat} {a : ActV} (h : l[k]? = some a) : runP (l.take (k + 1)) = (runP (l.take k)).pstep a := by rw [take_succ_get h]; simp [runP]
/-- nothing was deleted, and keys are short -/
structure St.all (S : St) : Prop where
  keys : akeys S.there = akeys S.ever
  small : ∀ k ∈ akeys S.ever, k.size ≤ 200
theorem St.all.put {S : St} (h : S.all) (k v : ByteArray) : (S.put k v).all := by
  unfold St.put
  split
  · rename_i hz
    have hk : k.size ≤ 200 := by
      unfold St.putErr at hz
      split at hz
      · cases hz
      · omega
    refine ⟨?_, ?_⟩
    · rw [akeys_aput, akeys_aput, h.keys]
    · intro j hj
      simp only [akeys_aput] at hj
      split at hj
      · exact h.small j hj
      · rcases List.mem_append.1 hj with hj | hj
        · exact h.small j hj
        · simp at hj; subst hj; exact hk
  · exact h
theorem fold_all (l : List ActV) (S : St) (h : S.all) : (l.foldl St.pstep S).all := by
  induction l generalizing S with
  | nil => exact h
  | cons a l ih => exact ih _ (h.put _ _)
theorem runP_all (l : List ActV) : (runP l).all := fold_all l _ ⟨rfl, by simp [St.new, akeys]⟩
theorem all_list {S : St} (h : S.all) : S.list ⟨#[]⟩ = S.everK := by
  unfold St.everK St.list; rw [← h.keys]; congr 1; rw [List.filter_eq_self]; intro a _; exact hasPre_nil a

/-- 'append([]string{}, a...)' -/
theorem append_copy {w : World} {base : Nat} {v : Value} {l : List ByteArray} (h : w.ownsRow base 9 1 v l.length (strV l)) (hl : l.length ≤ 100000) :
    ∃ v' w', (Builtin.append_ #[37, 37] 37 #[.slice (some ⟨w.heap.size, 0, none⟩) 0 0, v]).run Try.prog (w.alloc (.cells #[] 9)) = .ok v' w' ∧ w'.ownsRow w.heap.size 9 1 v' l.length (strV l) ∧ Below w.heap.size w w' := by
  obtain ⟨i0, hi, hz0, hz1, hz2⟩ := info_parts info9
  have hm : (w.alloc (.cells #[] 9)).ownsRow w.heap.size 9 1 (.slice (some ⟨w.heap.size, 0, none⟩) 0 0) 0 [] := World.ownsRow_made w #[] 0 (Nat.le_refl _) (Nat.zero_le _) rfl
  have hb0 : Below w.heap.size w (w.alloc (.cells #[] 9)) := (Below.refl _ w).alloc (Nat.le_refl _) _
  rcases h.2 with ⟨rfl, h0⟩ | ⟨g, cap, cur, rfl, _, hg, h1, h2, h3, h4⟩
  · have hl0 : l = [] := List.eq_nil_of_length_eq_zero h0
    subst hl0
    exact ⟨_, _, run_append_owned_none (P := Try.prog) (w := w.alloc (.cells #[] 9)) w.heap.size 37 37 9 i0 1 Try.underlying37 hi _ 0 [] hm, hm, hb0⟩
  · obtain ⟨v', w', hr, o1, o2, o3, o4⟩ := run_append_own_at (P := Try.prog) (w.alloc (.cells #[] 9)) w.heap.size 37 37 9 i0 (.string ⟨#[]⟩) 1 16 Try.underlying37 hi hz0 hz1 hz2 rfl (by decide)
      (.slice (some ⟨w.heap.size, 0, none⟩) 0 0) 0 [] hm ⟨g, 0, none⟩ l.length cap (strV l) (by simp [strV]) (fun j u hj => by
        rw [add_at, Nat.zero_add]
        refine (Keep.alloc (fun _ => False) w _).cell ?_ fun e => e
        rw [cell_of_row w g _ _ _ _ hg, ← Array.getElem?_toList]
        rw [← h4, List.getElem?_take] at hj
        split at hj
        · exact hj
        · cases hj) (strV_one l) (by unfold maxLen; omega) (by omega) (by rw [size_alloc]; omega)
    refine ⟨v', w', hr, by simpa using o1, hb0.grown o2 (by simp) (fun k hk => by simp [Value.ownBlock] at hk; omega)⟩

theorem off_delete {w : World} {v : Value} {S : St} {B : Nat} {N : Nat → Prop} (h : Off w v S B N) (key : ByteArray) : Calls Try.prog 18 #[v, .string key] w fun e w' => e = .returned (.int .i64 (S.delErr key)) ∧ Off w' v (S.del key) B N ∧ Keep (fun k => B ≤ k ∧ ¬ N k) w w' := by
  obtain ⟨⟨F, h1, h2⟩, h3⟩ := h
  exact (store_delete h1 key).mono fun e w' ⟨e1, e2, e3⟩ => ⟨e1, ⟨⟨F, e2, h2⟩, fun k hk => Nat.lt_of_lt_of_le (h3 k hk) e3.size⟩, e3.mono fun k hk => h2 k hk⟩
theorem Off.wrote {w w' : World} {v : Value} {S : St} {B : Nat} {N : Nat → Prop} (h : Off w v S B N) (k : Keep N w w') : Off w' v S B N := by
  obtain ⟨⟨F, h1, h2⟩, h3⟩ := h
  exact ⟨⟨F, h1.keep k fun i hi => (h2 i hi).2, h2⟩, fun i hi => Nat.lt_of_lt_of_le (h3 i hi) k.size⟩

/-- a list, and its copy, in blocks of N -/
structure Two (w : World) (N : Nat → Prop) (v u : Value) (l : List ByteArray) : Prop where
  one : strs w v l
  two : strs w u l
  bone : ∀ k, v.ownBlock = some k → N k
  btwo : ∀ k, u.ownBlock = some k → N k
theorem Two.keep {w w' : World} {N G : Nat → Prop} {v u : Value} {l : List ByteArray} (h : Two w N v u l) (k : Keep G w w') (hG : ∀ i, N i → ¬ G i) : Two w' N v u l :=
  ⟨h.one.keep k fun b hb => hG b (h.bone b hb), h.two.keep k fun b hb => hG b (h.btwo b hb), h.bone, h.btwo⟩
theorem Two.below {w w' : World} {N : Nat → Prop} {v u : Value} {l : List ByteArray} (h : Two w N v u l) (k : Below w.heap.size w w') : Two w' N v u l := h.keep (G := fun _ => False) (Keep.of_below k) fun _ _ e => e

/-- the store, off the lists that were told, and these with their copies -/
def Told (w wr : World) (p : Value) (B : Nat) (N : Nat → Prop) (va vx vb vy vc vz : Value) (LA LC : List ByteArray) (S : St) : Prop :=
  Off wr p S B N ∧ Two wr N va vx LA ∧ Two wr N vb vy LA ∧ Two wr N vc vz LC ∧ Keep (fun k => B ≤ k) w wr
theorem Told.below {w wr w' : World} {p : Value} {B : Nat} {N : Nat → Prop} {va vx vb vy vc vz : Value} {LA LC : List ByteArray} {S : St} (h : Told w wr p B N va vx vb vy vc vz LA LC S) (k : Below wr.heap.size wr w') : Told w w' p B N va vx vb vy vc vz LA LC S :=
  ⟨h.1.below k, h.2.1.below k, h.2.2.1.below k, h.2.2.2.1.below k, h.2.2.2.2.same (Keep.of_below k)⟩
theorem told_put {w wr : World} {p : Value} {B : Nat} {N : Nat → Prop} {va vx vb vy vc vz : Value} {LA LC : List ByteArray} {S : St} (h : Told w wr p B N va vx vb vy vc vz LA LC S) (hB : B ≤ wr.heap.size) (key blob : ByteArray) :
    Calls Try.prog 19 #[p, .string key, .string blob] wr fun e w' => ∃ z, e = .returned (.int .i64 z) ∧ Told w w' p B N va vx vb vy vc vz LA LC (S.put key blob) :=
  (off_put h.1 hB key blob).mono fun e w' ⟨e1, e2, e3⟩ => ⟨_, e1, e2, h.2.1.keep e3 fun i hi e => e.2 hi, h.2.2.1.keep e3 fun i hi e => e.2 hi, h.2.2.2.1.keep e3 fun i hi e => e.2 hi, h.2.2.2.2.same (e3.mono fun k e => e.1)⟩
theorem told_delete {w wr : World} {p : Value} {B : Nat} {N : Nat → Prop} {va vx vb vy vc vz : Value} {LA LC : List ByteArray} {S : St} (h : Told w wr p B N va vx vb vy vc vz LA LC S) (key : ByteArray) :
    Calls Try.prog 18 #[p, .string key] wr fun e w' => ∃ z, e = .returned (.int .i64 z) ∧ Told w w' p B N va vx vb vy vc vz LA LC (S.del key) :=
  (off_delete h.1 key).mono fun e w' ⟨e1, e2, e3⟩ => ⟨_, e1, e2, h.2.1.keep e3 fun i hi e => e.2 hi, h.2.2.1.keep e3 fun i hi e => e.2 hi, h.2.2.2.1.keep e3 fun i hi e => e.2 hi, h.2.2.2.2.same (e3.mono fun k e => e.1)⟩
theorem St.ok.lists {S : St} (h : S.ok) : (S.list ⟨#[]⟩).length ≤ 2000 ∧ ∀ k, (S.versions k).length ≤ 2000 := by
  refine ⟨?_, fun k => ?_⟩
  · have h1 : (S.list ⟨#[]⟩).length ≤ (akeys S.there).length := by unfold St.list; rw [sortB_length]; exact List.length_filter_le _ _
    have h2 : (akeys S.there).length = S.there.length := by simp [akeys]
    have := h.tlen; have := h.puts; omega
  · unfold St.versions
    cases e : aget S.ever k with
    | none => simp
    | some y => have := h.len k y e; have := h.puts; simpa using (by omega : y.length ≤ 2000)
/-- a row written at one place -/
theorem row_written {w : World} {g c n : Nat} {l : List ByteArray} (h : w.ownsRow 0 9 1 (.slice (some ⟨g, 0, none⟩) n c) n (strV l)) (j : Nat) (s : ByteArray) :
    (w.setCell ⟨g, j, none⟩ (.string s)).ownsRow 0 9 1 (.slice (some ⟨g, 0, none⟩) n c) n (strV (l.set j s)) ∧ Keep (fun k => k = g) w (w.setCell ⟨g, j, none⟩ (.string s)) := by
  have h1 := (h.stored j (.string s)).1
  refine ⟨?_, Keep.setCell (fun k => k = g) w (p := ⟨g, j, none⟩) rfl _⟩
  have e : (strV l).set j (.string s) = strV (l.set j s) := by simp [strV, List.map_set]
  rw [e] at h1; exact h1

/-- the store, two lists of the caller's that may be written, and their copies -/
def Writ (w wr : World) (p : Value) (B : Nat) (N : Nat → Prop) (vu vv vp vq : Value) (LU LV : List ByteArray) (S : St) : Prop :=
  Off wr p S B N ∧ (∃ L, L.length = LU.length ∧ wr.ownsRow 0 9 1 vu LU.length (strV L)) ∧ (∃ L, L.length = LV.length ∧ wr.ownsRow 0 9 1 vv LV.length (strV L)) ∧ strs wr vp LU ∧ strs wr vq LV ∧ Keep (fun k => B ≤ k) w wr
def Seps (B : Nat) (N : Nat → Prop) (vu vv vp vq : Value) : Prop := ∀ k, vu.ownBlock = some k → N k ∧ B ≤ k ∧ vv.ownBlock ≠ some k ∧ vp.ownBlock ≠ some k ∧ vq.ownBlock ≠ some k
theorem writ_u {w wr : World} {p : Value} {B : Nat} {N : Nat → Prop} {vu vv vp vq : Value} {LU LV : List ByteArray} {S : St} (h : Writ w wr p B N vu vv vp vq LU LV S) (s : Seps B N vu vv vp vq) {g c : Nat} (e : vu = .slice (some ⟨g, 0, none⟩) LU.length c) (j : Nat) (x : ByteArray) :
    Writ w (wr.setCell ⟨g, j, none⟩ (.string x)) p B N vu vv vp vq LU LV S := by
  obtain ⟨h1, ⟨L, hl, h2⟩, ⟨M, hm, h3⟩, h4, h5, h6⟩ := h
  obtain ⟨n1, n2, n3, n4, n5⟩ := s g (by rw [e]; rfl)
  have h2' := h2
  rw [e] at h2'
  obtain ⟨r1, r2⟩ := row_written h2' j x
  rw [← e] at r1
  exact ⟨h1.wrote (r2.mono fun k e => by rw [e]; exact n1), ⟨_, by simpa using hl, r1⟩, ⟨M, hm, r2.own h3 fun k hk e => n3 (e ▸ hk)⟩, h4.keep r2 fun k hk e => n4 (e ▸ hk), h5.keep r2 fun k hk e => n5 (e ▸ hk), h6.same (r2.mono fun k e => by rw [e]; exact n2)⟩
theorem Writ.swap {w wr : World} {p : Value} {B : Nat} {N : Nat → Prop} {vu vv vp vq : Value} {LU LV : List ByteArray} {S : St} (h : Writ w wr p B N vu vv vp vq LU LV S) : Writ w wr p B N vv vu vq vp LV LU S := by
  obtain ⟨h1, h2, h3, h4, h5, h6⟩ := h; exact ⟨h1, h3, h2, h5, h4, h6⟩
theorem writ_cell {w wr : World} {p : Value} {B : Nat} {N : Nat → Prop} {vu vv vp vq : Value} {LU LV : List ByteArray} {S : St} (h : Writ w wr p B N vu vv vp vq LU LV S) {j : Nat} (hj : j < LU.length) :
    ∃ g c y, vu = .slice (some ⟨g, 0, none⟩) LU.length c ∧ LU.length ≤ c ∧ wr.cell? ⟨g, j, none⟩ = some (.string y) ∧ wr.frozen? ⟨g, j, none⟩ = false := by
  obtain ⟨h1, ⟨L, hl, h2⟩, h3⟩ := h
  obtain ⟨g, c, e, hc, hcell⟩ := own_block h2 (by omega)
  obtain ⟨y, hy⟩ : ∃ y, L[j]? = some y := ⟨_, List.getElem?_eq_getElem (by omega)⟩
  have := hcell j (.string y) (by rw [strV_get, hy]; rfl)
  exact ⟨g, c, y, e, hc, this.1, this.2⟩
theorem Writ.slice {w wr : World} {p : Value} {B : Nat} {N : Nat → Prop} {vu vv vp vq : Value} {LU LV : List ByteArray} {S : St} (h : Writ w wr p B N vu vv vp vq LU LV S) : ∃ A c, vu = .slice A LU.length c ∧ LU.length ≤ c ∧ c ≤ maxLen := by
  obtain ⟨h1, ⟨L, hl, h2⟩, h3⟩ := h
  exact own_slice h2
end Go.Proofs.Ytcalfjakgidhfaa
