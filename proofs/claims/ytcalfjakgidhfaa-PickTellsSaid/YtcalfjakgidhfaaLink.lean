/- Both stores say the same: the plain law. -/
import Derived.Test.YtcalfjakgidhfaaR7
import Derived.Test.YtcalfjakgidhfaaL13f
namespace Go.Proofs.Ytcalfjakgidhfaa
open Go.RowKit Go.Sort
set_option linter.unusedVariables false
set_option linter.unusedSimpArgs false

structure Link (S : St) (R : RS) : Prop where
  n : S.puts = R.n
  nodup : (akeys R.c).Nodup
  snodup : (akeys S.there).Nodup
  ever : ∀ k, aget S.ever k = (aget R.c k).map (·.1)
  there : ∀ k, aget S.there k = (aget R.c k).bind fun x => if x.2 = true then some x.1.length else none
  fine : R.fine

theorem find_none {R : RS} {k : ByteArray} (h : R.find k = none) : aget R.c k = none := by
  unfold RS.find at h
  rw [List.findIdx?_eq_none_iff] at h
  rw [aget_none]
  intro hm
  obtain ⟨x, hx, rfl⟩ := List.mem_map.1 hm
  have := h x hx
  simp at this
theorem find_some {R : RS} {k : ByteArray} {i : Nat} (h : R.find k = some i) : ∃ l is, R.c[i]? = some (k, l, is) := by
  unfold RS.find at h
  obtain ⟨hlt, hkey, _⟩ := List.findIdx?_eq_some_iff_getElem.1 h
  refine ⟨R.c[i].2.1, R.c[i].2.2, ?_⟩
  rw [List.getElem?_eq_getElem hlt]
  have : R.c[i].1 = k := by simpa using hkey
  rw [← this]
/-- a cell set where its key stands -/
theorem set_aput {α : Type} {c : List (ByteArray × α)} (hn : (akeys c).Nodup) {k : ByteArray} {i : Nat} {u v : α} (h : c[i]? = some (k, u)) : c.set i (k, v) = aput c k v := by
  have hg : aget c k = some u := aget_of_mem hn (List.mem_of_getElem? h)
  unfold aput
  rw [if_pos (by rw [hg]; rfl)]
  apply List.ext_getElem?
  intro j
  have hlt := (List.getElem?_eq_some_iff.1 h).1
  rw [List.getElem?_set, List.getElem?_map]
  by_cases e : i = j
  · subst e; rw [h]; simp [hlt]
  · rw [if_neg e]
    cases g : c[j]? with
    | none => rfl
    | some p =>
      have hne : p.1 ≠ k := fun e' => by
        have h1 : (akeys c)[j]? = some k := by simp [akeys, g, e']
        have h2 : (akeys c)[i]? = some k := by simp [akeys, h]
        have l1 := (List.getElem?_eq_some_iff.1 h1).1
        exact e ((List.getElem?_inj l1 hn).1 (h1.trans h2.symm)).symm
      simp [hne]
theorem RS.put_eq {R : RS} (hn : (akeys R.c).Nodup) (k v : ByteArray) (hz : R.putErr k v = 0) : R.put k v = ⟨aput R.c k (R.vers k ++ [v], true), R.n + 1⟩ := by
  unfold RS.put
  rw [if_pos hz]
  cases hf : R.find k with
  | none =>
    have hg := find_none hf
    simp only
    congr 1
    unfold aput RS.vers
    simp [hg]
  | some i =>
    obtain ⟨l, is, hi⟩ := find_some hf
    have hg : aget R.c k = some (l, is) := aget_of_mem hn (List.mem_of_getElem? hi)
    simp only
    congr 1
    rw [← set_aput hn hi]
    simp [RS.vers, hg, hi]
theorem RS.del_eq {R : RS} (hn : (akeys R.c).Nodup) (k : ByteArray) : R.del k = if R.is k = true then ⟨aput R.c k (R.vers k, false), R.n⟩ else R := by
  unfold RS.del
  cases hf : R.find k with
  | none =>
    have hg := find_none hf
    simp [RS.is, hg]
  | some i =>
    obtain ⟨l, is, hi⟩ := find_some hf
    have hg : aget R.c k = some (l, is) := aget_of_mem hn (List.mem_of_getElem? hi)
    simp only [RS.isAt, RS.is, RS.vers, hg, hi, Option.map_some, Option.getD_some]
    rw [set_aput hn hi]

theorem Link.vers {S : St} {R : RS} (h : Link S R) (k : ByteArray) : S.versions k = R.vers k := by
  unfold St.versions RS.vers; rw [h.ever]
theorem Link.putErr {S : St} {R : RS} (h : Link S R) (k v : ByteArray) : S.putErr k v = R.putErr k v := by
  unfold St.putErr RS.putErr; rw [h.n]
theorem mem_aput {α : Type} {c : List (ByteArray × α)} {k : ByteArray} {v : α} {x : ByteArray × α} (h : x ∈ aput c k v) : x = (k, v) ∨ x ∈ c := by
  unfold aput at h
  split at h
  · obtain ⟨p, hp, rfl⟩ := List.mem_map.1 h
    split
    · exact Or.inl rfl
    · exact Or.inr hp
  · rcases List.mem_append.1 h with h | h
    · exact Or.inr h
    · simp at h; exact Or.inl h
theorem Link.new : Link St.new RS.new := ⟨rfl, by simp [RS.new, akeys], by simp [St.new, akeys], fun k => rfl, fun k => rfl, fun x hx => by simp [RS.new] at hx⟩
theorem Link.put {S : St} {R : RS} (h : Link S R) (k v : ByteArray) : Link (S.put k v) (R.put k v) := by
  by_cases hz : S.putErr k v = 0
  · have hz' : R.putErr k v = 0 := by rw [← h.putErr]; exact hz
    have hk : k.size ≤ 200 := by
      unfold RS.putErr at hz'
      split at hz'
      · cases hz'
      · omega
    rw [RS.put_eq h.nodup k v hz', St.put, if_pos hz]
    refine ⟨by simp [h.n], nodup_aput h.nodup _ _, nodup_aput h.snodup _ _, fun j => ?_, fun j => ?_, fun x hx => ?_⟩
    · simp only; rw [aget_aput, aget_aput]; split
      · rw [h.vers]; rfl
      · exact h.ever j
    · simp only; rw [aget_aput, aget_aput]; split
      · rw [h.vers]; simp
      · exact h.there j
    · rcases mem_aput hx with rfl | hx
      · exact ⟨by simp, hk⟩
      · exact h.fine x hx
  · have hz' : ¬ R.putErr k v = 0 := by rw [← h.putErr]; exact hz
    rw [St.put, if_neg hz, RS.put, if_neg hz']; exact h
theorem Link.del {S : St} {R : RS} (h : Link S R) (k : ByteArray) : Link (S.del k) (R.del k) := by
  rw [RS.del_eq h.nodup]
  cases hg : aget R.c k with
  | none =>
    have h1 : aget S.there k = none := by rw [h.there, hg]; rfl
    have h2 : S.del k = S := by unfold St.del; rw [adel_of_none h1]
    rw [h2]; simp [RS.is, hg]; exact h
  | some x =>
    obtain ⟨l, is⟩ := x
    cases is with
    | false =>
      have h1 : aget S.there k = none := by rw [h.there, hg]; simp
      have h2 : S.del k = S := by unfold St.del; rw [adel_of_none h1]
      rw [h2]; simp [RS.is, hg]; exact h
    | true =>
      have hv : R.vers k = l := by simp [RS.vers, hg]
      have hi : R.is k = true := by simp [RS.is, hg]
      rw [if_pos hi, hv]
      have hf := h.fine _ (aget_mem hg)
      refine ⟨h.n, nodup_aput h.nodup _ _, nodup_adel h.snodup _, fun j => ?_, fun j => ?_, fun x hx => ?_⟩
      · simp only [St.del]; rw [aget_aput]; split
        · rename_i e; rw [e, h.ever, hg]; rfl
        · exact h.ever j
      · simp only [St.del]; rw [aget_adel, aget_aput]; split
        · simp
        · exact h.there j
      · rcases mem_aput hx with rfl | hx
        · exact hf
        · exact h.fine x hx
theorem link_fill (l : List PutV) : Link (fillS l) (fillR l) := by
  have : ∀ (l : List PutV) (S : St) (R : RS), Link S R → Link (l.foldl St.step S) (l.foldl RS.step R) := by
    intro l
    induction l with
    | nil => intro S R h; exact h
    | cons a l ih =>
      intro S R h
      refine ih _ _ ?_
      unfold St.step RS.step
      split
      · exact h.del _
      · exact h.put _ _
  exact this l _ _ Link.new

theorem Link.is {S : St} {R : RS} (h : Link S R) (k : ByteArray) : (aget S.there k).isSome = R.is k := by
  rw [h.there]; unfold RS.is
  cases hg : aget R.c k with
  | none => rfl
  | some x => obtain ⟨l, is⟩ := x; cases is <;> rfl
theorem Link.get {S : St} {R : RS} (h : Link S R) (k : ByteArray) : S.get k = R.get k ∧ S.getErr k = R.getErr k := by
  have hi := h.is k
  refine ⟨?_, by unfold St.getErr RS.getErr; rw [hi]⟩
  unfold St.get RS.get
  rw [← hi, h.vers]
  cases ht : aget S.there k with
  | none => rfl
  | some n =>
    have h1 := h.there k
    rw [ht] at h1
    cases hg : aget R.c k with
    | none => rw [hg] at h1; cases h1
    | some x =>
      obtain ⟨l, is⟩ := x
      rw [hg] at h1
      cases is with
      | false => simp at h1
      | true => simp at h1; subst h1; simp [RS.vers, hg]
theorem hasPre_preB (p s : ByteArray) : hasPre p s = preB p s := by
  unfold hasPre preB Lib.hasPrefix
  have he : (s.extract 0 p.size).data.toList = s.data.toList.take p.size := by
    rw [ByteArray.data_extract, Array.toList_extract, List.extract_eq_take_drop]; simp
  rw [Bool.eq_iff_iff]
  simp only [Bool.and_eq_true, decide_eq_true_eq, List.isPrefixOf_iff_prefix]
  have hp : p.data.toList.length = p.size := by simp
  constructor
  · intro h
    refine ⟨by have := h.length_le; simpa using this, ?_⟩
    have h2 := List.prefix_iff_eq_take.1 h
    apply list_inj
    rw [ByteArray.toList_eq, ByteArray.toList_eq, he, ← hp, ← h2]
  · rintro ⟨h1, h2⟩
    rw [List.prefix_iff_eq_take, hp, ← he, h2]
theorem Link.list {S : St} {R : RS} (h : Link S R) (p : ByteArray) : S.list p = R.list p := by
  unfold St.list RS.list
  apply sortB_congr
  have hn : ((R.c.filter (rsel p)).map (·.1)).Nodup := (List.filter_sublist.map _).nodup h.nodup
  refine (List.perm_ext_iff_of_nodup (h.snodup.filter _) hn).2 fun x => ?_
  rw [List.mem_filter, hasPre_preB, ← aget_isSome, h.is]
  constructor
  · rintro ⟨h1, h2⟩
    cases hg : aget R.c x with
    | none => simp [RS.is, hg] at h1
    | some y =>
      obtain ⟨l, is⟩ := y
      have : is = true := by simpa [RS.is, hg] using h1
      subst this
      exact List.mem_map.2 ⟨(x, l, true), List.mem_filter.2 ⟨aget_mem hg, by simp [rsel, h2]⟩, rfl⟩
  · intro hm
    obtain ⟨y, hy, rfl⟩ := List.mem_map.1 hm
    obtain ⟨h1, h2⟩ := List.mem_filter.1 hy
    obtain ⟨k, l, is⟩ := y
    simp only [rsel, Bool.and_eq_true] at h2
    obtain ⟨rfl, h3⟩ := h2
    exact ⟨by simp [RS.is, aget_of_mem h.nodup h1], h3⟩
end Go.Proofs.Ytcalfjakgidhfaa
