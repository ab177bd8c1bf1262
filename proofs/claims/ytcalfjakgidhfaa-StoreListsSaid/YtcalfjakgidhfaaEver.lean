/- The store's Ever: the keys of all that ever was put, rising. -/
import Derived.Test.YtcalfjakgidhfaaList
import Derived.Test.YtcalfjakgidhfaaIter
import Derived.Sort.KeysCollected
namespace Go.Proofs.Ytcalfjakgidhfaa
open Go.RowKit Go.Sort
set_option linter.unusedVariables false
set_option linter.unusedSimpArgs false

def anyR : Value → Option (DataW Unit × List MemPlace) := fun _ => some (.nil, [])
def unL (x : List UInt8) : ByteArray := ⟨x.toArray⟩
theorem unL_data (s : ByteArray) : unL s.data.toList = s := by cases s; simp [unL]
theorem encStr_un (x : List UInt8) : encStr x = Value.string (unL x) := by simp [encStr, unL]

/-- a map of string keys, for the shelf -/
theorem smap.owns {w : World} {b : Nat} {l : List (ByteArray × Value)} (h : smap w Value.string b l) (hl : l.length ≤ 100000) (hk : ∀ k ∈ akeys l, k.size ≤ 200) :
    ∃ D : DataW Unit, w.ownsMap Try.prog 9 anyR b l.length D ∧ Maps.size D = l.length ∧ ∀ ss : List (List UInt8), ss.Perm (strKeys D) → (ss.map unL).Perm (akeys l) := by
  obtain ⟨es, clock, hb, hs, he, hn⟩ := h
  have hlen : es.toList.length = l.length := by have := congrArg List.length he; simpa using this
  have hkey : ∀ x ∈ es.toList, ∃ k ∈ akeys l, x.key = .string k := fun x hx => by
    have h1 : (x.key, x.val) ∈ es.toList.map (fun e => (e.key, e.val)) := List.mem_map.2 ⟨x, hx, rfl⟩
    rw [he] at h1
    obtain ⟨p, hp, e⟩ := List.mem_map.1 h1
    simp only [Prod.mk.injEq] at e
    exact ⟨p.1, List.mem_map.2 ⟨p, hp, rfl⟩, e.1.symm⟩
  have hrd : ∀ x ∈ es.toList, ∀ k, x.key = .string k → k ∈ akeys l → Go.WideElems.rd Try.prog 9 anyR x = some (.string k.data.toList, .nil) := fun x hx k e hm => by
    have := Go.WideMaps.keyOf_string_mk Try.underlying9 (s := k) (by have := hk k hm; unfold maxLen; omega)
    simp [Go.WideElems.rd, e, this, anyR]
  refine ⟨_, ⟨es, clock, hb, ⟨?_, hs, fun x hx => ?_⟩, ?_, rfl⟩, ?_, fun ss hss => ?_⟩
  · rw [← Array.length_toList, hlen]; unfold maxLen; omega
  · obtain ⟨k, hm, e⟩ := hkey x hx; exact ⟨_, hrd x hx k e hm⟩
  · rw [← Array.length_toList, hlen]; exact Nat.le_refl _
  · rw [Maps.size_eq, (Go.WideShapes.sorted_perm _).length_eq, List.length_map, hlen]
  · have hp : (strKeys (.map ((es.toList.map (Go.WideElems.rg Try.prog 9 anyR)).foldr DataW.insert []))).Perm ((es.toList.map (Go.WideElems.rg Try.prog 9 anyR)).map fun p => strOf p.1) := (Go.WideShapes.sorted_perm _).map _
    have h2 := (hss.trans hp).map unL
    refine h2.trans (List.Perm.of_eq ?_)
    have h3 : es.toList.map (fun x => x.key) = (akeys l).map Value.string := by
      have := congrArg (List.map Prod.fst) he
      simpa [akeys, Function.comp_def] using this
    rw [List.map_map, List.map_map]
    have h4 : es.toList.map ((unL ∘ fun p => strOf p.1) ∘ Go.WideElems.rg Try.prog 9 anyR) = es.toList.map (fun x => match x.key with | .string k => k | _ => ByteArray.empty) := by
      apply List.map_congr_left
      intro x hx
      obtain ⟨k, hm, e⟩ := hkey x hx
      simp [Go.WideElems.rg, hrd x hx k e hm, strOf, e, unL_data]
    rw [h4]
    have h5 := congrArg (List.map (fun v : Value => match v with | .string k => k | _ => ByteArray.empty)) h3
    simpa [Function.comp_def] using h5

def St.everK (S : St) : List ByteArray := sortB (akeys S.ever)

set_option maxHeartbeats 1000000 in
theorem collect_keys {w : World} {b : Nat} {l : List (ByteArray × Value)} (h : smap w Value.string b l) (hl : l.length ≤ 100000) (hk : ∀ k ∈ akeys l, k.size ≤ 200) :
    (∀ W, Calls Try.prog 46 #[.map (some b)] W fun e w' => e = .returned (.func (.func 61) #[] #[.pointer (some ⟨W.heap.size, 0, none⟩)]) ∧ w' = W.alloc (.cells #[.map (some b)] 66)) ∧
    Calls Try.prog 45 #[.func (.func 61) #[] #[.pointer (some ⟨w.heap.size, 0, none⟩)]] (w.alloc (.cells #[.map (some b)] 66)) fun e w' => ∃ (v : Value) (m : List ByteArray), e = .returned v ∧ m.Perm (akeys l) ∧ w'.ownsRow w.heap.size 9 1 v m.length (strV m) ∧ Below w.heap.size w w' := by
  refine ⟨fun W => (callsIn_wide (n := 5)).1 (AnyZ.keys_in Try.keysA Fence.wide 5 trivial rfl (some b) W), ?_⟩
  obtain ⟨D, hown, hsz, hperm⟩ := h.owns hl hk
  have hbl := hown.lt
  have hseq : SeqGives Fence.wide 3 Try.prog 61 #[.pointer (some ⟨w.heap.size, 0, none⟩)] encStr (fun ss => ss.Perm (strKeys D)) (Maps.size D) (w.alloc (.cells #[.map (some b)] 66)) :=
    AnyZ.keys_gives (ρ := Try.keysA_ren) { Try.keysA with } Fence.wide _ trivial rfl (by omega) w.heap.size b l.length D _ (by simp) (by simp) (by
      obtain ⟨es, clock, hb, Ft, hs, hD⟩ := hown
      exact ⟨es, clock, (Below.heap_alloc _ _ b hbl).trans hb, Ft, hs, hD⟩)
  have cS := AnyZ.collect_in Try.collA Fence.wide 5 trivial trivial rfl (by omega) 61 #[.pointer (some ⟨w.heap.size, 0, none⟩)] trivial (enters_of Try.func61 (by kernel_rfl) rfl) _ _ (by rw [hsz]; unfold maxLen; omega) (by rw [hsz]; omega) _ hseq
  change CallsIn _ _ Try.prog 45 _ _ _ at cS
  refine ((callsIn_wide (n := 5)).1 cS).mono ?_
  rintro e w' ⟨v, ss, rfl, hS, hrow, _, hb⟩
  refine ⟨v, ss.map unL, rfl, hperm ss hS, ?_, ((Below.refl _ w).alloc (Nat.le_refl _) _).trans (hb.mono (by simp))⟩
  have h1 : w'.ownsRow w.heap.size 9 1 v ss.length (ss.map encStr) := ownsRow_base_a hrow (by simp)
  have h2 : ss.map encStr = strV (ss.map unL) := by
    unfold strV; rw [List.map_map]; apply List.map_congr_left; intro x _; exact encStr_un x
  rw [h2] at h1
  simpa using h1

set_option maxHeartbeats 800000 in
theorem store_ever {w : World} {v : Value} {S : St} {F : Nat → Prop} (h : IsStore w v S F) (hl : S.ever.length ≤ 100000) (hk : ∀ k ∈ akeys S.ever, k.size ≤ 200) : Calls Try.prog 33 #[v] w fun e w' => ∃ v', e = .returned v' ∧ w'.ownsRow w.heap.size 9 1 v' S.everK.length (strV S.everK) ∧ Below w.heap.size w w' := by
  obtain ⟨b, be, bt, rows, rfl, h2, h3, h4, h5, h6, h7, hne, h8, h9, h10, h11, h12, h13⟩ := h
  have c0 := cell_of_row w b 0 _ _ _ h2
  simp at c0
  have hak : akeys (amap (·.1) rows) = akeys S.ever := by rw [h4, akeys_amap, akeys_amap]
  have hlen : (amap (·.1) rows).length = S.ever.length := by rw [h4]; simp [amap]
  obtain ⟨hK, hC⟩ := collect_keys h3 (by rw [hlen]; exact hl) (by rw [hak]; exact hk)
  rw [hak] at hC
  have hkl : (akeys S.ever).length ≤ 100000 := by simpa [akeys] using hl
  have HE : Hid (∀ m : List ByteArray, m.Perm (akeys S.ever) → sortB m = S.everK) := Lib.hid fun m hm => sortB_congr hm
  have HL : Hid (∀ m : List ByteArray, m.Perm (akeys S.ever) → m.length = S.everK.length ∧ m.length ≤ 100000) := Lib.hid fun m hm => ⟨by unfold St.everK; rw [sortB_length]; exact hm.length_eq, by rw [hm.length_eq]; exact hkl⟩
  clear h2 h3 h4 h5 h6 h7 hne h8 h9 h10 h11 h12 h13 hak hlen hkl hl hk
  go_enter Try.func33, Try.ntmps33
  go_wp2_with fail
  refine (hK w).mono ?_
  rintro e w1 ⟨rfl, rfl⟩
  go_wp2_with fail
  refine hC.mono ?_
  rintro e w2 ⟨v2, m, rfl, hm, ho, hb⟩
  have HM := Lib.hid hm
  have HB := Lib.hid hb
  clear hm hb
  go_wp2_with fail
  refine (rising_calls ho (by have := (HL.out m HM.out).2; omega)).mono ?_
  rintro e w3 ⟨rfl, ho3, hk3⟩
  rw [HE.out m HM.out] at ho3
  rw [(HL.out m HM.out).1] at ho3
  have HO := Lib.hid ho3
  have HA : Hid (Below w.heap.size w w3) := ((Keep.of_below HB.out).trans hk3 fun i hi => Or.inr (own_new ho i hi)).below
  clear ho3 hk3 ho
  go_wp2_with fail
  go_ret
  exact ⟨_, rfl, HO.out, HA.out⟩
end Go.Proofs.Ytcalfjakgidhfaa
