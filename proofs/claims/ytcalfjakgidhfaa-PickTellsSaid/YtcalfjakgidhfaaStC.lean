/- The store's Puts, Get and Delete. -/
import Derived.Test.YtcalfjakgidhfaaStB
namespace Go.Proofs.Ytcalfjakgidhfaa
open Go.RowKit
set_option linter.unusedVariables false
set_option linter.unusedSimpArgs false

set_option maxHeartbeats 400000 in
theorem store_puts {w : World} {v : Value} {S : St} {F : Nat → Prop} (h : IsStore w v S F) : Calls Try.prog 23 #[v] w fun e w' => e = .returned (.int .i64 S.puts) ∧ w = w' := by
  obtain ⟨b, be, bt, rows, rfl, h2, h3, h4, h5, h6, h7, hne, h8, h9, h10, h11, h12, h13⟩ := h
  have c2 := cell_of_row w b 2 _ _ _ h2
  simp at c2
  go_enter Try.func23, Try.ntmps23
  go_wp2
  go_ret
  exact ⟨rfl, rfl⟩

theorem get_cases {S : St} (h : S.ok) (k : ByteArray) : (aget S.there k = none) ∨ ∃ n l s, aget S.there k = some n ∧ aget S.ever k = some l ∧ 1 ≤ n ∧ n ≤ l.length ∧ l[n - 1]? = some s ∧ S.get k = s := by
  cases e : aget S.there k with
  | none => exact Or.inl rfl
  | some n =>
    obtain ⟨l, hl, h1, h2⟩ := h.there k n e
    refine Or.inr ⟨n, l, l[n - 1], rfl, hl, h1, h2, by rw [List.getElem?_eq_getElem], ?_⟩
    simp only [St.get, e, St.versions, hl, Option.getD_some, List.getD_eq_getElem?_getD, List.getElem?_eq_getElem (show n - 1 < l.length by omega)]

theorem aget_rows {rows : StRows} {k : ByteArray} {l : List ByteArray} (h : aget (amap (·.2) rows) k = some l) : ∃ x, aget rows k = some (x, l) := by
  rw [aget_amap] at h
  cases e : aget rows k with
  | none => rw [e] at h; cases h
  | some p => rw [e] at h; simp at h; exact ⟨p.1, by rw [← h]⟩

set_option maxHeartbeats 400000 in
theorem store_get {w : World} {v : Value} {S : St} {F : Nat → Prop} (h : IsStore w v S F) (key : ByteArray) : Calls Try.prog 20 #[v, .string key] w fun e w' => e = .returned (.tuple #[.string (S.get key), .int .i64 (S.getErr key)]) ∧ w = w' := by
  obtain ⟨b, be, bt, rows, rfl, h2, h3, h4, h5, h6, h7, hne, h8, h9, h10, h11, h12, h13⟩ := h
  have c0 := cell_of_row w b 0 _ _ _ h2
  have c1 := cell_of_row w b 1 _ _ _ h2
  simp at c0 c1
  have l1 := h5.look law66 Try.underlying67 (zero_int w) key true
  have l2 := h3.look law66 Try.underlying66 (zero_strs w) key false
  rw [aget_amap] at l1 l2
  rcases get_cases h13 key with hn | ⟨n, l, s, hn, hl, h1n, hnl, hs, hg⟩
  · simp [hn] at l1
    have eg : S.get key = ByteArray.empty := by simp [St.get, hn]
    have ee : S.getErr key = 4 := by simp [St.getErr, hn]
    rw [eg, ee]
    clear hne h2 h3 h4 h5 h6 h7 h8 h9 h10 h11 h12 h13 hn l2 eg ee
    go_enter Try.func20, Try.ntmps20
    go_wp2
    go_ret2
    exact ⟨rfl, rfl⟩
  · simp [hn] at l1
    rw [h4] at hl
    obtain ⟨x, hx⟩ := aget_rows hl
    simp [hx] at l2
    obtain ⟨A, c, hv, hlc, hmx, hc⟩ := strs_own (h6 key _ hx)
    obtain ⟨bb, off, hA, hcell⟩ := hc (by simp; omega)
    subst hA
    simp at hv
    subst hv
    have hcl := hcell (n - 1) s hs
    rw [hg, show S.getErr key = 0 by simp [St.getErr, hn]]
    dsimp only at hlc hmx
    clear hne h2 h3 h4 h5 h6 h7 h8 h9 h10 h11 h12 h13 hn hl hx hcell hs hg hc
    go_enter Try.func20, Try.ntmps20
    go_wp2
    go_ret2
    exact ⟨rfl, rfl⟩

/-- what a turned map of the store's leaves -/
theorem IsStore.there {w w' : World} {b be bt : Nat} {rows : StRows} {S : St} {F : Nat → Prop} {T : List (ByteArray × Nat)} (n2 : be ≠ bt) (hb : F b) (hbe : F be) (hbt : F bt)
    (h2 : w.heap[b]? = some (.cells #[.map (some be), .map (some bt), .int .i64 S.puts] 69 (0, 0))) (h3 : smap w Value.string be (amap (·.1) rows)) (h4 : S.ever = amap (·.2) rows)
    (h6 : ∀ k r, aget rows k = some r → w.ownsRow 0 9 1 r.1 r.2.length (strV r.2)) (h7 : ∀ k k' r r', aget rows k = some r → aget rows k' = some r' → k ≠ k' → r.1.ownBlock = none ∨ r.1.ownBlock ≠ r'.1.ownBlock)
    (h11 : ∀ k r g, aget rows k = some r → r.1.ownBlock = some g → F g) (h12 : ∀ k, F k → k < w.heap.size) (h5 : smap w Value.string bt (amap (fun n => Value.int .i64 (Int.ofNat n)) S.there))
    (hm : smap w' Value.string bt (amap (fun n => Value.int .i64 (Int.ofNat n)) T)) (hg : w.grownBy w' (some bt)) (hok : St.ok ⟨S.ever, T, S.puts⟩) : IsStore w' (.pointer (some ⟨b, 0, none⟩)) ⟨S.ever, T, S.puts⟩ F ∧ Keep F w w' := by
  have hk : Keep (fun i => i = bt) w w' := Keep.of_grown hg fun k e => by cases e; rfl
  exact ⟨⟨b, be, bt, rows, rfl, hk.at h2 (fun e => map_ne h5 h2 e.symm), hk.smap h3 n2, h4, hm, fun k r hr => hk.own (h6 k r hr) fun g hg e => map_ne_own h5 (h6 k r hr) (e ▸ hg), h7, n2, hb, hbe, hbt, h11, fun k hk' => Nat.lt_of_lt_of_le (h12 k hk') hg.size, hok⟩, hk.mono fun k e => e ▸ hbt⟩

set_option maxHeartbeats 400000 in
theorem store_delete {w : World} {v : Value} {S : St} {F : Nat → Prop} (h : IsStore w v S F) (key : ByteArray) : Calls Try.prog 18 #[v, .string key] w fun e w' => e = .returned (.int .i64 (S.delErr key)) ∧ IsStore w' v (S.del key) F ∧ Keep F w w' := by
  obtain ⟨b, be, bt, rows, rfl, h2, h3, h4, h5, h6, h7, hne, h8, h9, h10, h11, h12, h13⟩ := h
  have c1 := cell_of_row w b 1 _ _ _ h2
  simp at c1
  have l1 := h5.look law66 Try.underlying67 (zero_int w) key true
  rw [aget_amap] at l1
  cases hn : aget S.there key with
  | none =>
    simp [hn] at l1
    rw [show S.delErr key = 4 by simp [St.delErr, hn], show S.del key = S by simp [St.del, adel_of_none hn]]
    have hS : IsStore w (.pointer (some ⟨b, 0, none⟩)) S F := ⟨b, be, bt, rows, rfl, h2, h3, h4, h5, h6, h7, hne, h8, h9, h10, h11, h12, h13⟩
    clear hne h2 h3 h4 h5 h6 h7 h8 h9 h10 h11 h12 h13 hn
    go_enter Try.func18, Try.ntmps18
    go_wp2
    go_ret
    exact ⟨rfl, hS, Keep.refl _ _⟩
  | some n =>
    simp [hn] at l1
    obtain ⟨w', hd, hm, hg, hsz⟩ := h5.del law66 Try.underlying67 key #[67, 9] 0 rfl
    rw [adel_amap] at hm
    rw [show S.delErr key = 0 by simp [St.delErr, hn]]
    have hfin : IsStore w' (.pointer (some ⟨b, 0, none⟩)) (S.del key) F ∧ Keep F w w' := IsStore.there hne h8 h9 h10 h2 h3 h4 h6 h7 h11 h12 h5 hm hg (h13.del key)
    have HF := Lib.hid hfin
    clear hne h2 h3 h4 h5 h6 h7 h8 h9 h10 h11 h12 h13 hn hm hg hsz hfin
    go_enter Try.func18, Try.ntmps18
    go_wp2
    go_ret
    exact ⟨rfl, HF.out.1, HF.out.2⟩

/-- A store all of whose blocks are from B on. -/
def StoreB (w : World) (v : Value) (S : St) (B : Nat) : Prop := IsStore w v S (fun k => B ≤ k ∧ k < w.heap.size)
theorem StoreB.ptr {w : World} {v : Value} {S : St} {B : Nat} (h : StoreB w v S B) : ∃ b, v = .pointer (some ⟨b, 0, none⟩) := by
  obtain ⟨b, be, bt, rows, h1, _⟩ := h; exact ⟨b, h1⟩
theorem StoreB.below {w w' : World} {v : Value} {S : St} {B : Nat} (h : StoreB w v S B) (k : Below w.heap.size w w') : StoreB w' v S B :=
  (IsStore.keep h (Keep.of_below k (F := fun _ => False)) fun _ _ e => e).wider (fun i hi => ⟨hi.1, Nat.lt_of_lt_of_le hi.2 k.size⟩) fun i hi => hi.2
theorem storeB_new (w : World) (B : Nat) (hB : B ≤ w.heap.size) : Calls Try.prog 15 #[] w fun e w' => ∃ v, e = .returned v ∧ StoreB w' v St.new B ∧ Below w.heap.size w w' :=
  (store_new w).mono fun e w' ⟨v, h1, h2, h3⟩ => ⟨v, h1, h2.wider (fun k hk => ⟨by omega, hk.2⟩) fun k hk => hk.2, h3⟩
theorem storeB_put {w : World} {v : Value} {S : St} {B : Nat} (h : StoreB w v S B) (hB : B ≤ w.heap.size) (key blob : ByteArray) : Calls Try.prog 19 #[v, .string key, .string blob] w fun e w' => e = .returned (.int .i64 (S.putErr key blob)) ∧ StoreB w' v (S.put key blob) B ∧ Keep (fun k => B ≤ k) w w' :=
  (store_put h key blob).mono fun e w' ⟨h1, h2, h3⟩ => ⟨h1, h2.wider (fun k hk => ⟨by rcases hk with hk | hk <;> omega, h2.lt k hk⟩) fun k hk => hk.2, h3.mono fun k hk => hk.1⟩
theorem storeB_delete {w : World} {v : Value} {S : St} {B : Nat} (h : StoreB w v S B) (key : ByteArray) : Calls Try.prog 18 #[v, .string key] w fun e w' => e = .returned (.int .i64 (S.delErr key)) ∧ StoreB w' v (S.del key) B ∧ Keep (fun k => B ≤ k) w w' :=
  (store_delete h key).mono fun e w' ⟨h1, h2, h3⟩ => ⟨h1, h2.wider (fun k hk => ⟨hk.1, Nat.lt_of_lt_of_le hk.2 h3.size⟩) fun k hk => hk.2, h3.mono fun k hk => hk.1⟩
end Go.Proofs.Ytcalfjakgidhfaa
