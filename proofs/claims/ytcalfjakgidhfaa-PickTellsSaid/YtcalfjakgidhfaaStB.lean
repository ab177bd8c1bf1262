/- The store's Put: a blob more. -/
import Derived.Test.YtcalfjakgidhfaaStA
namespace Go.Proofs.Ytcalfjakgidhfaa
open Go.RowKit
set_option linter.unusedVariables false
set_option linter.unusedSimpArgs false

def rowAt (rows : StRows) (k : ByteArray) : Value × List ByteArray := (aget rows k).getD (.slice none 0 0, [])

theorem rowAt_own {w : World} {rows : StRows} (h6 : ∀ k r, aget rows k = some r → w.ownsRow 0 9 1 r.1 r.2.length (strV r.2)) (k : ByteArray) : w.ownsRow 0 9 1 (rowAt rows k).1 (rowAt rows k).2.length (strV (rowAt rows k).2) := by
  unfold rowAt
  cases e : aget rows k with
  | none => exact own_nil w 0 _ 1
  | some r => exact h6 k r e
theorem rowAt_ever {S : St} {rows : StRows} (h4 : S.ever = amap (·.2) rows) (k : ByteArray) : (rowAt rows k).2 = S.versions k := by
  unfold rowAt St.versions; rw [h4, aget_amap]; cases aget rows k <;> rfl

theorem St.ok.put {S : St} (h : S.ok) (k v : ByteArray) (hp : S.puts < 2000) : St.ok ⟨aput S.ever k (S.versions k ++ [v]), aput S.there k ((S.versions k).length + 1), S.puts + 1⟩ := by
  have hl : (S.versions k).length ≤ S.puts := by
    unfold St.versions; cases e : aget S.ever k with
    | none => simp
    | some l => exact h.len k l e
  refine ⟨by simp only; omega, Nat.le_trans (aput_length _ _ _) (Nat.succ_le_succ h.tlen), fun j l hj => ?_, fun j n hj => ?_⟩
  · simp only at hj ⊢; rw [aget_aput] at hj; split at hj
    · cases hj; simp; omega
    · have := h.len j l hj; omega
  · simp only at hj ⊢; rw [aget_aput] at hj ⊢; split at hj
    · rename_i e; cases hj; rw [if_pos e]; exact ⟨_, rfl, by omega, by simp⟩
    · rename_i e; rw [if_neg e]; exact h.there j n hj

/-- a map's block is no row's -/
theorem map_ne {w : World} {κ : Type} {mk : κ → Value} {b : Nat} {l : List (κ × Value)} (h : smap w mk b l) {c : Nat} {cs : Array Value} {t : TypeId} {fr : Nat × Nat} (hc : w.heap[c]? = some (.cells cs t fr)) : b ≠ c := by
  obtain ⟨es, k, hb, _⟩ := h; intro e; subst e; rw [hb] at hc; cases hc
theorem map_ne_own {w : World} {κ : Type} {mk : κ → Value} {b : Nat} {l : List (κ × Value)} (h : smap w mk b l) {e : TypeId} {size n : Nat} {v : Value} {xs : List Value} (ho : w.ownsRow 0 e size v n xs) : v.ownBlock ≠ some b := by
  rcases ho.2 with ⟨rfl, _⟩ | ⟨g, cap, cur, rfl, _, hg, _⟩
  · simp [Value.ownBlock]
  · intro e; simp [Value.ownBlock] at e; exact map_ne h hg e.symm
theorem row_ne_own {w : World} {b : Nat} {cs : Array Value} {t : TypeId} {fr : Nat × Nat} (h : w.heap[b]? = some (.cells cs t fr)) {e : TypeId} {size n : Nat} {v : Value} {xs : List Value} (ho : w.ownsRow 0 e size v n xs) (hne : t ≠ e) : v.ownBlock ≠ some b := by
  rcases ho.2 with ⟨rfl, _⟩ | ⟨g, cap, cur, rfl, _, hg, _⟩
  · simp [Value.ownBlock]
  · intro e'; simp [Value.ownBlock] at e'; subst e'; rw [hg] at h; cases h; exact hne rfl

set_option maxRecDepth 100000 in
set_option maxHeartbeats 800000 in
theorem store_put_ok {w : World} {v : Value} {S : St} {F : Nat → Prop} (h : IsStore w v S F) (key blob : ByteArray) (hz : S.putErr key blob = 0) : Calls Try.prog 19 #[v, .string key, .string blob] w fun e w' => e = .returned (.int .i64 0) ∧ IsStore w' v (S.put key blob) (fun k => F k ∨ (w.heap.size ≤ k ∧ k < w'.heap.size)) ∧ Keep F w w' := by
  obtain ⟨b, be, bt, rows, rfl, h2, h3, h4, h5, h6, h7, hne, h8, h9, h10, h11, h12, h13⟩ := h
  have hp : S.puts < 2000 := by
    have := h13.puts; unfold St.putErr at hz
    split at hz; · cases hz
    split at hz; · cases hz
    split at hz; · cases hz
    omega
  have hk : ¬ (key.size = 0 ∨ key.size > 200) := by intro e; rw [St.putErr, if_pos e] at hz; cases hz
  have hb : ¬ blob.size > 40000 := by intro e; rw [St.putErr, if_neg hk, if_pos e] at hz; cases hz
  have c0 := cell_of_row w b 0 _ _ _ h2
  have c1 := cell_of_row w b 1 _ _ _ h2
  have c2 := cell_of_row w b 2 _ _ _ h2
  simp at c0 c1 c2
  -- the rows, and what is put behind one
  have hrow := rowAt_own h6 key
  have hlen : (rowAt rows key).2.length ≤ 2000 := by
    rw [rowAt_ever h4]; unfold St.versions
    cases e : aget S.ever key with
    | none => simp
    | some l => have := h13.len key l e; simp; omega
  obtain ⟨A, c, w2, hrun, hown, hk2, hloc, hsz2⟩ := put_append hrow blob hlen
  have l0 : ∀ o, (Instr.lookup 66 (.map (some be)) (.string key) false).run Try.prog (w.alloc o).drew = .ok (rowAt rows key).1 (w.alloc o).drew := fun o => by
    have := (smap.keep (w := w.alloc o) (w' := (w.alloc o).drew) (h3.alloc o) rfl).look law66 Try.underlying66 (zero_strs _) key false
    rw [aget_amap] at this; rw [this]; unfold rowAt; cases aget rows key <;> rfl
  have l00 : (Instr.lookup 66 (.map (some be)) (.string key) false).run Try.prog w.drew = .ok (rowAt rows key).1 w.drew := by
    have := (smap.keep (w := w) (w' := w.drew) h3 rfl).look law66 Try.underlying66 (zero_strs _) key false
    rw [aget_amap] at this; rw [this]; unfold rowAt; cases aget rows key <;> rfl
  have nb : ¬ (rowAt rows key).1.ownBlock = some b := row_ne_own h2 hrow (by decide)
  have nbe : ¬ (rowAt rows key).1.ownBlock = some be := map_ne_own h3 hrow
  have nbt : ¬ (rowAt rows key).1.ownBlock = some bt := map_ne_own h5 hrow
  have h3' := hk2.smap h3 nbe
  have h5' := hk2.smap h5 nbt
  have h2' := hk2.at h2 nb
  obtain ⟨w3, hrun3, hm3, hg3, hsz3⟩ := h3'.upd law66 Try.underlying66 key (.slice A ((rowAt rows key).2.length + 1) c)
  have hk3 : Keep (fun i => i = be) w2 w3 := Keep.of_grown hg3 fun k e => by cases e; rfl
  have nbbe : b ≠ be := fun e => (map_ne h3 h2) e.symm
  have nbbt : b ≠ bt := fun e => (map_ne h5 h2) e.symm
  have h2'' := hk3.at h2' nbbe
  have h5'' := hk3.smap h5' (fun e => hne e.symm)
  have l8 : (Instr.lookup 66 (.map (some be)) (.string key) false).run Try.prog w3.drew = .ok (.slice A ((rowAt rows key).2.length + 1) c) w3.drew := by
    have := (smap.keep (w := w3) (w' := w3.drew) hm3 rfl).look law66 Try.underlying66 (zero_strs _) key false
    rw [aget_aput, if_pos rfl] at this; exact this
  obtain ⟨w4, hrun4, hm4, hg4, hsz4⟩ := (smap.keep (w := w3) (w' := w3.drew) h5'' rfl).upd law66 Try.underlying67 key (.int .i64 (Int.ofNat ((rowAt rows key).2.length + 1)))
  have hk4 : Keep (fun i => i = bt) w3 w4 := (Keep.drew _ w3).trans (Keep.of_grown hg4 fun k e => by cases e; rfl) fun i e => Or.inl e
  have h2''' := hk4.at h2'' nbbt
  have d0 := cell_of_row w3.drew b 0 _ _ _ h2''
  have d1 := cell_of_row w3.drew b 1 _ _ _ h2''
  have e2 := cell_of_row w4 b 2 _ _ _ h2'''
  have f2 := frozen_of_row h2''' 2
  simp at d0 d1 e2
  have k0 := cell_of_row w2 b 0 _ _ _ h2'
  have m0 := cell_of_row w4 b 0 _ _ _ h2'''
  have m1 := cell_of_row w4 b 1 _ _ _ h2'''
  simp at m0 m1
  have k1 : ∀ o, (w.alloc o).cell? ⟨b, 0, none⟩ = some (.map (some be)) := fun o => (Keep.alloc (fun _ => False) w o).cell c0 fun e => e
  simp at k0
  -- what comes of it
  have hm4' := hm4
  rw [aput_amap (fun n => Value.int .i64 (Int.ofNat n))] at hm4'
  have hfin : IsStore (w4.setCell ⟨b, 2, none⟩ (.int .i64 ((S.puts : Int) + 1))) (.pointer (some ⟨b, 0, none⟩)) (S.put key blob) (fun k => F k ∨ (w.heap.size ≤ k ∧ k < (w4.setCell ⟨b, 2, none⟩ (.int .i64 ((S.puts : Int) + 1))).heap.size)) ∧ Keep F w (w4.setCell ⟨b, 2, none⟩ (.int .i64 ((S.puts : Int) + 1))) := by
    have hS : S.put key blob = ⟨aput S.ever key (S.versions key ++ [blob]), aput S.there key ((S.versions key).length + 1), S.puts + 1⟩ := by simp [St.put, hz]
    have kc : Keep (fun i => i = b) w4 (w4.setCell ⟨b, 2, none⟩ (.int .i64 ((S.puts : Int) + 1))) := Keep.setCell (fun i => i = b) w4 (p := ⟨b, 2, none⟩) rfl _
    have hver := rowAt_ever h4 key
    have hFr : ∀ k, (rowAt rows key).1.ownBlock = some k → F k := fun k hk => by
      unfold rowAt at hk
      cases e : aget rows key with
      | none => rw [e] at hk; simp [Value.ownBlock] at hk
      | some r => rw [e] at hk; exact h11 key r k e hk
    have hnew : ∀ k, (Value.slice A ((rowAt rows key).2.length + 1) c).ownBlock = some k → F k ∨ (w.heap.size ≤ k ∧ k < w2.heap.size) := fun k hk => by
      rcases hloc with e | e
      · exact Or.inl (hFr k (by rw [← e]; exact hk))
      · rw [e] at hk; cases hk
        have : (Value.slice A ((rowAt rows key).2.length + 1) c).ownBlock = some (w.heap.size + 1) := e
        exact Or.inr ⟨by omega, (World.ownsRow.lt hown _ this).2⟩
    have sz : (w4.setCell ⟨b, 2, none⟩ (.int .i64 ((S.puts : Int) + 1))).heap.size = w2.heap.size := by
      have : (w4.setCell ⟨b, 2, none⟩ (.int .i64 ((S.puts : Int) + 1))).heap.size = w4.heap.size := by simp [World.setCell]
      rw [this, hsz4]; show w3.heap.size = _; rw [hsz3]
    refine ⟨⟨b, be, bt, aput rows key (.slice A ((rowAt rows key).2.length + 1) c, (rowAt rows key).2 ++ [blob]), rfl, ?_, ?_, ?_, ?_, ?_, ?_, hne, Or.inl h8, Or.inl h9, Or.inl h10, ?_, ?_, ?_⟩, ?_⟩
    · rw [hS]; have := set_at h2''' 2 (.int .i64 ((S.puts : Int) + 1)); simpa using this
    · rw [← aput_amap (fun x : Value × List ByteArray => x.1)]; exact kc.smap (hk4.smap hm3 hne) (fun e => nbbe e.symm)
    · rw [hS]; simp only; rw [h4, ← aput_amap (fun x : Value × List ByteArray => x.2), hver]
    · rw [hS, ← hver]; exact kc.smap hm4' (fun e => nbbt e.symm)
    · intro k r hr
      rw [aget_aput] at hr
      have kk : ∀ g, (∀ i, r.1.ownBlock = some i → i ≠ be ∧ i ≠ bt ∧ i ≠ b) → w2.ownsRow 0 9 1 r.1 g (strV r.2) → (w4.setCell ⟨b, 2, none⟩ (.int .i64 ((S.puts : Int) + 1))).ownsRow 0 9 1 r.1 g (strV r.2) := fun g hi ho =>
        kc.own (hk4.own (hk3.own ho fun i h e => (hi i h).1 e) fun i h e => (hi i h).2.1 e) fun i h e => (hi i h).2.2 e
      split at hr
      · cases hr
        exact kk _ (fun i h => ⟨fun e => map_ne_own h3' hown (e ▸ h), fun e => map_ne_own h5' hown (e ▸ h), fun e => row_ne_own h2' hown (by decide) (e ▸ h)⟩) hown
      · rename_i hkk
        have ho := h6 k r hr
        have hd : ∀ i, r.1.ownBlock = some i → ¬ (rowAt rows key).1.ownBlock = some i := fun i hi e => by
          unfold rowAt at e
          cases e' : aget rows key with
          | none => rw [e'] at e; simp [Value.ownBlock] at e
          | some r' =>
            rw [e'] at e; simp at e
            rcases h7 k key r r' hr e' hkk with q | q
            · rw [q] at hi; cases hi
            · exact q (hi.trans e.symm)
        exact kk _ (fun i h => ⟨fun e => map_ne_own h3 ho (e ▸ h), fun e => map_ne_own h5 ho (e ▸ h), fun e => row_ne_own h2 ho (by decide) (e ▸ h)⟩) (hk2.own ho hd)
    · intro k k' r r' hr hr' hkk
      rw [aget_aput] at hr hr'
      have hcross : ∀ j q, aget rows j = some q → j ≠ key → q.1.ownBlock = none ∨ q.1.ownBlock ≠ (Value.slice A ((rowAt rows key).2.length + 1) c).ownBlock := fun j q hq hj => by
        rcases hloc with e | e
        · rw [e]; unfold rowAt
          cases e' : aget rows key with
          | none => cases h : q.1.ownBlock <;> simp [Value.ownBlock]
          | some r' => exact h7 j key q r' hq e' hj
        · right; rw [e]; intro h
          have := (World.ownsRow.lt (h6 j q hq) _ h).2; omega
      split at hr
      · cases hr; split at hr'
        · rename_i a b'; exact absurd (a.trans b'.symm) hkk
        · rename_i hne'
          rcases hcross k' r' hr' hne' with q | q
          · cases h : (Value.slice A ((rowAt rows key).2.length + 1) c).ownBlock with
            | none => exact Or.inl rfl
            | some g => right; rw [q]; simp
          · exact Or.inr fun e => q e.symm
      · split at hr'
        · rename_i hne' _; cases hr'; exact hcross k r hr hne'
        · exact h7 k k' r r' hr hr' hkk
    · intro k r g hr hg
      rw [aget_aput] at hr
      rw [sz]
      split at hr
      · cases hr; exact hnew g hg
      · exact Or.inl (h11 k r g hr hg)
    · intro k hk
      rcases hk with hk | hk
      · rw [sz]; exact Nat.lt_of_lt_of_le (h12 k hk) hk2.size
      · exact hk.2
    · rw [hS]; exact h13.put key blob hp
    · exact (((hk2.mono hFr).trans hk3 fun i e => Or.inl (e ▸ h9)).trans hk4 fun i e => Or.inl (e ▸ h10)).trans kc fun i e => Or.inl (e ▸ h8)
  have HF := Lib.hid hfin
  have hr4 : (Instr.mapUpdate 67 (.map (some bt)) (.string key) (.int .i64 (((rowAt rows key).2.length : Int) + 1))).run Try.prog w3.drew = .ok () w4 := hrun4
  have q5 : ¬ key.toList = [] := fun e => hk (Or.inl (by
    have h1 : key.data.toList = [] := (ByteArray.toList_eq key).symm.trans e
    have h2 : key.data.toList.length = 0 := by rw [h1]; rfl
    rw [Array.length_toList] at h2; exact h2))
  have q1 : key.toList.isEmpty = false := by cases e : key.toList with | nil => exact absurd e q5 | cons => rfl
  have q2 : (key.size : Int) ≤ 200 := by omega
  have q3 : (blob.size : Int) ≤ 40000 := by omega
  have q4 : ((S.puts : Int) == 2000) = false := by simp; omega
  have q6 : (S.puts : Int) ≤ 2000 := by omega
  have HLEN := hlen
  clear hfin hm4 hm4' hk hb hz hne h2 h3 h4 h5 h6 h7 h8 h9 h10 h11 h12 h13 h2' h3' h5' h2'' h5'' h2''' hk2 hk3 hk4 hg3 hg4 hm3 hsz3 hsz4 hloc hown nb nbe nbt hrow hsz2 nbbe nbbt
  go_enter Try.func19, Try.ntmps19
  go_wp2
  go_region_held3 (fun w' => w'.cell? ⟨b, 0, none⟩ = some (.map (some be))) (first | exact c0 | exact k0 | exact k1 _ | exact d0) (refine step_append_run rfl _ _ _ rfl rfl rfl hrun ?_)
  all_goals
    go_wp2
    go_region_held3 (fun w' => w'.cell? ⟨b, 0, none⟩ = some (.map (some be)) ∧ w'.cell? ⟨b, 1, none⟩ = some (.map (some bt))) (first | exact ⟨d0, d1⟩ | exact ⟨m0, m1⟩) (fail)
    go_wp2
    go_ret
    exact ⟨rfl, HF.out.1, HF.out.2⟩

theorem toList_isEmpty {s : ByteArray} (h : ¬ s.size = 0) : s.toList.isEmpty = false := by
  cases e : s.toList with
  | nil => exact absurd ((by
      have h1 : s.data.toList = [] := (ByteArray.toList_eq s).symm.trans e
      have h2 : s.data.toList.length = 0 := by rw [h1]; rfl
      rw [Array.length_toList] at h2; exact h2 : s.size = 0)) h
  | cons => rfl

theorem St.putErr_puts {S : St} {k v : ByteArray} (hk : ¬ (k.size = 0 ∨ k.size > 200)) (hb : ¬ v.size > 40000) (hp : S.puts = 2000) : S.putErr k v = 11 := by rw [St.putErr, if_neg hk, if_neg hb, if_pos hp]

set_option maxRecDepth 100000 in
set_option maxHeartbeats 800000 in
theorem store_put_err {w : World} {v : Value} {S : St} {F : Nat → Prop} (h : IsStore w v S F) (key blob : ByteArray) (hz : ¬ S.putErr key blob = 0) : Calls Try.prog 19 #[v, .string key, .string blob] w fun e w' => e = .returned (.int .i64 (S.putErr key blob)) ∧ w = w' := by
  obtain ⟨b, be, bt, rows, rfl, h2, h3, h4, h5, h6, h7, hne, h8, h9, h10, h11, h12, h13⟩ := h
  have c2 := cell_of_row w b 2 _ _ _ h2
  simp at c2
  clear h2 h3 h4 h5 h6 h7 hne h8 h9 h10 h11 h12 h13
  by_cases hk0 : key.size = 0
  · rw [show S.putErr key blob = 1 by rw [St.putErr, if_pos (Or.inl hk0)]]
    have q5 : key.toList = [] := by rw [ByteArray.toList_eq]; exact List.eq_nil_of_length_eq_zero (by rw [Array.length_toList]; exact hk0)
    have q1 : key.toList.isEmpty = true := by rw [q5]; rfl
    have Q5 := Lib.hid q5
    clear q5 hk0 hz
    go_enter Try.func19, Try.ntmps19
    go_wp2
    go_ret
    exact ⟨rfl, rfl⟩
  · have q1 := toList_isEmpty hk0
    by_cases hk : key.size > 200
    · rw [show S.putErr key blob = 1 by rw [St.putErr, if_pos (Or.inr hk)]]
      have q2 : (200 : Int) < key.size := by omega
      clear hk0 hz hk
      go_enter Try.func19, Try.ntmps19
      go_wp2
      go_ret
      exact ⟨rfl, rfl⟩
    · have q2 : (key.size : Int) ≤ 200 := by omega
      have hkk : ¬ (key.size = 0 ∨ key.size > 200) := fun e => e.elim hk0 hk
      by_cases hb : blob.size > 40000
      · rw [show S.putErr key blob = 10 by rw [St.putErr, if_neg hkk, if_pos hb]]
        have q3 : (40000 : Int) < blob.size := by omega
        clear hk0 hz hk hb hkk
        go_enter Try.func19, Try.ntmps19
        go_wp2
        go_ret
        exact ⟨rfl, rfl⟩
      · have q3 : (blob.size : Int) ≤ 40000 := by omega
        have hp : S.puts = 2000 := Classical.byContradiction fun e => hz (by rw [St.putErr, if_neg hkk, if_neg hb, if_neg e])
        rw [show S.putErr key blob = 11 from St.putErr_puts hkk hb hp]
        have q4 : ((S.puts : Int) == 2000) = true := by simp; omega
        clear hk0 hz hk hb hkk hp
        go_enter Try.func19, Try.ntmps19
        go_wp2
        go_ret
        exact ⟨rfl, rfl⟩

theorem store_put {w : World} {v : Value} {S : St} {F : Nat → Prop} (h : IsStore w v S F) (key blob : ByteArray) : Calls Try.prog 19 #[v, .string key, .string blob] w fun e w' => e = .returned (.int .i64 (S.putErr key blob)) ∧ IsStore w' v (S.put key blob) (fun k => F k ∨ (w.heap.size ≤ k ∧ k < w'.heap.size)) ∧ Keep F w w' := by
  by_cases hz : S.putErr key blob = 0
  · rw [hz]; exact store_put_ok h key blob hz
  · refine (store_put_err h key blob hz).mono ?_
    rintro e w' ⟨rfl, rfl⟩
    refine ⟨rfl, ?_, Keep.refl _ _⟩
    rw [show S.put key blob = S by rw [St.put, if_neg hz]]
    exact h.wider (fun k hk => Or.inl hk) fun k hk => hk.elim (h.lt k) fun h' => h'.2
end Go.Proofs.Ytcalfjakgidhfaa
