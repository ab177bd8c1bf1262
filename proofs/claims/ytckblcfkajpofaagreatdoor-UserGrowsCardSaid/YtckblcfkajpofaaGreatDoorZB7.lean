/- law 14: what grows: plain law. law 14: secrets that were gathered differ: plain law. law 14: a user beside blocks that are somebody else's (UserGrows' table of versions, its list of secrets). law 14: UserGrows: a round's plain law; its memory: the table of versions, the secrets, the user. -/
import Derived.Test.YtckblcfkajpofaaGreatDoorZB3
import Derived.Test.YtckblcfkajpofaaGreatDoorZB6
import Derived.Test.YtckblcfkajpofaaGreatDoorZB4
import Derived.Test.YtckblcfkajpofaaGreatDoorZB5
namespace Go.Proofs.YtckblcfkajpofaaGreatDoor
set_option linter.unusedVariables false
set_option linter.unusedSimpArgs false

def verOf (U : Us) (f : ByteArray) : Nat := ((aget U.files f).map Ow.ver).getD 0
abbrev rootU : ByteArray := ⟨#[114, 111, 111, 116]⟩
abbrev signU : ByteArray := ⟨#[115, 105, 103, 110]⟩
theorem verOf_put (U : Us) (k : Nat) (f : ByteArray) (o : Ow) (j : ByteArray) : verOf { U with drew := k, files := aput U.files f o } j = if j = f then o.ver else verOf U j := by
  unfold verOf
  show ((aget (aput U.files f o) j).map Ow.ver).getD 0 = _
  rw [aget_aput]
  split <;> rfl
theorem own_put (U : Us) (k : Nat) (f : ByteArray) (o : Ow) (hg : o.gone = false) : ({ U with drew := k, files := aput U.files f o } : Us).own f = some o := by
  unfold Us.own
  show (match aget (aput U.files f o) f with | some o => if o.gone = true then none else some o | none => none) = _
  rw [aget_aput, if_pos rfl]
  simp [hg]
theorem create_grows {U : Us} {f : ByteArray} (h : (U.create f).2 = 0) : ∃ v, v = verOf U f ∧ (U.create f).1 = U.made f v := by
  unfold Us.create at h ⊢
  cases hn : nameR f with
  | false => rw [hn, if_pos rfl] at h; simp at h
  | true =>
    rw [hn, if_neg (by simp)] at h
    rw [if_neg (by simp)]
    cases ha : aget U.files f with
    | none =>
      rw [ha] at h
      dsimp only at h ⊢
      split at h
      · simp at h
      · rename_i h8
        rw [if_neg h8]
        exact ⟨0, by unfold verOf; rw [ha]; rfl, rfl⟩
    | some o =>
      rw [ha] at h
      dsimp only at h ⊢
      split at h
      · simp at h
      · rename_i hg
        rw [if_neg hg]
        split at h
        · simp at h
        · rename_i h8
          rw [if_neg h8]
          exact ⟨o.ver, by unfold verOf; rw [ha]; rfl, rfl⟩
theorem remove_same {U : Us} {f : ByteArray} (h : (U.remove f).2 = 0) : (∃ o, U.own f = some o) ∧ (U.remove f).1.own f = none ∧ (∀ j, verOf (U.remove f).1 j = verOf U j) ∧ (U.remove f).1.drew = U.drew := by
  unfold Us.remove at h ⊢
  cases ho : U.own f with
  | none => rw [ho] at h; simp at h
  | some o =>
    have ha := Us.own_get ho
    refine ⟨⟨o, rfl⟩, ?_, fun j => ?_, rfl⟩
    · unfold Us.own
      show (match aget (aput U.files f { o with gone := true }) f with | some o => if o.gone = true then none else some o | none => none) = _
      rw [aget_aput, if_pos rfl]; rfl
    · have := verOf_put U U.drew f { o with gone := true } j
      refine Eq.trans this ?_
      split
      · rename_i e; subst e; unfold verOf; rw [ha]; rfl
      · rfl
theorem change_grows {U : Us} {f : ByteArray} {g : Rt → Rt × Int} (h : (U.change f g).2 = 0) : ∃ o, U.own f = some o ∧ (g o.r).2 = 0 ∧ (U.change f g).1 = U.changed f o (g o.r).1 := by
  unfold Us.change at h ⊢
  cases ho : U.own f with
  | none => rw [ho] at h; simp at h
  | some o =>
    rw [ho] at h
    dsimp only at h ⊢
    by_cases h0 : (g o.r).2 ≠ 0
    · rw [if_pos h0] at h; exact absurd h h0
    · rw [if_neg h0]; exact ⟨o, rfl, by simpa using h0, rfl⟩
theorem verOf_own {U : Us} {f : ByteArray} {o : Ow} (h : U.own f = some o) : verOf U f = o.ver := by
  unfold verOf; rw [Us.own_get h]; rfl
theorem changed_grows {U : Us} {f : ByteArray} {o : Ow} (ho : U.own f = some o) (r : Rt) : ∃ q, (U.changed f o r).own f = some q ∧ q.ver = (verOf U f + 1) % 18446744073709551616 ∧ (∀ j, verOf (U.changed f o r) j = if j = f then (verOf U f + 1) % 18446744073709551616 else verOf U j) ∧
    ((r.epoch < o.sg.length ∧ (U.changed f o r).drew = U.drew ∧ q.sg = o.sg) ∨ (¬ r.epoch < o.sg.length ∧ (U.changed f o r).drew = U.drew + 1 ∧ q.sg = o.sg ++ [secT signU (pathB U.name f) (drawN U.seed U.drew)])) := by
  have hg := (Us.own_some ho).2
  have hv := verOf_own ho
  unfold Us.changed
  by_cases h : r.epoch < o.sg.length
  · rw [if_pos h]
    exact ⟨_, own_put U U.drew f _ hg, by rw [hv], fun j => by rw [hv]; exact verOf_put U U.drew f _ j, Or.inl ⟨h, rfl, rfl⟩⟩
  · rw [if_neg h]
    exact ⟨_, own_put U (U.drew + 1) f _ hg, by rw [hv], fun j => by rw [hv]; exact verOf_put U (U.drew + 1) f _ j, Or.inr ⟨h, rfl, rfl⟩⟩
theorem made_grows (U : Us) (f : ByteArray) (v : Nat) (hv : v = verOf U f) : ∃ q, (U.made f v).own f = some q ∧ q.ver = (verOf U f + 1) % 18446744073709551616 ∧ (∀ j, verOf (U.made f v) j = if j = f then (verOf U f + 1) % 18446744073709551616 else verOf U j) ∧ (U.made f v).drew = U.drew + 2 ∧
    q.root = secT rootU (pathB U.name f) (drawN U.seed U.drew) ∧ q.sg = [secT signU (pathB U.name f) (drawN U.seed (U.drew + 1))] := by
  subst hv
  unfold Us.made
  exact ⟨_, own_put U (U.drew + 2) f _ rfl, rfl, fun j => verOf_put U (U.drew + 2) f _ j, rfl, rfl, rfl⟩
end Go.Proofs.YtckblcfkajpofaaGreatDoor
namespace Go.Proofs.YtckblcfkajpofaaGreatDoor
set_option linter.unusedVariables false
set_option linter.unusedSimpArgs false

/-- each is of a draw of its own, of those up to n -/
def SecAt (seed n : Nat) (l : List ByteArray) : Prop := ∃ idx : List Nat, idx.length = l.length ∧ (∀ (k : Nat) (s : ByteArray) (i : Nat), l[k]? = some s → idx[k]? = some i → ∃ u w : ByteArray, u.size + w.size ≤ 1000 ∧ s = secT u w (drawN seed i)) ∧ idx.Pairwise (· < ·) ∧ ∀ i ∈ idx, i < n
theorem SecAt.mono {seed n m : Nat} {l : List ByteArray} (h : SecAt seed n l) (hm : n ≤ m) : SecAt seed m l := by
  obtain ⟨idx, h1, h2, h3, h4⟩ := h
  exact ⟨idx, h1, h2, h3, fun i hi => Nat.lt_of_lt_of_le (h4 i hi) hm⟩
theorem SecAt.one (seed n : Nat) (u w : ByteArray) (h : u.size + w.size ≤ 1000) : SecAt seed (n + 1) [secT u w (drawN seed n)] :=
  ⟨[n], rfl, fun k s i hs hi => by
    cases k with
    | zero => simp at hs hi; subst hs; subst hi; exact ⟨u, w, h, rfl⟩
    | succ k => simp at hs, by simp, fun i hi => by simp at hi; omega⟩
theorem SecAt.snoc {seed n i : Nat} {l : List ByteArray} (h : SecAt seed n l) (hi : n ≤ i) {u w : ByteArray} (hw : u.size + w.size ≤ 1000) : SecAt seed (i + 1) (l ++ [secT u w (drawN seed i)]) := by
  obtain ⟨idx, h1, h2, h3, h4⟩ := h
  refine ⟨idx ++ [i], by simp [h1], fun k s j hs hj => ?_, ?_, fun j hj => ?_⟩
  · by_cases hk : k < l.length
    · rw [List.getElem?_append_left hk] at hs
      rw [List.getElem?_append_left (by omega)] at hj
      exact h2 k s j hs hj
    · have hkl := (List.getElem?_eq_some_iff.1 hs).1
      rw [List.length_append, List.length_singleton] at hkl
      obtain rfl : k = l.length := by omega
      rw [List.getElem?_append_right (Nat.le_refl _), Nat.sub_self] at hs
      rw [List.getElem?_append_right (by omega), show l.length - idx.length = 0 by omega] at hj
      simp at hs hj
      subst hs; subst hj
      exact ⟨u, w, hw, rfl⟩
  · rw [List.pairwise_append]
    exact ⟨h3, by simp, fun a ha b hb => by simp at hb; subst hb; exact Nat.lt_of_lt_of_le (h4 a ha) hi⟩
  · rcases List.mem_append.1 hj with hj | hj
    · have := h4 j hj; omega
    · simp at hj; omega
theorem SecAt.differ {seed n : Nat} {l : List ByteArray} (h : SecAt seed n l) (hn : n ≤ 1000000) {i k : Nat} {s t : ByteArray} (hs : l[i]? = some s) (ht : l[k]? = some t) (hki : k < i) : s ≠ t := by
  obtain ⟨idx, h1, h2, h3, h4⟩ := h
  have hil := (List.getElem?_eq_some_iff.1 hs).1
  have hkl := (List.getElem?_eq_some_iff.1 ht).1
  obtain ⟨a, ha⟩ : ∃ a, idx[i]? = some a := ⟨_, List.getElem?_eq_getElem (by omega)⟩
  obtain ⟨b, hb⟩ : ∃ b, idx[k]? = some b := ⟨_, List.getElem?_eq_getElem (by omega)⟩
  obtain ⟨u1, w1, z1, e1⟩ := h2 i s a hs ha
  obtain ⟨u2, w2, z2, e2⟩ := h2 k t b ht hb
  have la := h4 a (List.mem_of_getElem? ha)
  have lb := h4 b (List.mem_of_getElem? hb)
  have hab : b < a := by
    have h5 := List.pairwise_iff_getElem.1 h3 k i (by omega) (by omega) hki
    have e3 := (List.getElem?_eq_some_iff.1 ha).2
    have e4 := (List.getElem?_eq_some_iff.1 hb).2
    rw [e3, e4] at h5; exact h5
  rw [e1, e2]
  exact secT_ne z1 z2 (by omega) (by omega) (by omega)
/-- an act that succeeds and does not remove: what is held of the file behind it, and what was drawn -/
theorem act_grows {U : Us} (hok : U.ok) (a : ActU) (h0 : (U.act a).2 = 0) (h8 : pickZ a.op 9 < 8) : ∃ q, (U.act a).1.own (fileB a.file) = some q ∧ q.ver = (verOf U (fileB a.file) + 1) % 18446744073709551616 ∧
    (∀ j, verOf (U.act a).1 j = if j = fileB a.file then (verOf U (fileB a.file) + 1) % 18446744073709551616 else verOf U j) ∧
    (pickZ a.op 9 < 2 → (U.act a).1.drew = U.drew + 2 ∧ q.root = secT rootU (pathB U.name (fileB a.file)) (drawN U.seed U.drew) ∧ q.sg = [secT signU (pathB U.name (fileB a.file)) (drawN U.seed (U.drew + 1))]) ∧
    (5 ≤ pickZ a.op 9 → ∃ o, (U.act a).1.drew = U.drew + 1 ∧ q.sg = o ++ [secT signU (pathB U.name (fileB a.file)) (drawN U.seed U.drew)]) := by
  unfold Us.act at h0 ⊢
  by_cases h2 : pickZ a.op 9 < 2
  · rw [if_pos h2] at h0
    rw [if_pos h2]
    obtain ⟨v, hv, he⟩ := create_grows h0
    rw [he]
    obtain ⟨q, g1, g2, g3, g4, g5, g6⟩ := made_grows U (fileB a.file) v hv
    exact ⟨q, g1, g2, g3, fun _ => ⟨g4, g5, g6⟩, fun h => by omega⟩
  · rw [if_neg h2] at h0
    rw [if_neg h2]
    by_cases h5 : pickZ a.op 9 < 5
    · rw [if_pos h5] at h0
      rw [if_pos h5]
      obtain ⟨o, ho, hz, he⟩ := change_grows h0
      rw [he]
      obtain ⟨q, g1, g2, g3, g4⟩ := changed_grows ho ((o.r.grant (whoB a.who) (pickZ a.op 9 == 4)).1)
      exact ⟨q, g1, g2, g3, fun h => absurd h h2, fun h => by omega⟩
    · rw [if_neg h5, if_pos h8] at h0
      rw [if_neg h5, if_pos h8]
      obtain ⟨o, ho, hz, he⟩ := change_grows h0
      rw [he]
      obtain ⟨q, g1, g2, g3, g4⟩ := changed_grows ho ((o.r.revoke (whoB a.who)).1)
      refine ⟨q, g1, g2, g3, fun h => absurd h h2, fun _ => ?_⟩
      have he1 := (Rt.revoke_ok hz).2.2.2
      have hs := (hok.all _ o (Us.own_get ho)).sgn
      rcases g4 with ⟨g5, _, _⟩ | ⟨_, g6, g7⟩
      · omega
      · exact ⟨o.sg, g6, g7⟩
end Go.Proofs.YtckblcfkajpofaaGreatDoor
namespace Go.Proofs.YtckblcfkajpofaaGreatDoor
open Go.RowKit Go.Sort
set_option linter.unusedVariables false
set_option linter.unusedSimpArgs false

/-- a user, in blocks of its own, none of them of X -/
def One (w0 w : World) (U : Us) (x : H4) (X : Nat → Prop) : Prop :=
  Below w0.heap.size w0 w ∧ (∃ F rows, UsAt w U F x.p x.d x.b x.m rows ∧ ∀ n, F n → w0.heap.size ≤ n ∧ ¬ X n) ∧ ∀ n, X n → n < w.heap.size
theorem One.below {w0 w w' : World} {U : Us} {x : H4} {X : Nat → Prop} (h : One w0 w U x X) (hb : Below w.heap.size w w') : One w0 w' U x X := by
  obtain ⟨h1, ⟨F, rows, h2, h3⟩, h4⟩ := h
  exact ⟨h1.trans (hb.mono h1.size), ⟨F, rows, h2.below hb, h3⟩, fun n hn => Nat.lt_of_lt_of_le (h4 n hn) hb.size⟩
/-- what changes blocks of X alone, or new ones -/
theorem One.other {w0 w w' : World} {U : Us} {x : H4} {X X' : Nat → Prop} (h : One w0 w U x X) (k : Keep X w w') (hX : ∀ n, X n → w0.heap.size ≤ n) (hX' : ∀ n, X' n → (X n ∨ w.heap.size ≤ n) ∧ n < w'.heap.size) : One w0 w' U x X' := by
  obtain ⟨h1, ⟨F, rows, h2, h3⟩, h4⟩ := h
  refine ⟨((Keep.of_below h1 (F := fun i => w0.heap.size ≤ i)).same (k.mono fun n hn => hX n hn)).new, ⟨F, rows, h2.keep k fun n hn e => (h3 n hn).2 e, fun n hn => ⟨(h3 n hn).1, fun e => ?_⟩⟩, fun n hn => (hX' n hn).2⟩
  rcases (hX' n e).1 with e | e
  · exact (h3 n hn).2 e
  · have := h2.lt n hn; omega
theorem One.acts {w0 w : World} {U : Us} {x : H4} {X : Nat → Prop} (h : One w0 w U x X) (f : FuncId) (args : Array Value) (r : Us × Int)
    (hc : ∀ F rows, UsAt w U F x.p x.d x.b x.m rows → Calls Tryz.prog f args w fun e w' => UsRet w r F x.p x.d x.b x.m e w') :
    Calls Tryz.prog f args w fun e w' => e = .returned (.int .i64 r.2) ∧ One w0 w' r.1 x X ∧ Keep (fun n => ¬ X n) w w' := by
  obtain ⟨h1, ⟨F, rows, h2, h3⟩, h4⟩ := h
  refine (hc F rows h2).mono ?_
  rintro e w' ⟨he, F', rows', g1, g2, g3, g4⟩
  refine ⟨he, ⟨((Keep.of_below h1 (F := fun i => w0.heap.size ≤ i)).same (g2.mono fun n hn => (h3 n hn).1)).new, ⟨F', rows', g1, fun n hn => ?_⟩, fun n hn => Nat.lt_of_lt_of_le (h4 n hn) g2.size⟩, g2.mono fun n hn => (h3 n hn).2⟩
  rcases g4 n hn with e | e
  · exact h3 n e
  · exact ⟨Nat.le_trans h1.size e, fun hx => by have := h4 n hx; omega⟩
theorem One.reads {w0 w : World} {U : Us} {x : H4} {X : Nat → Prop} (h : One w0 w U x X) {Post : World → Ending → World → Prop} (f : FuncId) (args : Array Value)
    (hc : ∀ F rows, UsAt w U F x.p x.d x.b x.m rows → Calls Tryz.prog f args w fun e w' => Post w e w' ∧ Below w.heap.size w w') :
    Calls Tryz.prog f args w fun e w' => Post w e w' ∧ Below w.heap.size w w' ∧ One w0 w' U x X := by
  have h' := h
  obtain ⟨h1, ⟨F, rows, h2, h3⟩, h4⟩ := h
  refine (hc F rows h2).mono ?_
  rintro e w' ⟨he, hb⟩
  exact ⟨he, hb, h'.below hb⟩
theorem One.does {w0 w : World} {U : Us} {x : H4} {X : Nat → Prop} (h : One w0 w U x X) (hok : U.ok) (hT : Tabs w0) (hd : U.drew ≤ 90000) (a : ActU) (ha : a.wf) :
    Calls Tryz.prog 76 #[.pointer (some ⟨x.p, 0, none⟩), actA a] w fun e w' => e = .returned (.int .i64 (U.act a).2) ∧ One w0 w' (U.act a).1 x X ∧ Keep (fun n => ¬ X n) w w' :=
  h.acts _ _ _ fun F rows hu => does_calls hu hok (hT.below h.1) hd a ha
theorem One.owns {w0 w : World} {U : Us} {x : H4} {X : Nat → Prop} (h : One w0 w U x X) (hok : U.ok) (f : ByteArray) :
    Calls Tryz.prog 77 #[.pointer (some ⟨x.p, 0, none⟩), .string f] w fun e w' => (∃ vr vw vs, e = .returned (.tuple #[agO (ownOut (U.own f)).1 vr vw vs, .int .i64 (ownOut (U.own f)).2]) ∧ OLists w' (ownOut (U.own f)).1 vr vw vs) ∧ Below w.heap.size w w' ∧ One w0 w' U x X :=
  h.reads (Post := fun w e w' => ∃ vr vw vs, e = .returned (.tuple #[agO (ownOut (U.own f)).1 vr vw vs, .int .i64 (ownOut (U.own f)).2]) ∧ OLists w' (ownOut (U.own f)).1 vr vw vs) _ _ fun F rows hu => (uown_calls hu hok f).mono fun e w' h => ownRet_out h
theorem One.lists {w0 w : World} {U : Us} {x : H4} {X : Nat → Prop} (h : One w0 w U x X) (hok : U.ok) (hd : U.drew ≤ 90000) :
    Calls Tryz.prog 28 #[.pointer (some ⟨x.p, 0, none⟩)] w fun e w' => (∃ v, e = .returned v ∧ strs w' v U.list) ∧ Below w.heap.size w w' ∧ One w0 w' U x X :=
  h.reads (Post := fun w e w' => ∃ v, e = .returned v ∧ strs w' v U.list) _ _ fun F rows hu => (files_calls hu (by have := hok.len; omega) (keys_small hok)).mono fun e w' ⟨v, h1, h2, h3⟩ => ⟨⟨v, h1, strs_own h2⟩, h3⟩
end Go.Proofs.YtckblcfkajpofaaGreatDoor
namespace Go.Proofs.YtckblcfkajpofaaGreatDoor
open Go.RowKit Go.Sort
set_option linter.unusedVariables false
set_option linter.unusedSimpArgs false

def u64V (l : List Nat) : List Value := l.map fun (n : Nat) => Value.int .u64 (n : Int)
def verL (U : Us) : List Nat := fileList.map fun f => verOf U f
theorem fileList_nodup : fileList.Nodup := by
  have h : (fileList.map fun b => b.data.toList).Nodup := by
    have e : (fileList.map fun b => b.data.toList) = [[110, 111, 116, 101, 115], [97], [98], [99], [100], [101], [102], [103], [104], [88]] := by kernel_rfl
    rw [e]; decide
  unfold List.Nodup at h ⊢
  rw [List.pairwise_map] at h
  exact h.imp fun {a b} hne e => hne (by rw [e])
theorem fileB_at (c : Int) : (pickZ c 10).toNat < 10 ∧ fileList[(pickZ c 10).toNat]? = some (fileB c) := by
  have hp := pickZ_lt c (n := 10) (by omega)
  have hl : (pickZ c 10).toNat < fileList.length := by show _ < 10; omega
  refine ⟨hl, ?_⟩
  unfold fileB
  rw [List.getD_eq_getElem?_getD, List.getElem?_eq_getElem hl]; rfl
theorem verL_set {U U' : Us} {f : ByteArray} {i x : Nat} (hi : fileList[i]? = some f) (h : ∀ j, verOf U' j = if j = f then x else verOf U j) : verL U' = (verL U).set i x := by
  apply List.ext_getElem?
  intro j
  rw [List.getElem?_set]
  unfold verL
  rw [List.getElem?_map, List.getElem?_map, List.length_map]
  by_cases e : i = j
  · subst e
    rw [if_pos rfl, if_pos (List.getElem?_eq_some_iff.1 hi).1, hi]
    simp [h]
  · rw [if_neg e]
    cases hj : fileList[j]? with
    | none => rfl
    | some g =>
      have hg : g ≠ f := fun eg => e ((List.getElem?_inj (List.getElem?_eq_some_iff.1 hi).1 fileList_nodup).1 (by rw [hi, hj, eg]))
      simp [h, hg]
theorem verL_at {U : Us} {f : ByteArray} {i : Nat} (hi : fileList[i]? = some f) : (verL U)[i]? = some (verOf U f) := by
  unfold verL; rw [List.getElem?_map, hi]; rfl
theorem verL_same {U U' : Us} (h : ∀ j, verOf U' j = verOf U j) : verL U' = verL U := by
  unfold verL; exact List.map_congr_left fun f _ => h f
theorem Us.act_seed (U : Us) (a : ActU) : (U.act a).1.seed = U.seed := by
  unfold Us.act
  split
  · unfold Us.create Us.made; repeat' split
    all_goals rfl
  · split
    · unfold Us.change Us.changed; repeat' split
      all_goals rfl
    · split
      · unfold Us.change Us.changed; repeat' split
        all_goals rfl
      · unfold Us.remove; repeat' split
        all_goals rfl
/-- an act that succeeds, and removes nothing -/
theorem gr_ok {U : Us} (hok : U.ok) (a : ActU) (h0 : (U.act a).2 = 0) (h8 : pickZ a.op 9 < 8) (hv : ∀ f, verOf U f ≤ 1000) : ∃ q, (U.act a).1.own (fileB a.file) = some q ∧ q.ver = verOf U (fileB a.file) + 1 ∧ (q.sg.length : Int) = q.r.epoch + 1 ∧ q.r.right = true ∧ q.r.owner = U.name ∧ q.r.file = fileB a.file ∧ q.gone = false ∧
    verL (U.act a).1 = (verL U).set (pickZ a.file 10).toNat (verOf U (fileB a.file) + 1) ∧ (∀ j, verOf (U.act a).1 j ≤ if j = fileB a.file then verOf U (fileB a.file) + 1 else verOf U j) ∧
    (pickZ a.op 9 < 2 → ∃ s, q.sg = [s] ∧ ∀ S : List ByteArray, SecAt U.seed U.drew S → SecAt U.seed (U.act a).1.drew (S ++ [q.root, s])) ∧
    (5 ≤ pickZ a.op 9 → ∃ o s, q.sg = o ++ [s] ∧ ∀ S : List ByteArray, SecAt U.seed U.drew S → SecAt U.seed (U.act a).1.drew (S ++ [s])) := by
  obtain ⟨q, g1, g2, g3, g4, g5⟩ := act_grows hok a h0 h8
  have hv1 := hv (fileB a.file)
  rw [Nat.mod_eq_of_lt (by omega)] at g2 g3
  have hq := (Us.act_ok hok a).all _ q (Us.own_get g1)
  rw [(Us.act_same U a).1] at hq
  have hfs := fileB_size a.file
  have hn := (Rt.right_good hq.right).owner
  have hps : (pathB U.name (fileB a.file)).size ≤ 300 := by
    have h1 : nameR U.name = true := hok.name
    have h2 := nameR_size h1
    have h3 : (⟨#[47]⟩ : ByteArray).size = 1 := rfl
    unfold pathB
    rw [ByteArray.size_append, ByteArray.size_append]
    omega
  refine ⟨q, g1, g2, hq.sgn, hq.right, hq.owner, hq.file, (Us.own_some g1).2, verL_set (fileB_at a.file).2 g3, fun j => Nat.le_of_eq (g3 j), fun h2 => ?_, fun h5 => ?_⟩
  · obtain ⟨k1, k2, k3⟩ := g4 h2
    refine ⟨_, k3, fun S hS => ?_⟩
    rw [k1, k2, show ∀ a b : ByteArray, S ++ [a, b] = (S ++ [a]) ++ [b] from fun a b => by simp]
    exact (hS.snoc (Nat.le_refl _) (by have : rootU.size = 4 := rfl; omega)).snoc (Nat.le_refl _) (by have : signU.size = 4 := rfl; omega)
  · obtain ⟨o, k1, k2⟩ := g5 h5
    refine ⟨o, _, k2, fun S hS => ?_⟩
    rw [k1]
    exact hS.snoc (Nat.le_refl _) (by have : signU.size = 4 := rfl; omega)

/-- so many strings more behind a row of the call's own -/
theorem append_news {w : World} {base : Nat} {v : Value} {l : List ByteArray} (ho : w.ownsRow base 9 1 v l.length (strV l)) (m : List ByteArray) (hl : l.length + m.length ≤ 1000000000) (hb : base ≤ w.heap.size) :
    ∃ v' w', (Builtin.append_ #[35, 35] 35 #[v, .slice (some ⟨w.heap.size, 0, none⟩) m.length m.length]).run Tryz.prog (w.alloc (.cells (strV m).toArray 9)) = .ok v' w' ∧
      w'.ownsRow base 9 1 v' (l ++ m).length (strV (l ++ m)) ∧ Keep (fun i => v.ownBlock = some i) w w' ∧ (v'.ownBlock = v.ownBlock ∨ v'.ownBlock = some (w.heap.size + 1)) := by
  obtain ⟨i0, hi, hz0, hz1, hz2⟩ := info_parts info9
  obtain ⟨v', w', hr, h2, h3, h4, h5⟩ := run_append_own_at (P := Tryz.prog) (w.alloc (.cells (strV m).toArray 9)) base 35 35 9 i0 (.string ⟨#[]⟩) 1 16 Tryz.underlying35 hi hz0 hz1 hz2 rfl (by decide) v l.length (strV l) (ho.alloc _)
    ⟨w.heap.size, 0, none⟩ m.length m.length (strV m) (by simp [strV]) (fun j u hj => by
      rw [add_at, Nat.zero_add, cell_of_row _ _ _ _ _ _ ((get_alloc _ _ _).trans (if_pos rfl)), ← Array.getElem?_toList]
      exact hj) (strV_one m) (by unfold maxLen; omega) (by omega) (by rw [size_alloc]; omega)
  refine ⟨v', w', hr, ?_, (Keep.alloc _ w _).same (Keep.of_grown h3 fun i e => e), ?_⟩
  · rw [List.length_append, strV_append]; exact h2
  · rw [size_alloc] at h5; exact h5
/-- the table (T), the secrets (S), and a user beside them -/
structure GrM (w wr : World) (U : Us) (x : H4) (VB : Nat) (T : List Nat) (sv : Value) (S : List ByteArray) : Prop where
  vb : w.heap.size ≤ VB
  tab : wr.heap[VB]? = some (.cells (u64V T).toArray 22 (0, 0))
  own : wr.ownsRow (VB + 1) 9 1 sv S.length (strV S)
  one : One w wr U x (fun n => n = VB ∨ sv.ownBlock = some n)
theorem GrM.acts {w wr w' : World} {U U' : Us} {x : H4} {VB : Nat} {T : List Nat} {sv : Value} {S : List ByteArray} (h : GrM w wr U x VB T sv S) (ho : One w w' U' x (fun n => n = VB ∨ sv.ownBlock = some n)) (k : Keep (fun n => ¬ (n = VB ∨ sv.ownBlock = some n)) wr w') : GrM w w' U' x VB T sv S :=
  ⟨h.vb, k.at h.tab (fun e => e (Or.inl rfl)), k.own h.own (fun g hg e => e (Or.inr hg)), ho⟩
theorem GrM.below {w wr w' : World} {U : Us} {x : H4} {VB : Nat} {T : List Nat} {sv : Value} {S : List ByteArray} (h : GrM w wr U x VB T sv S) (hb : Below wr.heap.size wr w') : GrM w w' U x VB T sv S :=
  ⟨h.vb, (Keep.of_below hb : Keep (fun _ => False) wr w').at h.tab (fun e => e), own_below h.own hb, h.one.below hb⟩
theorem GrM.base {w wr : World} {U : Us} {x : H4} {VB : Nat} {T : List Nat} {sv : Value} {S : List ByteArray} (h : GrM w wr U x VB T sv S) : ∀ n, (n = VB ∨ sv.ownBlock = some n) → w.heap.size ≤ n := fun n hn => by
  rcases hn with rfl | hn
  · exact h.vb
  · have := own_new h.own n hn; have := h.vb; omega
theorem GrM.tick {w wr : World} {U : Us} {x : H4} {VB : Nat} {T : List Nat} {sv : Value} {S : List ByteArray} (h : GrM w wr U x VB T sv S) (i n : Nat) : GrM w (wr.setCell ⟨VB, i, none⟩ (.int .u64 (n : Int))) U x VB (T.set i n) sv S := by
  have k : Keep (fun j => j = VB) wr (wr.setCell ⟨VB, i, none⟩ (.int .u64 (n : Int))) := Keep.setCell (fun j => j = VB) wr (p := ⟨VB, i, none⟩) rfl _
  refine ⟨h.vb, ?_, k.own h.own fun q e1 e2 => by have := own_new h.own q e1; omega, h.one.other (k.mono fun j hj => Or.inl hj) h.base fun j hj => ⟨Or.inl hj, Nat.lt_of_lt_of_le (h.one.2.2 j hj) k.size⟩⟩
  rw [set_at h.tab i _]
  simp [u64V, List.map_set]
theorem GrM.push {w wr w' : World} {U : Us} {x : H4} {VB : Nat} {T : List Nat} {sv v' : Value} {S S' : List ByteArray} (h : GrM w wr U x VB T sv S) (k : Keep (fun i => sv.ownBlock = some i) wr w') (ho : w'.ownsRow (VB + 1) 9 1 v' S'.length (strV S')) (hn : v'.ownBlock = sv.ownBlock ∨ ∃ g, v'.ownBlock = some g ∧ wr.heap.size ≤ g) : GrM w w' U x VB T v' S' := by
  refine ⟨h.vb, k.at h.tab fun e => by have := own_new h.own VB e; omega, ho, h.one.other (k.mono fun j hj => Or.inr hj) h.base fun j hj => ⟨?_, ?_⟩⟩
  · rcases hj with hj | hj
    · exact Or.inl (Or.inl hj)
    · rcases hn with hn | ⟨g, hg, hg2⟩
      · exact Or.inl (Or.inr (by rw [← hn]; exact hj))
      · rw [hg] at hj; cases hj; exact Or.inr hg2
  · rcases hj with rfl | hj
    · exact Nat.lt_of_lt_of_le (h.one.2.2 _ (Or.inl rfl)) k.size
    · exact (World.ownsRow.lt ho j hj).2
theorem GrM.does {w wr : World} {U : Us} {x : H4} {VB : Nat} {T : List Nat} {sv : Value} {S : List ByteArray} (h : GrM w wr U x VB T sv S) (hok : U.ok) (hT : Tabs w) (hd : U.drew ≤ 90000) (a : ActU) (ha : a.wf) :
    Calls Tryz.prog 76 #[.pointer (some ⟨x.p, 0, none⟩), actA a] wr fun e w' => e = .returned (.int .i64 (U.act a).2) ∧ GrM w w' (U.act a).1 x VB T sv S :=
  (h.one.does hok hT hd a ha).mono fun e w' ⟨h1, h2, h3⟩ => ⟨h1, h.acts h2 h3⟩
theorem GrM.owns {w wr : World} {U : Us} {x : H4} {VB : Nat} {T : List Nat} {sv : Value} {S : List ByteArray} (h : GrM w wr U x VB T sv S) (hok : U.ok) (f : ByteArray) :
    Calls Tryz.prog 77 #[.pointer (some ⟨x.p, 0, none⟩), .string f] wr fun e w' => (∃ vr vw vs, e = .returned (.tuple #[agO (ownOut (U.own f)).1 vr vw vs, .int .i64 (ownOut (U.own f)).2]) ∧ OLists w' (ownOut (U.own f)).1 vr vw vs) ∧ Below wr.heap.size wr w' ∧ GrM w w' U x VB T sv S :=
  (h.one.owns hok f).mono fun e w' ⟨h1, h2, h3⟩ => ⟨h1, h2, h.below h2⟩
theorem GrM.lists {w wr : World} {U : Us} {x : H4} {VB : Nat} {T : List Nat} {sv : Value} {S : List ByteArray} (h : GrM w wr U x VB T sv S) (hok : U.ok) (hd : U.drew ≤ 90000) :
    Calls Tryz.prog 28 #[.pointer (some ⟨x.p, 0, none⟩)] wr fun e w' => (∃ v, e = .returned v ∧ strs w' v U.list) ∧ Below wr.heap.size wr w' ∧ GrM w w' U x VB T sv S :=
  (h.one.lists hok hd).mono fun e w' ⟨h1, h2, h3⟩ => ⟨h1, h2, h.below h2⟩
/-- more blocks that are not the user's: all that are new since some world -/
theorem GrM.does2 {w wr w8 : World} {U : Us} {x : H4} {VB : Nat} {T : List Nat} {sv : Value} {S : List ByteArray} (h : GrM w wr U x VB T sv S) (hb : Below wr.heap.size wr w8) (hok : U.ok) (hT : Tabs w) (hd : U.drew ≤ 90000) (a : ActU) (ha : a.wf) :
    Calls Tryz.prog 76 #[.pointer (some ⟨x.p, 0, none⟩), actA a] w8 fun e w' => e = .returned (.int .i64 (U.act a).2) ∧ GrM w w' (U.act a).1 x VB T sv S ∧ Keep (fun n => ¬ (wr.heap.size ≤ n ∧ n < w8.heap.size)) w8 w' := by
  have h8 := h.below hb
  have ho : One w w8 U x (fun n => (n = VB ∨ sv.ownBlock = some n) ∨ (wr.heap.size ≤ n ∧ n < w8.heap.size)) :=
    h.one.other (Keep.of_below hb) h.base fun n hn => ⟨hn.imp id And.left, by
      rcases hn with hn | hn
      · exact h8.one.2.2 n hn
      · exact hn.2⟩
  refine (ho.does hok hT hd a ha).mono ?_
  rintro e w' ⟨h1, ⟨g1, ⟨F, rows, g2, g3⟩, g4⟩, h3⟩
  exact ⟨h1, h8.acts ⟨g1, ⟨F, rows, g2, fun n hn => ⟨(g3 n hn).1, fun e => (g3 n hn).2 (Or.inl e)⟩⟩, fun n hn => g4 n (Or.inl hn)⟩ (h3.mono fun n hn e => hn (Or.inl e)), h3.mono fun n hn e => hn (Or.inr e)⟩
theorem GrM.owns2 {w wr : World} {U : Us} {x : H4} {VB : Nat} {T : List Nat} {sv : Value} {S : List ByteArray} (h : GrM w wr U x VB T sv S) (hok : U.ok) (f : ByteArray) :
    Calls Tryz.prog 77 #[.pointer (some ⟨x.p, 0, none⟩), .string f] wr fun e w' => (∃ vr vw vs, e = .returned (.tuple #[agO (ownOut (U.own f)).1 vr vw vs, .int .i64 (ownOut (U.own f)).2]) ∧ OLists w' (ownOut (U.own f)).1 vr vw vs ∧ ∀ g, (vr.ownBlock = some g ∨ vw.ownBlock = some g ∨ vs.ownBlock = some g) → wr.heap.size ≤ g ∧ g < w'.heap.size) ∧ Below wr.heap.size wr w' := by
  obtain ⟨h1, ⟨F, rows, h2, h3⟩, h4⟩ := h.one
  refine (uown_calls h2 hok f).mono ?_
  rintro e w' ⟨hb, h⟩
  refine ⟨?_, hb⟩
  cases hr : U.own f with
  | none =>
    rw [hr] at h
    exact ⟨.slice none 0 0, .slice none 0 0, .slice none 0 0, h, ⟨⟨strs_nil _, strs_nil _⟩, strs_nil _⟩, fun g hg => by simp [Value.ownBlock] at hg⟩
  | some o =>
    rw [hr] at h
    obtain ⟨vr, vw, vs, he, ho⟩ := h
    exact ⟨vr, vw, vs, he, ho.lists, fun g hg => by
      rcases hg with hg | hg | hg
      · exact World.ownsRow.lt ho.rd g hg
      · exact World.ownsRow.lt ho.wr g hg
      · exact World.ownsRow.lt ho.sg g hg⟩
theorem GrM.lists2 {w wr : World} {U : Us} {x : H4} {VB : Nat} {T : List Nat} {sv : Value} {S : List ByteArray} (h : GrM w wr U x VB T sv S) (hok : U.ok) (hd : U.drew ≤ 90000) :
    Calls Tryz.prog 28 #[.pointer (some ⟨x.p, 0, none⟩)] wr fun e w' => (∃ v, e = .returned v ∧ strs w' v U.list ∧ ∀ g, v.ownBlock = some g → wr.heap.size ≤ g ∧ g < w'.heap.size) ∧ Below wr.heap.size wr w' := by
  obtain ⟨h1, ⟨F, rows, h2, h3⟩, h4⟩ := h.one
  exact (files_calls h2 (by have := hok.len; omega) (keys_small hok)).mono fun e w' ⟨v, h1, h2, h3⟩ => ⟨⟨v, h1, strs_own h2, fun g hg => World.ownsRow.lt h2 g hg⟩, h3⟩
/-- in the first loop: the table of versions, the secrets gathered, the user -/
structure GrSt (w wr : World) (seed : Nat) (U : Us) (x : H4) (VB : Nat) (sv : Value) (S : List ByteArray) : Prop where
  ok : U.ok
  name : U.name = annaB
  seed' : U.seed = seed
  m : GrM w wr U x VB (verL U) sv S
  sec : SecAt seed U.drew S
end Go.Proofs.YtckblcfkajpofaaGreatDoor
