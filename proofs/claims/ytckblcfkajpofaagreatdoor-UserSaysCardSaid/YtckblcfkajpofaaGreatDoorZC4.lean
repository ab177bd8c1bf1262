/- law 8: rights behind turns, secrets, public terms: plain law. law 8: MetaEpochs, MetaKnown, MetaBack: plain law. law 8: pick, who, secretOf, publicOf, rootOf, signersOf. (Printed by tools/gmn.py.) -/
import Derived.Test.YtckblcfkajpofaaGreatDoorZC3
import Derived.Test.YtckblcfkajpofaaGreatDoorZA8
import Derived.Test.YtckblcfkajpofaaGreatDoorZA6
namespace Go.Proofs.YtckblcfkajpofaaGreatDoor
open Go.RowKit
set_option linter.unusedVariables false
set_option linter.unusedSimpArgs false

abbrev userB : ByteArray := ⟨#[117, 115, 101, 114]⟩
abbrev xB : ByteArray := ⟨#[120]⟩
def secOf (u : ByteArray) : ByteArray := secT userB u 1
def pkOf (u : ByteArray) : ByteArray := mkB (117 :: toL (secOf u))
def rootN (n : Nat) : ByteArray := secT rootU xB n
def signN (n : Nat) : ByteArray := secT signU xB n
def signL (n : Nat) : List ByteArray := (List.range n).map signN
theorem secT_enc {u w : ByteArray} {n : Nat} (h : u.size + w.size ≤ 1000) (hn : n < 18446744073709551616) : toL (secT u w n) = (secTm (toL u) (toL w) n).enc := by
  unfold secT
  rw [secretT_eq (by rw [toL_len, toL_len]; exact h) hn]
  exact mkB_list _
theorem secT_is {u w : ByteArray} {n : Nat} (h : u.size + w.size ≤ 20) (hn : n < 18446744073709551616) : isT 4 100 (toL (secT u w n)) := by
  rw [secT_enc (by omega) hn]
  refine ⟨_, rfl, ⟨rfl, rfl, ?_, hn, fun e => absurd e (by decide)⟩, ?_⟩
  · show (toL u ++ 58 :: toL w).length ≤ 4000
    rw [List.length_append, List.length_cons, toL_len, toL_len]; omega
  · have h1 := wput_len_le hn
    have h2 := wput_len_le (n := (toL u ++ 58 :: toL w).length) (by rw [List.length_append, List.length_cons, toL_len, toL_len]; omega)
    have h3 : (toL u ++ 58 :: toL w).length ≤ 21 := by rw [List.length_append, List.length_cons, toL_len, toL_len]; omega
    simp only [secTm, Tm.enc, wtext, List.length_cons, List.length_append] at *
    omega
theorem whoList_size : ∀ u ∈ whoList, u.size ≤ 5 := by
  unfold whoList
  intro u hu
  simp only [List.mem_cons, List.not_mem_nil, or_false] at hu
  rcases hu with rfl | rfl | rfl | rfl | rfl | rfl | rfl | rfl <;> decide
theorem whoB_mem (c : Int) : whoB c ∈ whoList := by
  have hp := pickZ_lt c (n := 8) (by omega)
  have hl : (pickZ c 8).toNat < whoList.length := by show _ < 8; omega
  unfold whoB
  rw [List.getD_eq_getElem?_getD, List.getElem?_eq_getElem hl]
  exact List.getElem_mem hl
theorem secOf_is {u : ByteArray} (h : u.size ≤ 16) : isT 4 100 (toL (secOf u)) := secT_is (by have : userB.size = 4 := rfl; omega) (by decide)
theorem pkOf_is {u : ByteArray} (h : u.size ≤ 16) : isT 5 101 (toL (pkOf u)) ∧ ∃ q, toL (pkOf u) = 117 :: q := by
  unfold pkOf
  rw [toL_mkB]
  exact ⟨(secOf_is h).one rfl, _, rfl⟩
theorem pkOf_kind {u : ByteArray} (h : u.size ≤ 16) : kindL (toL (pkOf u)) = 117 := by
  obtain ⟨h1, q, hq⟩ := pkOf_is h
  rw [hq] at h1 ⊢
  exact h1.kind (by omega) (by omega)
theorem find_map_self {β : Type} (g : ByteArray → β) (l : List ByteArray) (s : ByteArray) (h : s ∈ l) (r : List (ByteArray × β)) : (l.map (fun u => (u, g u)) ++ r).find? (fun x => decide (x.1 = s)) = some (s, g s) := by
  induction l with
  | nil => cases h
  | cons x l ih =>
    rw [List.map_cons, List.cons_append, List.find?_cons]
    by_cases e : x = s
    · subst e; simp
    · rw [show decide ((x, g x).1 = s) = false from decide_eq_false e]
      exact ih (by rcases List.mem_cons.1 h with rfl | h; exact absurd rfl e; exact h)
/-- who is known, whoever else is -/
theorem pubOf_known {l : List ByteArray} {s : ByteArray} (hs : s ∈ l) (hz : s.size ≤ 16) (a r : Knowns) (ha : ∀ x ∈ a, x.1 ≠ s) : pubOf (a ++ (l.map (fun u => (u, pkOf u)) ++ r)) s = .ok (pkOf s) := by
  unfold pubOf
  rw [List.find?_append, List.find?_eq_none.2 (fun x hx => by simpa using ha x hx)]
  show (match (List.find? _ (l.map (fun u => (u, pkOf u)) ++ r)) with
    | none => (.error 4 : Except Int ByteArray)
    | some x => if kindL (toL x.2) = 117 then .ok x.2 else .error 1) = _
  rw [find_map_self pkOf l s hs r]
  show (if kindL (toL (pkOf s)) = 117 then (.ok (pkOf s) : Except Int ByteArray) else .error 1) = _
  rw [if_pos (pkOf_kind hz)]

/-- rights behind turns -/
structure TurnOk (r : Rt) : Prop where
  right : r.right = true
  owner : r.owner = annaB
  file : r.file = notesB
  names : ∀ u ∈ r.rd ++ r.wr, u ∈ whoList
def turnP (r : Rt) (t : Int × Int) : Rt × Int := if pickZ t.1 3 = 0 then r.grant (whoB t.2) false else if pickZ t.1 3 = 1 then r.grant (whoB t.2) true else r.revoke (whoB t.2)
def turn1 (r : Rt) (t : Int × Int) : Rt := if (turnP r t).2 = 0 then (turnP r t).1 else r
def newR8 : Rt := ⟨annaB, notesB, 0, [], []⟩
def turnedP (l : List (Int × Int)) : Rt := (l.take 40).foldl turn1 newR8
theorem Rt.grant_mem {r : Rt} {u : ByteArray} {wt : Bool} (h : (r.grant u wt).2 = 0) : ∀ x ∈ (r.grant u wt).1.rd ++ (r.grant u wt).1.wr, x = u ∨ x ∈ r.rd ++ r.wr := by
  unfold Rt.grant at h ⊢
  by_cases h1 : r.asked u ≠ 0
  · rw [if_pos h1] at h; exact absurd h h1
  rw [if_neg h1] at h ⊢
  by_cases h2 : u = r.owner ∨ r.other u = true
  · rw [if_pos h2] at h; simp at h
  rw [if_neg h2] at h ⊢
  by_cases h3 : 5 ≤ r.rd.length + r.wr.length
  · rw [if_pos h3] at h; simp at h
  rw [if_neg h3]
  intro x hx
  cases wt with
  | true =>
    rcases List.mem_append.1 hx with hx | hx
    · exact Or.inr (List.mem_append_left _ hx)
    · exact (mem_insB.1 hx).imp id fun h => List.mem_append_right _ h
  | false =>
    rcases List.mem_append.1 hx with hx | hx
    · exact (mem_insB.1 hx).imp id fun h => List.mem_append_left _ h
    · exact Or.inr (List.mem_append_right _ hx)
theorem Rt.revoke_mem {r : Rt} {u : ByteArray} (h : (r.revoke u).2 = 0) : ∀ x ∈ (r.revoke u).1.rd ++ (r.revoke u).1.wr, x ∈ r.rd ++ r.wr := by
  unfold Rt.revoke at h ⊢
  by_cases h1 : r.asked u ≠ 0
  · rw [if_pos h1] at h; exact absurd h h1
  rw [if_neg h1] at h ⊢
  by_cases h2 : r.other u = false
  · rw [if_pos h2] at h; simp at h
  rw [if_neg h2] at h ⊢
  by_cases h3 : r.epoch = 7
  · rw [if_pos h3] at h; simp at h
  rw [if_neg h3]
  intro x hx
  rcases List.mem_append.1 hx with hx | hx
  · exact List.mem_append_left _ (List.mem_filter.1 hx).1
  · exact List.mem_append_right _ (List.mem_filter.1 hx).1
theorem TurnOk.next {r : Rt} (h : TurnOk r) (t : Int × Int) : TurnOk (turn1 r t) ∧ r.epoch ≤ (turn1 r t).epoch := by
  unfold turn1
  by_cases h0 : (turnP r t).2 = 0
  · rw [if_pos h0]
    have hg : ∀ wt, (r.grant (whoB t.2) wt).2 = 0 → TurnOk (r.grant (whoB t.2) wt).1 ∧ r.epoch ≤ (r.grant (whoB t.2) wt).1.epoch := fun wt h0 => by
      obtain ⟨a, b, c, d⟩ := Rt.grant_ok h0
      exact ⟨⟨a, b.trans h.owner, c.trans h.file, fun x hx => by
        rcases Rt.grant_mem h0 x hx with rfl | hx
        · exact whoB_mem _
        · exact h.names x hx⟩, by omega⟩
    unfold turnP at h0 ⊢
    by_cases c0 : pickZ t.1 3 = 0
    · rw [if_pos c0] at h0 ⊢; exact hg _ h0
    · rw [if_neg c0] at h0 ⊢
      by_cases c1 : pickZ t.1 3 = 1
      · rw [if_pos c1] at h0 ⊢; exact hg _ h0
      · rw [if_neg c1] at h0 ⊢
        obtain ⟨a, b, c, d⟩ := Rt.revoke_ok h0
        exact ⟨⟨a, b.trans h.owner, c.trans h.file, fun x hx => h.names x (Rt.revoke_mem h0 x hx)⟩, by omega⟩
  · rw [if_neg h0]; exact ⟨h, Int.le_refl _⟩
theorem TurnOk.all {r : Rt} (h : TurnOk r) (l : List (Int × Int)) : TurnOk (l.foldl turn1 r) ∧ r.epoch ≤ (l.foldl turn1 r).epoch := by
  induction l generalizing r with
  | nil => exact ⟨h, Int.le_refl _⟩
  | cons t l ih =>
    obtain ⟨h1, h2⟩ := h.next t
    obtain ⟨h3, h4⟩ := ih h1
    exact ⟨h3, by rw [List.foldl_cons]; omega⟩
theorem newR8_ok : TurnOk newR8 := ⟨right_new name_anna name_notes, rfl, rfl, fun u hu => by simp [newR8] at hu⟩
theorem turnedP_ok (l : List (Int × Int)) : TurnOk (turnedP l) := (newR8_ok.all _).1
theorem signL_len (n : Nat) : (signL n).length = n := by unfold signL; simp
theorem signL_get {n i : Nat} (h : i < n) : (signL n)[i]? = some (signN i) := by
  unfold signL
  rw [List.getElem?_map, List.getElem?_range h]; rfl
theorem TurnOk.bld {r : Rt} (h : TurnOk r) {root : Nat} (hroot : root < 5) {kn : Knowns} (hk : ∀ u ∈ whoList, pubOf kn u = .ok (pkOf u)) : Bld (secOf annaB) r (rootN root) (signL (r.epoch + 1).toNat) kn pkOf := by
  have hg := Rt.right_good h.right
  have hlo := hg.lo
  have hhi := hg.hi
  have hw : ∀ u ∈ others r, u ∈ whoList := fun u hu => h.names u (others_mem.1 hu)
  refine ⟨secOf_is (by decide), secT_is (by decide) (by omega), h.right, by rw [signL_len]; omega, fun s hs => ?_, fun u hu => ⟨hk u (hw u hu), pkOf_is (by have := whoList_size u (hw u hu); omega)⟩, by rw [h.owner]; decide, by rw [h.file]; decide, fun u hu => by have := whoList_size u (hw u hu); omega⟩
  unfold signL at hs
  obtain ⟨i, hi, rfl⟩ := List.mem_map.1 hs
  have := List.mem_range.1 hi
  exact secT_is (by decide) (by omega)
/-- all that law 8 knows -/
def kn8 : Knowns := whoList.map fun u => (u, pkOf u)
theorem kn8_pub : ∀ u ∈ whoList, pubOf kn8 u = .ok (pkOf u) := fun u hu => by
  have := pubOf_known hu (by have := whoList_size u hu; omega) [] [] (fun x hx => by cases hx)
  rw [List.nil_append, List.append_nil] at this
  exact this

/-! ### what is built checks -/
theorem Bld.sig {secret root : ByteArray} {r : Rt} {sg : List ByteArray} {kn : Knowns} {pk : ByteArray → ByteArray} (h : Bld secret r root sg kn pk) (ver : Nat) : toL (builtM secret r ver root sg pk).sig = 103 :: (toL secret ++ 116 :: wtext (bodyM (builtM secret r ver root sg pk))) := by
  show toL (mkB _) = _
  rw [toL_mkB]; rfl
theorem checkM_eq (m : Mt) (pub owner file : ByteArray) : checkM m pub owner file = if rightM m = false ∨ kindL (toL pub) ≠ 117 then 1 else match ofText (bodyM m) with
  | .error _ => 7
  | .ok t => if verifyT (toL pub) t (toL m.sig) ≠ 0 then 7 else if m.r.owner ≠ owner ∨ m.r.file ≠ file then 3 else 0 := by
  unfold checkM
  by_cases hk : kindL (toL pub) = 117
  · cases hr : rightM m with
    | false => simp
    | true =>
      have h1 : (true && (kindL (toL pub) == 117)) = true := by rw [hk]; rfl
      have h2 : ¬ (true = false ∨ kindL (toL pub) ≠ 117) := by simp [hk]
      rw [h1, if_neg h2, if_pos rfl]
      cases ofText (bodyM m) with
      | error e => rfl
      | ok t =>
        by_cases ho : m.r.owner = owner <;> by_cases hf : m.r.file = file <;> by_cases hv : verifyT (toL pub) t (toL m.sig) = 0 <;> simp [ho, hf, hv]
  · have h1 : (rightM m && (kindL (toL pub) == 117)) = false := by
      cases rightM m
      · rfl
      · simpa using hk
    rw [h1, if_pos (Or.inr hk)]; rfl
theorem checkM_ok {m : Mt} {secret : ByteArray} (h : m.good) (hb : (bodyM m).length ≤ 3800) (hs : isT 4 100 (toL secret)) (hsig : toL m.sig = 103 :: (toL secret ++ 116 :: wtext (bodyM m))) (pub : ByteArray) (hp : toL pub = 117 :: toL secret) (owner file : ByteArray) :
    checkM m pub owner file = if m.r.owner ≠ owner ∨ m.r.file ≠ file then 3 else 0 := by
  have hwl := wtext_len_le (t := bodyM m) (by omega)
  have ht := ofText_is (s := bodyM m) (by rw [List.length_cons]; omega)
  have hti := isT_text (s := bodyM m) (n := 3810) (by rw [List.length_cons]; omega) (by omega)
  have hpi := hs.one (k := 117) rfl
  have hSi := hs.two (k := 103) (hti.mono (e := 4) (by omega) (Nat.le_refl _)) rfl (by decide)
  rw [checkM_eq]
  rw [if_neg (by rw [good_rightM h, hp, hpi.kind (by omega) (by omega)]; simp), ht]
  simp only
  have hv : verifyT (toL pub) (116 :: wtext (bodyM m)) (toL m.sig) = 0 := by
    unfold verifyT
    rw [hp, hsig, hpi.right (by omega) (by omega), hti.right (by omega) (by omega), hSi.right (by omega) (by omega)]
    simp
  rw [hv, if_neg (by simp)]
end Go.Proofs.YtckblcfkajpofaaGreatDoor
namespace Go.Proofs.YtckblcfkajpofaaGreatDoor
open Go.RowKit
set_option linter.unusedVariables false
set_option linter.unusedSimpArgs false

theorem wtext_inj {t u : List UInt8} (h : wtext t = wtext u) (ht : t.length < 1000000000000) (hu : u.length < 1000000000000) : t = u := by
  have h1 := wtakeText_put (t := t) (most := 1000000000000) [] (by omega) (by omega)
  have h2 := wtakeText_put (t := u) (most := 1000000000000) [] (by omega) (by omega)
  rw [h, h2] at h1
  cases h1; rfl
theorem bodyM_inj {m n : Mt} (h : bodyM m = bodyM n) (hm : (bodyM m).length < 1000000000000) (hmr : m.r.good) (hnr : n.r.good) (hmv : m.ver < 18446744073709551616) (hnv : n.ver < 18446744073709551616) : m.r = n.r ∧ m.ver = n.ver ∧ m.vf = n.vf ∧ m.bl.map blkL = n.bl.map blkL := by
  have hn : (bodyM n).length < 1000000000000 := by rw [← h]; exact hm
  have k : ∀ t ∈ [putR m.r, wput m.ver, wall (m.vf.map toL), wall (m.bl.map blkL)], t.length < 1000000000000 := fun t ht => Nat.lt_of_le_of_lt (wall_item_le ht) hm
  have h1 := wall_inj h hm
  simp only [List.cons.injEq, and_true] at h1
  obtain ⟨e1, e2, e3, e4⟩ := h1
  exact ⟨putR_inj e1 hmr hnr, wput_inj e2 hmv hnv, map_toL_inj (wall_inj e3 (k _ (by simp))), wall_inj e4 (k _ (by simp))⟩
theorem Bld.sig_eq {secret root : ByteArray} {r : Rt} {sg : List ByteArray} {kn : Knowns} {pk : ByteArray → ByteArray} (h : Bld secret r root sg kn pk) {a b : Nat} (ha : a < 18446744073709551616) (hb : b < 18446744073709551616) :
    (builtM secret r a root sg pk).sig = (builtM secret r b root sg pk).sig ↔ a = b := by
  constructor
  · intro e
    have e1 : toL (builtM secret r a root sg pk).sig = toL (builtM secret r b root sg pk).sig := by rw [e]
    rw [h.sig a, h.sig b] at e1
    have e2 := List.append_cancel_left (List.cons.inj e1).2
    have e3 := (List.cons.inj e2).2
    obtain ⟨_, ga, sa⟩ := h.ok a ha
    obtain ⟨_, gb, sb⟩ := h.ok b hb
    have e4 := wtext_inj e3 (by omega) (by omega)
    exact (bodyM_inj e4 (by omega) (Rt.right_good ga.r) (Rt.right_good gb.r) ha hb).2.1
  · rintro rfl; rfl

/-! ### MetaEpochs -/
theorem turned_more {l m : List (Int × Int)} (hl : l.length ≤ 20) (hm : m.length ≤ 20) : turnedP (l ++ m) = m.foldl turn1 (turnedP l) := by
  unfold turnedP
  rw [List.take_of_length_le (by rw [List.length_append]; omega), List.take_of_length_le (by omega), List.foldl_append]
theorem epochs_le {l m : List (Int × Int)} (hl : l.length ≤ 20) (hm : m.length ≤ 20) : (turnedP l).epoch ≤ (turnedP (l ++ m)).epoch := by
  rw [turned_more hl hm]
  exact ((turnedP_ok l).all m).2
theorem vf_get {secret : ByteArray} {r : Rt} {ver n : Nat} {root : ByteArray} {pk : ByteArray → ByteArray} {i : Nat} (h : i < n) : (builtM secret r ver root (signL n) pk).vf[i]? = some (mkB (117 :: toL (signN i))) := by
  show ((signL n).map fun s => mkB (117 :: toL s))[i]? = _
  rw [List.getElem?_map, signL_get h]; rfl
theorem vf_len {secret : ByteArray} {r : Rt} {ver n : Nat} {root : ByteArray} {pk : ByteArray → ByteArray} : (builtM secret r ver root (signL n) pk).vf.length = n := by
  show ((signL n).map fun s => mkB (117 :: toL s)).length = n
  rw [List.length_map, signL_len]

/-! ### MetaKnown -/
abbrev zoeB : ByteArray := ⟨#[122, 111, 101]⟩
abbrev benB : ByteArray := ⟨#[98, 101, 110]⟩
abbrev cyB : ByteArray := ⟨#[99, 121]⟩
def rotL (b : Nat) : List ByteArray := (List.range 8).map fun i => whoList.getD ((i + b) % 8) ByteArray.empty
theorem rotL_mem {b : Nat} {u : ByteArray} (h : u ∈ whoList) : u ∈ rotL b := by
  obtain ⟨j, hj⟩ := List.getElem?_of_mem h
  have hlt : j < 8 := (List.getElem?_eq_some_iff.1 hj).1
  unfold rotL
  rw [List.mem_map]
  refine ⟨(j + 8 - b % 8) % 8, List.mem_range.2 (Nat.mod_lt _ (by decide)), ?_⟩
  rw [show ((j + 8 - b % 8) % 8 + b) % 8 = j by omega, List.getD_eq_getElem?_getD, hj]; rfl
theorem zoe_not : zoeB ∉ whoList := by
  intro h
  have h2 : zoeB.data.toList ∈ whoList.map fun b => b.data.toList := List.mem_map.2 ⟨_, h, rfl⟩
  revert h2
  have e : (whoList.map fun b => b.data.toList) = [[97, 110, 110, 97], [98, 101, 110], [99, 121], [100, 111, 114, 97], [101, 109, 105, 108], [195, 164, 109, 105, 108], [102, 97, 45, 49], [103]] := rfl
  rw [e]; decide
def knT (b : Nat) : Knowns := [(zoeB, xB)] ++ ((rotL b).map (fun u => (u, pkOf u)) ++ [(benB, pkOf zoeB), (cyB, ⟨#[]⟩)])
theorem knT_pub (b : Nat) : ∀ u ∈ whoList, pubOf (knT b) u = .ok (pkOf u) := fun u hu =>
  pubOf_known (rotL_mem hu) (by have := whoList_size u hu; omega) _ _ (fun x hx e => by
    rw [List.mem_singleton] at hx
    subst hx
    exact zoe_not (by rw [show zoeB = u from e]; exact hu))

/-! ### MetaBack -/
theorem secOf_inj {u w : ByteArray} (hu : u.size ≤ 16) (hw : w.size ≤ 16) (h : secOf u = secOf w) : u = w := by
  have k4 : userB.size = 4 := rfl
  have h1 : toL (secOf u) = toL (secOf w) := by rw [h]
  unfold secOf at h1
  rw [secT_enc (by omega) (by decide), secT_enc (by omega) (by decide)] at h1
  have l1 : (toL userB).length + (toL u).length ≤ 1000 := by rw [toL_len, toL_len]; omega
  have l2 : (toL userB).length + (toL w).length ≤ 1000 := by rw [toL_len, toL_len]; omega
  have h2 := enc_inj h1 (secTm_wf l1 (by decide)) (secTm_wf l2 (by decide))
  unfold secTm at h2
  have h3 := Tm.text.inj (Tm.two.inj (Tm.one.inj h2).2).2.1
  exact toL_inj (List.cons.inj (List.append_cancel_left h3)).2
theorem secOf_kind {u : ByteArray} (h : u.size ≤ 16) : kindL (toL (secOf u)) = 104 := by
  have h1 := secOf_is h
  have h2 : ∃ q, toL (secOf u) = 104 :: q := by
    have k4 : userB.size = 4 := rfl
    unfold secOf
    rw [secT_enc (by omega) (by decide)]
    exact ⟨_, rfl⟩
  obtain ⟨q, hq⟩ := h2
  rw [hq] at h1 ⊢
  exact h1.kind (by omega) (by omega)
/-- the key of another one does not check -/
theorem checkM_other {m : Mt} {secret other : ByteArray} (h : m.good) (hb : (bodyM m).length ≤ 3800) (hs : isT 4 100 (toL secret)) (ho : isT 4 100 (toL other)) (hne : secret ≠ other) (hsig : toL m.sig = 103 :: (toL secret ++ 116 :: wtext (bodyM m))) (pub : ByteArray) (hp : toL pub = 117 :: toL other) (owner file : ByteArray) :
    checkM m pub owner file = 7 := by
  have hwl := wtext_len_le (t := bodyM m) (by omega)
  have ht := ofText_is (s := bodyM m) (by rw [List.length_cons]; omega)
  have hti := isT_text (s := bodyM m) (n := 3810) (by rw [List.length_cons]; omega) (by omega)
  have hpi := ho.one (k := 117) rfl
  have hSi := hs.two (k := 103) (hti.mono (e := 4) (by omega) (Nat.le_refl _)) rfl (by decide)
  rw [checkM_eq]
  rw [if_neg (by rw [good_rightM h, hp, hpi.kind (by omega) (by omega)]; simp), ht]
  simp only
  have hv : verifyT (toL pub) (116 :: wtext (bodyM m)) (toL m.sig) = 7 := by
    unfold verifyT
    rw [hp, hsig, hpi.right (by omega) (by omega), hti.right (by omega) (by omega), hSi.right (by omega) (by omega), if_pos (show (true && true && true) = true from rfl), if_neg]
    rintro ⟨_, e⟩
    have e2 := (List.cons.inj e).2
    rw [List.tail_cons] at e2
    exact hne (toL_inj (List.append_cancel_right e2))
  rw [hv, if_pos (by simp)]
/-- what checks with a key was signed with it -/
theorem checkM_zero {m : Mt} {pub owner file : ByteArray} {q : List UInt8} (hp : toL pub = 117 :: q) (h : checkM m pub owner file = 0) : rightM m = true ∧ ofText (bodyM m) = .ok (116 :: wtext (bodyM m)) ∧ toL m.sig = 103 :: (q ++ 116 :: wtext (bodyM m)) := by
  rw [checkM_eq] at h
  split at h
  · cases h
  · rename_i h1
    cases ht : ofText (bodyM m) with
    | error e => rw [ht] at h; cases h
    | ok t =>
      rw [ht] at h
      have et : t = 116 :: wtext (bodyM m) := by
        unfold ofText at ht
        split at ht
        · cases ht
        · cases ht; rfl
      subst et
      simp only at h
      split at h
      · cases h
      · rename_i hv
        have hv0 : verifyT (toL pub) (116 :: wtext (bodyM m)) (toL m.sig) = 0 := by simpa using hv
        unfold verifyT at hv0
        split at hv0
        · split at hv0
          · rename_i h3
            rw [hp] at h3
            refine ⟨?_, rfl, h3.2⟩
            cases hr : rightM m with
            | true => rfl
            | false => exact absurd (Or.inl hr) h1
          · cases hv0
        · cases hv0

/-! a byte that is spoilt -/
theorem wput_len_mono {a b : Nat} (h : a ≤ b) : (wput a).length ≤ (wput b).length := by
  unfold wput
  rw [List.length_cons, List.length_cons]
  have : (digs a).length ≤ (digs b).length := (digs_len a _).2 (Nat.lt_of_le_of_lt h ((digs_len b _).1 (Nat.le_refl _)))
  omega
theorem wtext_len (t : List UInt8) : (wtext t).length = (wput t.length).length + t.length := by unfold wtext; rw [List.length_append]
theorem wtext_len_inj {t u : List UInt8} (h : (wtext t).length = (wtext u).length) : t.length = u.length := by
  rw [wtext_len, wtext_len] at h
  rcases Nat.le_total t.length u.length with e | e
  · have := wput_len_mono e; omega
  · have := wput_len_mono e; omega
theorem wtext_len_lt {t u : List UInt8} (h : t.length < u.length) : (wtext t).length < (wtext u).length := by
  rw [wtext_len, wtext_len]
  have := wput_len_mono (Nat.le_of_lt h)
  omega
/-- a meta that was signed: bytes of its body and of its signer alone -/
def signedL (q b : List UInt8) : List UInt8 := wall [b, 103 :: (q ++ 116 :: wtext b)]
theorem signedL_eq (q b : List UInt8) : signedL q b = wput 2 ++ (wtext b ++ wtext (103 :: (q ++ 116 :: wtext b))) := by
  unfold signedL wall
  simp
theorem signedL_len {q b c : List UInt8} (h : (signedL q b).length = (signedL q c).length) : b.length = c.length := by
  rw [signedL_eq, signedL_eq] at h
  simp only [List.length_append] at h
  have mono : ∀ x y : List UInt8, x.length < y.length → (wtext (103 :: (q ++ 116 :: wtext x))).length < (wtext (103 :: (q ++ 116 :: wtext y))).length := fun x y hxy =>
    wtext_len_lt (by have := wtext_len_lt hxy; simp only [List.length_cons, List.length_append]; omega)
  rcases Nat.lt_trichotomy b.length c.length with e | e | e
  · have := mono _ _ e; have := wtext_len_lt e; omega
  · exact e
  · have := mono _ _ e; have := wtext_len_lt e; omega
/-- two metas of one signer differ in one byte at most: in none -/
theorem signedL_one {q b c : List UInt8} {i : Nat} (hl : (signedL q b).length = (signedL q c).length) (h : ∀ j, j ≠ i → (signedL q b)[j]? = (signedL q c)[j]?) : b = c := by
  have hbc := signedL_len hl
  have hw : (wtext b).length = (wtext c).length := by rw [wtext_len, wtext_len, hbc]
  -- the first place of the body, and the second
  obtain ⟨P, hP⟩ : ∃ P, (wput b.length).length = P := ⟨_, rfl⟩
  have hPc : (wput c.length).length = P := by rw [← hbc]; exact hP
  obtain ⟨R, hR⟩ : ∃ R, (wput 2).length = R := ⟨_, rfl⟩
  obtain ⟨Q, hQ⟩ : ∃ Q, (wput (103 :: (q ++ 116 :: wtext b)).length).length = Q := ⟨_, rfl⟩
  have hQc : (wput (103 :: (q ++ 116 :: wtext c)).length).length = Q := by
    rw [← hQ]; simp only [List.length_cons, List.length_append, hw]
  have at1 : ∀ x : List UInt8, (wput x.length).length = P → ∀ j, j < x.length → (signedL q x)[R + P + j]? = x[j]? := fun x hx j hj => by
    rw [signedL_eq, List.getElem?_append_right (by omega), hR, List.getElem?_append_left (by rw [wtext_len, hx]; omega)]
    unfold wtext
    rw [List.getElem?_append_right (by omega), hx]
    congr 1; omega
  have at2 : ∀ x : List UInt8, (wput x.length).length = P → (wput (103 :: (q ++ 116 :: wtext x)).length).length = Q → ∀ j, j < x.length → (signedL q x)[R + (P + x.length) + Q + 1 + q.length + 1 + P + j]? = x[j]? := fun x hx hq j hj => by
    rw [signedL_eq, List.getElem?_append_right (by omega), hR, List.getElem?_append_right (by rw [wtext_len, hx]; omega), wtext_len, hx]
    show (wput (103 :: (q ++ 116 :: wtext x)).length ++ (103 :: (q ++ 116 :: wtext x)))[_]? = _
    rw [List.getElem?_append_right (by rw [hq]; omega), hq]
    rw [show R + (P + x.length) + Q + 1 + q.length + 1 + P + j - R - (P + x.length) - Q = (q.length + (1 + P + j)) + 1 by omega, List.getElem?_cons_succ, List.getElem?_append_right (by omega)]
    rw [show q.length + (1 + P + j) - q.length = (P + j) + 1 by omega, List.getElem?_cons_succ]
    unfold wtext
    rw [List.getElem?_append_right (by omega), hx]
    congr 1; omega
  apply List.ext_getElem?
  intro j
  by_cases hj : j < b.length
  · by_cases hi : R + P + j = i
    · have h2 := h (R + (P + b.length) + Q + 1 + q.length + 1 + P + j) (by omega)
      rw [at2 b hP hQ j hj] at h2
      rw [hbc, at2 c hPc hQc j (by omega)] at h2
      exact h2
    · have h1 := h (R + P + j) hi
      rw [at1 b hP j hj, at1 c hPc j (by omega)] at h1
      exact h1
  · rw [List.getElem?_eq_none (by omega), List.getElem?_eq_none (by omega)]
/-- what is spoilt in one byte is not taken, or does not check -/
theorem spoilt {m y : Mt} {q s : List UInt8} {pub owner file : ByteArray} {i : Nat} (hp : toL pub = 117 :: q) (hsig : toL m.sig = 103 :: (q ++ 116 :: wtext (bodyM m))) (hs : s.length = (putM m).length) (hd : ∀ j, j ≠ i → s[j]? = (putM m)[j]?) (hne : s ≠ putM m)
    (ht : takeM s = some y) : checkM y pub owner file ≠ 0 := by
  intro h0
  obtain ⟨h1, _, h3⟩ := checkM_zero hp h0
  obtain ⟨_, h5, _⟩ := takeM_some ht
  have em : putM m = signedL q (bodyM m) := by unfold putM signedL; rw [hsig]
  have ey : s = signedL q (bodyM y) := by rw [← h5]; unfold putM signedL; rw [h3]
  have e := signedL_one (q := q) (b := bodyM y) (c := bodyM m) (i := i) (by rw [← ey, ← em]; exact hs) (fun j hj => by rw [← ey, ← em]; exact hd j hj)
  exact hne (by rw [ey, em, e])
end Go.Proofs.YtckblcfkajpofaaGreatDoor
namespace Go.Proofs.YtckblcfkajpofaaGreatDoor
open Go.RowKit Go.Sort
set_option linter.unusedVariables false
set_option linter.unusedSimpArgs false

set_option maxHeartbeats 400000 in
theorem pick8_calls (c n : Int) (w : World) (h : -9223372036854775808 ≤ c) (h' : c ≤ 9223372036854775807) (hn : 1 ≤ n) (hn' : n ≤ 9223372036854775807) :
    Calls Tryz.prog 45 #[.int .i64 c, .int .i64 n] w fun e w' => e = .returned (.int .i64 (pickZ c n)) ∧ w = w' := by
  by_cases hc : c < 0
  · have e : pickZ c n = -((c + 1).tmod n) := by rw [pickZ, if_pos hc, ← Int.neg_tmod, Int.tmod_eq_emod_of_nonneg (by omega)]
    rw [e]; clear e
    go_enter Tryz.func45, Tryz.ntmps45
    go_wp2
    go_ret
    exact ⟨rfl, rfl⟩
  · have e : pickZ c n = c % n := by rw [pickZ, if_neg hc]
    rw [e]; clear e
    have hc' : 0 ≤ c := by omega
    go_enter Tryz.func45, Tryz.ntmps45
    go_wp2
    go_ret
    exact ⟨rfl, rfl⟩
set_option maxRecDepth 100000 in
set_option maxHeartbeats 800000 in
theorem who8_calls (c : Int) (w : World) (h : -9223372036854775808 ≤ c) (h' : c ≤ 9223372036854775807) :
    Calls Tryz.prog 62 #[.int .i64 c] w fun e w' => e = .returned (.string (whoB c)) ∧ Below w.heap.size w w' := by
  have hp := pickZ_lt c (n := 8) (by omega)
  obtain ⟨p, hpp⟩ : ∃ p, pickZ c 8 = p := ⟨_, rfl⟩
  rw [hpp] at hp
  obtain ⟨hp0, hp1⟩ := hp
  have E : Hid (whoB c = whoList.getD p.toNat ByteArray.empty) := Lib.hid (by rw [whoB, hpp])
  have HP := Lib.hid (fun w => pick8_calls c 8 w h h' (by omega) (by omega))
  rw [hpp] at HP
  clear hpp
  have hc : p = 0 ∨ p = 1 ∨ p = 2 ∨ p = 3 ∨ p = 4 ∨ p = 5 ∨ p = 6 ∨ p = 7 := by omega
  clear hp0 hp1
  rcases hc with rfl | rfl | rfl | rfl | rfl | rfl | rfl | rfl
  all_goals
    go_enter Tryz.func62, Tryz.ntmps62
    go_wp2_with fail
    refine (HP.out _).mono ?_
    rintro e w' ⟨rfl, rfl⟩
    go_wp2_with fail
    go_ret
    exact ⟨by rw [E.out]; rfl, (Below.refl _ _).alloc (Nat.le_refl _) _⟩
/-- what document 5 answers, of a small name and a small number -/
theorem secret_small {u s : ByteArray} {n : Nat} (h : u.size + s.size ≤ 1000) (hn : n < 18446744073709551616) (w : World) :
    Calls Tryz.prog 123 #[.string u, .string s, .int .u64 n] w fun e w' => e = .returned (.tuple #[.string (secT u s n), .int .i64 0]) ∧ Below w.heap.size w w' := by
  have e : exV (secretT (toL u) (toL s) n) = .tuple #[.string (secT u s n), .int .i64 0] := by
    unfold secT
    rw [secretT_eq (by rw [toL_len, toL_len]; exact h) hn]; rfl
  have := rsecret_calls u s n w (by omega) (by omega) hn
  rw [e] at this
  exact this
theorem public_small {s : ByteArray} (h : isT 4 100 (toL s)) (w : World) :
    Calls Tryz.prog 63 #[.string s] w fun e w' => e = .returned (.tuple #[.string (mkB (117 :: toL s)), .int .i64 0]) ∧ Below w.heap.size w w' := by
  have hs : s.size ≤ 100 := by obtain ⟨_, _, _, h3⟩ := h; rw [toL_len] at h3; exact h3
  have := tpublic_calls s w (by omega)
  rw [ofOne_is h rfl (by omega) (by omega)] at this
  exact this
set_option maxRecDepth 100000 in
set_option maxHeartbeats 800000 in
theorem secretOf8_calls (s : ByteArray) (w : World) (hs : s.size ≤ 16) :
    Calls Tryz.prog 47 #[.string s] w fun e w' => e = .returned (.string (secOf s)) ∧ Below w.heap.size w w' := by
  have HC := Lib.hid (fun W => secret_small (u := userB) (s := s) (n := 1) (by have : userB.size = 4 := rfl; omega) (by decide) W)
  obtain ⟨T, hT⟩ : ∃ T, secOf s = T := ⟨_, rfl⟩
  rw [show secT userB s 1 = T from hT] at HC
  rw [hT]
  clear hT
  go_enter Tryz.func47, Tryz.ntmps47
  go_wp2_with fail
  refine (HC.out _).mono ?_
  rintro e w1 ⟨rfl, hb⟩
  have HB := Lib.hid hb
  clear hb
  go_wp2_with fail
  go_ret
  exact ⟨rfl, HB.out⟩
set_option maxRecDepth 100000 in
set_option maxHeartbeats 800000 in
theorem publicOf8_calls (s : ByteArray) (w : World) (hs : s.size ≤ 16) :
    Calls Tryz.prog 60 #[.string s] w fun e w' => e = .returned (.string (pkOf s)) ∧ Below w.heap.size w w' := by
  have HC := Lib.hid (fun W => secretOf8_calls s W hs)
  have HD := Lib.hid (fun W => public_small (secOf_is hs) W)
  obtain ⟨T, hT⟩ : ∃ T, pkOf s = T := ⟨_, rfl⟩
  rw [show mkB (117 :: toL (secOf s)) = T from hT] at HD
  obtain ⟨X, hX⟩ : ∃ X, secOf s = X := ⟨_, rfl⟩
  rw [hX] at HC HD
  rw [hT]
  clear hT hX
  go_enter Tryz.func60, Tryz.ntmps60
  go_wp2_with fail
  refine (HC.out _).mono ?_
  rintro e w1 ⟨rfl, hb⟩
  have HB := Lib.hid hb
  clear hb
  go_wp2_with fail
  refine (HD.out _).mono ?_
  rintro e w2 ⟨rfl, hb⟩
  have HB2 := Lib.hid (HB.out.trans (hb.mono HB.out.size))
  clear hb
  go_wp2_with fail
  go_ret
  exact ⟨rfl, HB2.out⟩
set_option maxRecDepth 100000 in
set_option maxHeartbeats 800000 in
theorem rootOf8_calls (c : Int) (w : World) (h : -9223372036854775808 ≤ c) (h' : c ≤ 9223372036854775807) :
    Calls Tryz.prog 48 #[.int .i64 c] w fun e w' => e = .returned (.string (rootN (pickZ c 5).toNat)) ∧ Below w.heap.size w w' := by
  have hp := pickZ_lt c (n := 5) (by omega)
  have HP := Lib.hid (fun w => pick8_calls c 5 w h h' (by omega) (by omega))
  obtain ⟨p, hpp⟩ : ∃ p : Nat, pickZ c 5 = p := ⟨(pickZ c 5).toNat, by omega⟩
  rw [hpp] at HP hp
  rw [hpp, Int.toNat_natCast]
  have HC := Lib.hid (fun W => secret_small (u := rootU) (s := xB) (n := p) (by decide) (by omega) W)
  obtain ⟨T, hT⟩ : ∃ T, rootN p = T := ⟨_, rfl⟩
  rw [show secT rootU xB p = T from hT] at HC
  rw [hT]
  clear hT hpp
  go_enter Tryz.func48, Tryz.ntmps48
  go_wp2_with fail
  refine (HP.out _).mono ?_
  rintro e w1 ⟨rfl, rfl⟩
  go_wp2_with fail
  refine (HC.out _).mono ?_
  rintro e w1 ⟨rfl, hb⟩
  have HB := Lib.hid hb
  clear hb
  go_wp2_with fail
  go_ret
  exact ⟨rfl, HB.out⟩
theorem signL_succ (k : Nat) : signL (k + 1) = signL k ++ [signN k] := by
  unfold signL; rw [List.range_succ, List.map_append]; rfl
set_option maxRecDepth 100000 in
set_option maxHeartbeats 1000000 in
theorem signersOf8_calls (n : Nat) (w : World) (hn : n ≤ 1000) :
    Calls Tryz.prog 46 #[.int .i64 n] w fun e w' => ∃ v, e = .returned v ∧ w'.ownsRow w.heap.size 9 1 v (signL n).length (strV (signL n)) ∧ Below w.heap.size w w' := by
  have HC := Lib.hid (fun (k : Nat) (hk : k < 1000) W => secret_small (u := signU) (s := xB) (n := k) (by decide) (by omega) W)
  go_enter Tryz.func46, Tryz.ntmps46
  go_wp2_with fail
  go_loopw [3, 4] (fun out i wr => ∃ (k : Nat) (o : List ByteArray), k ≤ n ∧ i = .int .i64 k ∧ o.length = k ∧ Hid (o = signL k) ∧ Hid (wr.ownsRow w.heap.size 9 1 out o.length (strV o) ∧ Below w.heap.size w wr)) (fun _ i _ => n - (intOf i).toNat)
  case atStart => exact ⟨0, [], Nat.zero_le _, rfl, rfl, Lib.hid rfl, Lib.hid ⟨own_nil _ _ _ _, Below.refl _ _⟩⟩
  case round =>
    obtain ⟨k, o, hk, rfl, hol, HE, HO⟩ := hrel
    obtain ⟨D, cd, rfl, _, _⟩ := own_slice HO.out.1
    by_cases hlt : k < n
    · go_wp2_with fail
      refine (HC.out k (by omega) _).mono ?_
      rintro e w1 ⟨rfl, hb⟩
      obtain ⟨p', w3, hrun, ho3, hk3⟩ := append_str (own_below HO.out.1 hb) (secT signU xB k) (by omega) (Nat.le_trans HO.out.2.size hb.size)
      have HX : Hid (w3.ownsRow w.heap.size 9 1 p' (o ++ [secT signU xB k]).length (strV (o ++ [secT signU xB k])) ∧ Below w.heap.size w w3) := Lib.hid ⟨ho3, below_own (HO.out.2.trans (hb.mono HO.out.2.size)) (own_below HO.out.1 hb) hk3⟩
      have HE2 : Hid (o ++ [secT signU xB k] = signL (k + 1)) := Lib.hid (by rw [HE.out, signL_succ]; rfl)
      have hl1 : (o ++ [secT signU xB k]).length = k + 1 := by rw [List.length_append, hol]; rfl
      obtain ⟨T, hT⟩ : ∃ T, secT signU xB k = T := ⟨_, rfl⟩
      rw [hT] at hrun HX HE2 hl1 ⊢
      rw [hol] at hrun
      clear hb ho3 hk3 hT
      go_wp2_with (at_builtin; refine wp_append_run rfl _ _ _ rfl rfl rfl hrun ?_)
      clear hrun
      go_wp2_with fail
      go_roundw
      case rel => exact ⟨k + 1, o ++ [T], by omega, by go_num, hl1, HE2, HX⟩
      case measure => simp [intOf]; omega
    · obtain rfl : k = n := by omega
      go_wp2_with fail
      go_ret
      exact ⟨_, rfl, by rw [← HE.out]; exact HO.out.1, HO.out.2⟩
theorem kn8_len : kn8.length = 8 := rfl
theorem kn8_at {k : Nat} (hk : k < 8) : kn8[k]? = some (whoB k, pkOf (whoB k)) := by
  have hp : pickZ (k : Int) 8 = k := by unfold pickZ; rw [if_neg (by omega)]; omega
  have hl : k < whoList.length := hk
  have hw : whoList[k]? = some (whoB k) := by
    unfold whoB
    rw [hp, Int.toNat_natCast, List.getD_eq_getElem?_getD, List.getElem?_eq_getElem hl]; rfl
  unfold kn8
  rw [List.getElem?_map, hw]; rfl
set_option maxRecDepth 100000 in
set_option maxHeartbeats 2000000 in
theorem known8_calls (w : World) :
    Calls Tryz.prog 49 #[] w fun e w' => ∃ v, e = .returned v ∧ w'.ownsRow w.heap.size 75 2 v kn8.length (pairV kn8) ∧ Below w.heap.size w w' := by
  have HW := Lib.hid (fun (k : Nat) (hk : k < 8) W => who8_calls k W (by omega) (by omega))
  have HP := Lib.hid (fun (k : Nat) W => publicOf8_calls (whoB k) W (by have := whoB_size k; omega))
  go_enter Tryz.func49, Tryz.ntmps49
  go_wp2_with fail
  go_loopw [1, 2] (fun out i wr => ∃ (k : Nat) (o : Knowns), k ≤ 8 ∧ i = .int .i64 k ∧ o.length = k ∧ Hid (o = kn8.take k) ∧ Hid (wr.ownsRow w.heap.size 75 2 out o.length (pairV o) ∧ Below w.heap.size w wr)) (fun _ i _ => 8 - (intOf i).toNat)
  case atStart => exact ⟨0, [], by omega, rfl, rfl, Lib.hid rfl, Lib.hid ⟨World.ownsRow_nil _ _ _ _, Below.refl _ _⟩⟩
  case round =>
    obtain ⟨k, o, hk, rfl, hol, HE, HO⟩ := hrel
    obtain ⟨D, cd, rfl, _, _⟩ := own_slice HO.out.1
    by_cases hlt : k < 8
    · have hkk : (k : Int) < 8 := by omega
      go_wp2_with fail
      refine (HW.out k hlt _).mono ?_
      rintro e w1 ⟨rfl, hb1⟩
      go_wp2_with fail
      refine (HW.out k hlt _).mono ?_
      rintro e w2 ⟨rfl, hb2⟩
      go_wp2_with fail
      refine (HP.out k _).mono ?_
      rintro e w3 ⟨rfl, hb3⟩
      have hbb := hb1.trans ((hb2.trans (hb3.mono hb2.size)).mono hb1.size)
      obtain ⟨p', w4, hrun, ho4, hk4, _⟩ := append_pair Tryz.underlying72 info_kn (own_below HO.out.1 hbb) (whoB k, pkOf (whoB k)) (by omega) (Nat.le_trans HO.out.2.size hbb.size)
      have HX : Hid (w4.ownsRow w.heap.size 75 2 p' (o ++ [(whoB k, pkOf (whoB k))]).length (pairV (o ++ [(whoB k, pkOf (whoB k))])) ∧ Below w.heap.size w w4) := Lib.hid ⟨ho4, below_own (HO.out.2.trans (hbb.mono HO.out.2.size)) (own_below HO.out.1 hbb) hk4⟩
      have HE2 : Hid (o ++ [(whoB k, pkOf (whoB k))] = kn8.take (k + 1)) := Lib.hid (by rw [HE.out, List.take_add_one, kn8_at hlt]; rfl)
      have hl1 : (o ++ [(whoB k, pkOf (whoB k))]).length = k + 1 := by rw [List.length_append, hol]; rfl
      rw [hol] at hrun
      dsimp only at hrun
      obtain ⟨X, hX⟩ : ∃ X, whoB k = X := ⟨_, rfl⟩
      obtain ⟨Y, hY⟩ : ∃ Y, pkOf X = Y := ⟨_, rfl⟩
      simp only [hX, hY] at hrun HX HE2 hl1 ⊢
      clear hb1 hb2 hb3 hbb ho4 hk4 hX hY
      go_wp2_with (at_builtin; refine wp_append_run rfl _ _ _ rfl rfl rfl hrun ?_)
      clear hrun
      go_wp2_with fail
      go_roundw
      case rel => exact ⟨k + 1, o ++ [(X, Y)], by omega, by go_num, hl1, HE2, HX⟩
      case measure => simp [intOf]; omega
    · obtain rfl : k = 8 := by omega
      have HF : Hid (o = kn8) := Lib.hid (by rw [HE.out, List.take_of_length_le (by rw [kn8_len]; omega)])
      go_wp2_with fail
      go_ret
      exact ⟨_, rfl, by rw [← HF.out]; exact HO.out.1, HO.out.2⟩
end Go.Proofs.YtckblcfkajpofaaGreatDoor
