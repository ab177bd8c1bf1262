/- law 8: MetaSigned: plain law. -/
import Derived.Test.YtckblcfkajpofaaGreatDoorZC4
namespace Go.Proofs.YtckblcfkajpofaaGreatDoor
open Go.RowKit
set_option linter.unusedVariables false
set_option linter.unusedSimpArgs false

/-- right, but not signed so -/
theorem checkM_seven {m : Mt} {pub owner file : ByteArray} {q : List UInt8} (hg : m.good) (hp : toL pub = 117 :: q) (hk : kindL (toL pub) = 117) (hne : toL m.sig ≠ 103 :: (q ++ 116 :: wtext (bodyM m))) : checkM m pub owner file = 7 := by
  rw [checkM_eq]
  rw [if_neg (by rw [good_rightM hg, hk]; simp)]
  cases ht : ofText (bodyM m) with
  | error e => rfl
  | ok t =>
    have et : t = 116 :: wtext (bodyM m) := by
      unfold ofText at ht
      split at ht
      · cases ht
      · cases ht; rfl
    subst et
    simp only
    rw [if_pos]
    intro h0
    unfold verifyT at h0
    split at h0
    · split at h0
      · rename_i h3
        rw [hp] at h3
        exact hne h3.2
      · cases h0
    · cases h0
theorem sig_body {q a b : List UInt8} (h : (103 : UInt8) :: (q ++ 116 :: wtext a) = 103 :: (q ++ 116 :: wtext b)) (ha : a.length < 1000000000000) (hb : b.length < 1000000000000) : a = b :=
  wtext_inj (List.cons.inj (List.append_cancel_left (List.cons.inj h).2)).2 ha hb
/-- a right meta whose body is another one than what was signed -/
theorem checkM_body {m n : Mt} {secret pub owner file : ByteArray} (hn : n.good) (hnv : n.ver < 18446744073709551616) (hmb : (bodyM m).length ≤ 1000000) (hs : isT 4 100 (toL secret)) (hp : toL pub = 117 :: toL secret) (hsig : toL m.sig = 103 :: (toL secret ++ 116 :: wtext (bodyM m))) (he : n.sig = m.sig) (hb : bodyM n ≠ bodyM m) : checkM n pub owner file = 7 :=
  checkM_seven hn hp (by rw [hp]; exact (hs.one (k := 117) rfl).kind (by omega) (by omega)) (fun e => hb (by
    rw [he, hsig] at e
    have hn2 := hn.size hnv
    exact (sig_body e (by omega) (by omega)).symm))
/-! what is changed -/
theorem good_ver {m : Mt} (h : m.good) (v : Nat) : ({ m with ver := v } : Mt).good := ⟨h.r, h.nv, h.sig, h.vf, h.fst, h.bl⟩
theorem good_file {m : Mt} (h : m.good) {f : ByteArray} (hf : nameR f = true) : ({ m with r := { m.r with file := f } } : Mt).good := by
  refine ⟨?_, h.nv, h.sig, h.vf, h.fst, h.bl⟩
  have h1 := h.r
  obtain ⟨⟨a, b, c, d, e, f', g⟩, hall⟩ := Rt.right_iff.1 h1
  exact Rt.right_iff.2 ⟨⟨a, hf, c, d, e, f', g⟩, hall⟩
theorem good_vf {m : Mt} (h : m.good) {i : Nat} {p : ByteArray} (hp : kindL (toL p) = 117) : ({ m with vf := m.vf.set i p } : Mt).good := by
  refine ⟨h.r, by show ((m.vf.set i p).length : Int) = _; rw [List.length_set]; exact h.nv, h.sig, fun v hv => ?_, h.fst, h.bl⟩
  rcases List.mem_or_eq_of_mem_set hv with h1 | h1
  · exact h.vf v h1
  · rw [h1]; exact hp
theorem good_bl {m : Mt} (h : m.good) {i : Nat} {u t p : ByteArray} (hi : m.bl[i]? = some (u, t)) (hp : kindL (toL p) = 98) : ({ m with bl := m.bl.set i (u, p) } : Mt).good := by
  refine ⟨h.r, h.nv, h.sig, h.vf, ?_, fun b hb => ?_⟩
  · show (m.bl.set i (u, p)).map (·.1) = others m.r
    rw [List.map_set, ← h.fst]
    apply List.ext_getElem?
    intro j
    rw [List.getElem?_set]
    split
    · rename_i e
      subst e
      split
      · rw [List.getElem?_map, hi]; rfl
      · rename_i hl
        exact (List.getElem?_eq_none (by omega)).symm
    · rfl
  · rcases List.mem_or_eq_of_mem_set hb with h1 | h1
    · exact h.bl b h1
    · rw [h1]; exact hp
theorem good_sig {m : Mt} (h : m.good) {s : ByteArray} (hs : kindL (toL s) = 103) : ({ m with sig := s } : Mt).good := ⟨h.r, h.nv, hs, h.vf, h.fst, h.bl⟩
theorem set_ne {α : Type} {l : List α} {i : Nat} {x y : α} (hi : l[i]? = some x) (h : y ≠ x) : l.set i y ≠ l := by
  intro e
  have h1 : (l.set i y)[i]? = l[i]? := by rw [e]
  rw [List.getElem?_set, if_pos rfl, if_pos (List.getElem?_eq_some_iff.1 hi).1, hi] at h1
  exact h (Option.some.inj h1)
theorem pk_sign {u : ByteArray} {i : Nat} (hu : u.size ≤ 16) (hi : i < 18446744073709551616) : pkOf u ≠ mkB (117 :: toL (signN i)) := by
  intro e
  have h1 := (List.cons.inj (mkB_inj e)).2
  have k4 : userB.size = 4 := rfl
  have k5 : signU.size = 4 := rfl
  have k6 : xB.size = 1 := rfl
  unfold secOf signN at h1
  rw [secT_enc (by omega) (by decide), secT_enc (by omega) hi] at h1
  have h2 := enc_inj h1 (secTm_wf (by rw [toL_len, toL_len]; omega) (by decide)) (secTm_wf (by rw [toL_len, toL_len]; omega) hi)
  unfold secTm at h2
  have h3 := Tm.text.inj (Tm.two.inj (Tm.one.inj h2).2).2.1
  have h4 : (117 : UInt8) = 115 := (List.cons.inj h3).1
  revert h4; decide
theorem zoe_box (u root signer : ByteArray) (r : Rt) (hu : u.size ≤ 16) : mkB (98 :: (toL (pkOf u) ++ ofAtom 1)) ≠ mkB (boxL r u root signer (pkOf u)) := by
  intro e
  have h1 := mkB_inj e
  unfold boxL at h1
  have h2 := List.append_cancel_left (List.cons.inj h1).2
  unfold ofAtom at h2
  have h3 : (97 : UInt8) = 112 := (List.cons.inj h2).1
  revert h3; decide
end Go.Proofs.YtckblcfkajpofaaGreatDoor
