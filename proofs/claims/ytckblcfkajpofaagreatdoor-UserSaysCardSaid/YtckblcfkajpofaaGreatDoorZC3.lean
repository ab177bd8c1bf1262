/- meta: Take: plain law. meta: Build: plain law. Rows of pairs of texts of the call's own: append, and reading. meta: rows. -/
import Derived.Test.YtckblcfkajpofaaGreatDoorZC2
import Derived.Test.YtckblcfkajpofaaGreatDoorZA8
import Derived.Test.YtckblcfkajpofaaGreatDoorZA1
import Derived.Test.YtckblcfkajpofaaGreatDoorZA2
namespace Go.Proofs.YtckblcfkajpofaaGreatDoor
open Go.RowKit
set_option linter.unusedVariables false
set_option linter.unusedSimpArgs false

theorem toL_mkB (l : List UInt8) : toL (mkB l) = l := mkB_list l
def rowsL (s : List UInt8) (many : Nat) : List (List UInt8) := match wtakeAll s many 90000 with
  | .ok l => if l.length = many then l else List.replicate many []
  | .error _ => List.replicate many []
theorem rowsL_len (s : List UInt8) (many : Nat) : (rowsL s many).length = many := by
  unfold rowsL
  split
  · split
    · assumption
    · simp
  · simp
theorem rowsL_small (s : List UInt8) (many : Nat) : ∀ t ∈ rowsL s many, t.length ≤ 90000 := by
  intro t ht
  unfold rowsL at ht
  split at ht
  · rename_i l hl
    split at ht
    · have := (wtakeAll_ok hl).2.2 t ht; omega
    · rw [List.eq_of_mem_replicate ht]; simp
  · rw [List.eq_of_mem_replicate ht]; simp
theorem rowsL_put {l : List (List UInt8)} (h : l.length ≤ 1000) (ht : ∀ t ∈ l, t.length ≤ 90000) : rowsL (wall l) l.length = l := by
  unfold rowsL
  rw [wtakeAll_put (l := l) (many := l.length) (most := 90000) (by omega) (by omega) (fun t h => by have := ht t h; omega)]
  simp
def nthL (l : List (List UInt8)) (i : Nat) : List UInt8 := (l[i]?).getD []
theorem nthL_small {l : List (List UInt8)} (h : ∀ t ∈ l, t.length ≤ 90000) (i : Nat) : (nthL l i).length ≤ 90000 := by
  unfold nthL
  cases hi : l[i]? with
  | none => simp
  | some t => exact h t (List.mem_of_getElem? hi)
def zeroRt : Rt := ⟨⟨#[]⟩, ⟨#[]⟩, 0, [], []⟩
def blkOf (s : List UInt8) : ByteArray × ByteArray := (mkB (nthL (rowsL s 2) 0), mkB (nthL (rowsL s 2) 1))
/-- what is taken of a text, whatever it is -/
def candM (s : List UInt8) : Mt :=
  ⟨(takeR (nthL (rowsL (nthL (rowsL s 2) 0) 4) 0)).getD zeroRt, numOf (nthL (rowsL (nthL (rowsL s 2) 0) 4) 1), exL (wtakeAll (nthL (rowsL (nthL (rowsL s 2) 0) 4) 2) 8 90000),
    (exL (wtakeAll (nthL (rowsL (nthL (rowsL s 2) 0) 4) 3) 5 90000)).map fun row => blkOf (toL row), mkB (nthL (rowsL s 2) 1)⟩
def takeM (s : List UInt8) : Option Mt := if rightM (candM s) = true ∧ putM (candM s) = s then some (candM s) else none
theorem exL_small (s : List UInt8) (many most : Int) (hm : 0 ≤ many) (hm2 : 0 ≤ most) : (exL (wtakeAll s many most)).length ≤ many ∧ ∀ x ∈ exL (wtakeAll s many most), (x.size : Int) ≤ most := by
  cases h : wtakeAll s many most with
  | error e => exact ⟨by simp [exL]; omega, fun x hx => by simp [exL] at hx⟩
  | ok l =>
    obtain ⟨_, h2, h3⟩ := wtakeAll_ok h
    refine ⟨by simp only [exL, List.length_map]; omega, fun x hx => ?_⟩
    obtain ⟨t, ht, rfl⟩ := List.mem_map.1 hx
    have := h3 t ht
    rw [mkB_size]; omega
theorem numOf_lt (s : List UInt8) : numOf s < 18446744073709551616 := by
  unfold numOf
  split
  · rename_i n r h; exact (wtake_some h).2
  · omega
theorem zeroRt_wf : zeroRt.wf := by
  refine ⟨by decide, by decide, by decide, by decide, fun s hs => ?_, by decide⟩
  simp [zeroRt] at hs
theorem candM_wf (s : List UInt8) : (candM s).wf := by
  have hs := fun (t : List UInt8) (many i : Nat) => nthL_small (rowsL_small t many) i
  refine ⟨?_, numOf_lt _, ?_, fun x hx => ?_, fun b hb => ?_⟩
  · show ((takeR _).getD zeroRt).wf
    cases h : takeR (nthL (rowsL (nthL (rowsL s 2) 0) 4) 0) with
    | none => exact zeroRt_wf
    | some r => exact (Rt.right_good (takeR_some h).1).wf
  · show (mkB _).size ≤ _
    rw [mkB_size]; have := hs s 2 1; omega
  · have := (exL_small (nthL (rowsL (nthL (rowsL s 2) 0) 4) 2) 8 90000 (by omega) (by omega)).2 x hx
    omega
  · obtain ⟨row, _, rfl⟩ := List.mem_map.1 hb
    constructor
    · show (mkB _).size ≤ _
      rw [mkB_size]; have := hs (toL row) 2 0; omega
    · show (mkB _).size ≤ _
      rw [mkB_size]; have := hs (toL row) 2 1; omega
theorem Mt.good.bsize {m : Mt} (h : m.good) (hv : m.ver < 18446744073709551616) : (bodyM m).length ≤ 90000 := by
  have h1 := (Rt.right_good h.r).size
  have h2 := wput_len_le hv
  have h3 := wall_len_le (m.vf.map toL) 4000 (by omega) (by rw [List.length_map]; have := h.nv8; omega) (fun t ht => by
    obtain ⟨v, hv, rfl⟩ := List.mem_map.1 ht
    exact kind_len (h.vf v hv) (by decide))
  have h4 := wall_len_le (m.bl.map blkL) 8100 (by omega) (by rw [List.length_map]; have := h.nb; omega) (fun t ht => by
    obtain ⟨b, hb, rfl⟩ := List.mem_map.1 ht
    exact h.blk b hb)
  rw [List.length_map] at h3 h4
  have h5 : m.vf.length * (9 + 4000) ≤ 8 * (9 + 4000) := Nat.mul_le_mul_right _ h.nv8
  have h6 : m.bl.length * (9 + 8100) ≤ 5 * (9 + 8100) := Nat.mul_le_mul_right _ h.nb
  have e1 := wtext_len_le (t := putR m.r) (by omega)
  have e2 := wtext_len_le (t := wput m.ver) (by omega)
  have e3 := wtext_len_le (t := wall (m.vf.map toL)) (by omega)
  have e4 := wtext_len_le (t := wall (m.bl.map blkL)) (by omega)
  have e0 := wput_len_le (n := 4) (by omega)
  have : (bodyM m).length = (wput 4).length + ((wtext (putR m.r)).length + ((wtext (wput m.ver)).length + ((wtext (wall (m.vf.map toL))).length + (wtext (wall (m.bl.map blkL))).length))) := by
    unfold bodyM
    rw [wall]
    simp
  omega
theorem nthL_zero (a : List UInt8) (l : List (List UInt8)) : nthL (a :: l) 0 = a := rfl
theorem nthL_succ (a : List UInt8) (l : List (List UInt8)) (i : Nat) : nthL (a :: l) (i + 1) = nthL l i := rfl
theorem numOf_put {n : Nat} (h : n < 18446744073709551616) : numOf (wput n) = n := by
  have := wtake_put h []
  rw [List.append_nil] at this
  unfold numOf; rw [this]
theorem blkOf_put {b : ByteArray × ByteArray} (h1 : b.1.size ≤ 90000) (h2 : b.2.size ≤ 90000) : blkOf (blkL b) = b := by
  have e : rowsL (blkL b) 2 = [toL b.1, toL b.2] := rowsL_put (l := [toL b.1, toL b.2]) (by simp) (fun t ht => by
    simp only [List.mem_cons, List.not_mem_nil, or_false] at ht
    rcases ht with rfl | rfl
    · rw [toL_len]; exact h1
    · rw [toL_len]; exact h2)
  unfold blkOf
  rw [e, nthL_zero, nthL_succ, nthL_zero, list_mkB, list_mkB]
theorem candM_put {m : Mt} (h : m.good) (hv : m.ver < 18446744073709551616) : candM (putM m) = m := by
  have hb := h.bsize hv
  have hsg := kind_len h.sig (by decide)
  have e0 : rowsL (putM m) 2 = [bodyM m, toL m.sig] := rowsL_put (l := [bodyM m, toL m.sig]) (by simp) (fun t ht => by
    simp only [List.mem_cons, List.not_mem_nil, or_false] at ht
    rcases ht with rfl | rfl <;> omega)
  have e1 : rowsL (bodyM m) 4 = [putR m.r, wput m.ver, wall (m.vf.map toL), wall (m.bl.map blkL)] := rowsL_put (l := [putR m.r, wput m.ver, wall (m.vf.map toL), wall (m.bl.map blkL)]) (by simp) (fun t ht => by have := h.parts hv t ht; omega)
  have e2 : wtakeAll (wall (m.vf.map toL)) 8 90000 = .ok (m.vf.map toL) := wtakeAll_put (by rw [List.length_map]; have := h.nv8; omega) (by rw [List.length_map]; have := h.nv8; omega) (fun t ht => by
    obtain ⟨v, hv, rfl⟩ := List.mem_map.1 ht
    have := kind_len (h.vf v hv) (by decide)
    omega)
  have e3 : wtakeAll (wall (m.bl.map blkL)) 5 90000 = .ok (m.bl.map blkL) := wtakeAll_put (by rw [List.length_map]; have := h.nb; omega) (by rw [List.length_map]; have := h.nb; omega) (fun t ht => by
    obtain ⟨b, hb, rfl⟩ := List.mem_map.1 ht
    have := h.blk b hb
    omega)
  unfold candM
  rw [e0]
  simp only [nthL_zero, nthL_succ]
  rw [e1]
  simp only [nthL_zero, nthL_succ]
  rw [takeR_put h.r, numOf_put hv, exL_ok e2, exL_ok e3, map_mkB_toL, list_mkB, List.map_map, List.map_map]
  have e4 : m.bl.map (((fun row => blkOf (toL row)) ∘ mkB) ∘ blkL) = m.bl := by
    have : ∀ b ∈ m.bl, (((fun row => blkOf (toL row)) ∘ mkB) ∘ blkL) b = b := fun b hb => by
      show blkOf (toL (mkB (blkL b))) = b
      rw [show toL (mkB (blkL b)) = blkL b from mkB_list _]
      exact blkOf_put (by have := h.names b hb; omega) (by have := kind_len (h.bl b hb) (by decide); rw [toL_len] at this; omega)
    exact (List.map_congr_left this).trans (List.map_id _)
  rw [e4]
  rfl
theorem takeM_put {m : Mt} (h : rightM m = true) (hv : m.ver < 18446744073709551616) : takeM (putM m) = some m := by
  unfold takeM
  rw [candM_put (rightM_good h) hv, if_pos ⟨h, rfl⟩]
theorem takeM_some {s : List UInt8} {m : Mt} (h : takeM s = some m) : rightM m = true ∧ putM m = s ∧ m.ver < 18446744073709551616 := by
  unfold takeM at h
  split at h
  · rename_i hh; cases h; exact ⟨hh.1, hh.2, numOf_lt _⟩
  · cases h
theorem takeM_none {s : List UInt8} (h : takeM s = none) {m : Mt} (hr : rightM m = true) (hv : m.ver < 18446744073709551616) : putM m ≠ s := by
  rintro rfl; rw [takeM_put hr hv] at h; cases h
end Go.Proofs.YtckblcfkajpofaaGreatDoor
namespace Go.Proofs.YtckblcfkajpofaaGreatDoor
open Go.RowKit
set_option linter.unusedVariables false
set_option linter.unusedSimpArgs false

def takesB (secret root : ByteArray) (r : Rt) (sg : List ByteArray) : Bool := rightT (toL secret) && (rightT (toL root) && (r.right && (decide ((sg.length : Int) = r.epoch + 1) && !sg.any (fun s => !rightT (toL s)))))
def pubE (s : ByteArray) : Except Int ByteArray := match ofOne 117 (toL s) with
  | .error e => .error e
  | .ok t => .ok (mkB t)
def blkE (r : Rt) (root signer : ByteArray) (p : ByteArray × ByteArray) : Except Int (ByteArray × ByteArray) := match boxR r p.1 root signer p.2 with
  | .error e => .error e
  | .ok b => .ok (p.1, mkB b)
def lastB (r : Rt) (sg : List ByteArray) : ByteArray := sg.getD r.epoch.toNat ⟨#[]⟩
/-- what is built, or what is wrong -/
def buildM (secret : ByteArray) (r : Rt) (ver : Nat) (root : ByteArray) (sg : List ByteArray) (kn : Knowns) : Except Int Mt :=
  if takesB secret root r sg = false then .error 1 else match mapE (pubOf kn) (others r) with
    | .error e => .error e
    | .ok pubs => match mapE pubE sg with
      | .error e => .error e
      | .ok vf => match mapE (blkE r root (lastB r sg)) ((others r).zip pubs) with
        | .error e => .error e
        | .ok bl => match ofText (bodyM ⟨r, ver, vf, bl, ⟨#[]⟩⟩) with
          | .error e => .error e
          | .ok t => match ofTwo 103 (toL secret) t with
            | .error e => .error e
            | .ok g => .ok ⟨r, ver, vf, bl, mkB g⟩
theorem mapE_map {α β : Type} {f : α → Except Int β} {g : α → β} : ∀ {l : List α}, (∀ x ∈ l, f x = .ok (g x)) → mapE f l = .ok (l.map g)
  | [], _ => rfl
  | x :: l, h => by
    rw [mapE_cons, h x List.mem_cons_self, mapE_map fun y hy => h y (List.mem_cons_of_mem _ hy)]
    rfl
theorem hashN_is : ∀ {k d n : Nat} {s : List UInt8}, isT d n s → d + k ≤ 40 → n + k ≤ 4000 → hashN k s = .ok (List.replicate k 104 ++ s) ∧ isT (d + k) (n + k) (List.replicate k 104 ++ s)
  | 0, d, n, s, h, _, _ => ⟨rfl, h⟩
  | k + 1, d, n, s, h, hd, hn => by
    obtain ⟨h1, h2⟩ := hashN_is (k := k) (h.one (k := 104) rfl) (by omega) (by omega)
    have e : List.replicate (k + 1) (104 : UInt8) ++ s = List.replicate k 104 ++ 104 :: s := by
      rw [List.replicate_succ', List.append_assoc]; rfl
    rw [hashN_succ, ofOne_is h rfl (by omega) (by omega), e]
    exact ⟨h1, h2.mono (by omega) (by omega)⟩
def stateL (root : ByteArray) (e : Int) : List UInt8 := List.replicate (7 - e).toNat 104 ++ toL root
theorem stateT_is {root : ByteArray} {e : Int} {d n : Nat} (h : isT d n (toL root)) (h0 : 0 ≤ e) (h7 : e ≤ 7) (hd : d + 7 ≤ 40) (hn : n + 7 ≤ 4000) : stateT (toL root) e = .ok (stateL root e) ∧ isT (d + 7) (n + 7) (stateL root e) := by
  have hr := h.right (by omega) (by omega)
  obtain ⟨h1, h2⟩ := hashN_is (k := (7 - e).toNat) h (by omega) (by omega)
  refine ⟨?_, h2.mono (by omega) (by omega)⟩
  unfold stateT backT
  rw [hr, if_neg (by simp), if_neg (by omega), if_neg (by simp; omega)]
  exact h1
def secondL (r : Rt) (u signer : ByteArray) : List UInt8 := if r.can u true then toL signer else [116, 0]
def boxL (r : Rt) (u root signer p : ByteArray) : List UInt8 := 98 :: (toL p ++ 112 :: (stateL root r.epoch ++ secondL r u signer))
theorem boxR_is {r : Rt} {u root signer p : ByteArray} (hr : isT 4 100 (toL root)) (hs : isT 4 100 (toL signer)) (hp : isT 5 101 (toL p)) (hk : ∃ q, toL p = 117 :: q) (h0 : 0 ≤ r.epoch) (h7 : r.epoch ≤ 7) :
    boxR r u root signer p = .ok (boxL r u root signer p) ∧ isT 13 310 (boxL r u root signer p) := by
  obtain ⟨q, hq⟩ := hk
  obtain ⟨h1, h2⟩ := stateT_is hr h0 h7 (by omega) (by omega)
  have h3 : isT 4 100 (secondL r u signer) := by
    unfold secondL
    split
    · exact hs
    · exact isT_none.mono (by omega) (by omega)
  have h4 := ofTwo_is (k := 112) h2 (h3.mono (e := 11) (by omega) (Nat.le_refl _)) rfl (by decide) (by omega) (by omega)
  have h5 := h2.two (k := 112) (h3.mono (e := 11) (by omega) (Nat.le_refl _)) rfl (by decide)
  rw [hq] at hp
  have h6 := box_is (hp.mono (e := 12) (by omega) (Nat.le_refl _)) h5 (by omega) (by omega)
  have h7 := (hp.mono (e := 12) (by omega) (Nat.le_refl _)).box h5
  unfold boxR boxL
  rw [h1, hq]
  simp only
  have e : (if r.can u true then toL signer else [116, 0]) = secondL r u signer := rfl
  rw [e, h4]
  simp only
  exact ⟨h6, h7.mono (by omega) (by omega)⟩
def builtM (secret : ByteArray) (r : Rt) (ver : Nat) (root : ByteArray) (sg : List ByteArray) (pk : ByteArray → ByteArray) : Mt :=
  ⟨r, ver, sg.map fun s => mkB (117 :: toL s), (others r).map fun u => (u, mkB (boxL r u root (lastB r sg) (pk u))),
    mkB (103 :: (toL secret ++ 116 :: wtext (bodyM ⟨r, ver, sg.map fun s => mkB (117 :: toL s), (others r).map fun u => (u, mkB (boxL r u root (lastB r sg) (pk u))), ⟨#[]⟩⟩)))⟩
theorem zip_map_self {α β γ : Type} (f : α → β) (g : α × β → γ) (l : List α) : (l.zip (l.map f)).map g = l.map fun x => g (x, f x) := by
  induction l with
  | nil => rfl
  | cons x l ih => simp only [List.map_cons, List.zip_cons_cons, ih]
theorem mem_zip_map {α β : Type} {f : α → β} {l : List α} {p : α × β} (h : p ∈ l.zip (l.map f)) : p.1 ∈ l ∧ p.2 = f p.1 := by
  induction l with
  | nil => simp at h
  | cons x l ih =>
    simp only [List.map_cons, List.zip_cons_cons, List.mem_cons] at h
    rcases h with rfl | h
    · exact ⟨List.mem_cons_self, rfl⟩
    · exact ⟨List.mem_cons_of_mem _ (ih h).1, (ih h).2⟩
theorem others_len (r : Rt) : (others r).length = r.rd.length + r.wr.length := by unfold others; rw [sortB_length, List.length_append]
theorem others_mem {r : Rt} {u : ByteArray} : u ∈ others r ↔ u ∈ r.rd ++ r.wr := (sortB_perm (r.rd ++ r.wr)).mem_iff
/-- all there is, and is small -/
structure Bld (secret : ByteArray) (r : Rt) (root : ByteArray) (sg : List ByteArray) (kn : Knowns) (pk : ByteArray → ByteArray) : Prop where
  secret : isT 4 100 (toL secret)
  root : isT 4 100 (toL root)
  right : r.right = true
  len : (sg.length : Int) = r.epoch + 1
  sgs : ∀ s ∈ sg, isT 4 100 (toL s)
  pub : ∀ u ∈ others r, pubOf kn u = .ok (pk u) ∧ isT 5 101 (toL (pk u)) ∧ ∃ q, toL (pk u) = 117 :: q
  owner : r.owner.size ≤ 10
  file : r.file.size ≤ 10
  names : ∀ u ∈ others r, u.size ≤ 10
theorem Bld.last {secret root : ByteArray} {r : Rt} {sg : List ByteArray} {kn : Knowns} {pk : ByteArray → ByteArray} (h : Bld secret r root sg kn pk) : lastB r sg ∈ sg ∧ sg[r.epoch.toNat]? = some (lastB r sg) := by
  have hg := Rt.right_good h.right
  have hl := h.len
  have h0 := hg.lo
  have hlt : r.epoch.toNat < sg.length := by omega
  have e : sg[r.epoch.toNat]? = some (lastB r sg) := by
    unfold lastB
    rw [List.getD_eq_getElem?_getD, List.getElem?_eq_getElem hlt]; rfl
  exact ⟨List.mem_of_getElem? e, e⟩
theorem body_small {r : Rt} {ver : Nat} {vf : List ByteArray} {bl : List (ByteArray × ByteArray)} {sig : ByteArray} (hr : r.good) (hv : ver < 18446744073709551616) (ho : r.owner.size ≤ 10) (hf : r.file.size ≤ 10) (hrd : ∀ s ∈ r.rd, s.size ≤ 10) (hwr : ∀ s ∈ r.wr, s.size ≤ 10)
    (hvl : vf.length ≤ 8) (hvs : ∀ s ∈ vf, s.size ≤ 101) (hbl : bl.length ≤ 5) (hbs : ∀ b ∈ bl, b.1.size ≤ 10 ∧ b.2.size ≤ 310) : (bodyM ⟨r, ver, vf, bl, sig⟩).length ≤ 3500 := by
  have nm : ∀ l : List ByteArray, (∀ s ∈ l, s.size ≤ 10) → l.length ≤ 5 → (wall (l.map toL)).length ≤ 104 := fun l hl h5 => by
    have := wall_len_le (l.map toL) 10 (by omega) (by rw [List.length_map]; omega) (fun t ht => by
      obtain ⟨s, hs, rfl⟩ := List.mem_map.1 ht
      rw [toL_len]; exact hl s hs)
    rw [List.length_map] at this
    have h3 : l.length * (9 + 10) ≤ 5 * (9 + 10) := Nat.mul_le_mul_right _ h5
    omega
  have hlen := hr.len
  have r1 : (putR r).length ≤ 574 := by
    have := wall_len_le [toL r.owner, toL r.file, wput r.epoch.toNat, wall (r.rd.map toL), wall (r.wr.map toL)] 104 (by omega) (by simp) (fun t ht => by
      simp only [List.mem_cons, List.not_mem_nil, or_false] at ht
      rcases ht with rfl | rfl | rfl | rfl | rfl
      · rw [toL_len]; omega
      · rw [toL_len]; omega
      · have := wput_len_le (n := r.epoch.toNat) (by have := hr.hi; omega); omega
      · exact nm _ hrd (by omega)
      · exact nm _ hwr (by omega))
    simp only [List.length_cons, List.length_nil] at this
    unfold putR; omega
  have r2 := wput_len_le hv
  have r3 : (wall (vf.map toL)).length ≤ 889 := by
    have := wall_len_le (vf.map toL) 101 (by omega) (by rw [List.length_map]; omega) (fun t ht => by
      obtain ⟨s, hs, rfl⟩ := List.mem_map.1 ht
      rw [toL_len]; exact hvs s hs)
    rw [List.length_map] at this
    have h3 : vf.length * (9 + 101) ≤ 8 * (9 + 101) := Nat.mul_le_mul_right _ hvl
    omega
  have r4 : (wall (bl.map blkL)).length ≤ 1789 := by
    have := wall_len_le (bl.map blkL) 347 (by omega) (by rw [List.length_map]; omega) (fun t ht => by
      obtain ⟨b, hb, rfl⟩ := List.mem_map.1 ht
      obtain ⟨b1, b2⟩ := hbs b hb
      have e1 := wtext_len_le (t := toL b.1) (by rw [toL_len]; omega)
      have e2 := wtext_len_le (t := toL b.2) (by rw [toL_len]; omega)
      have e0 := wput_len_le (n := 2) (by omega)
      rw [toL_len] at e1 e2
      have : (blkL b).length = (wput 2).length + ((wtext (toL b.1)).length + (wtext (toL b.2)).length) := by unfold blkL; rw [wall]; simp
      omega)
    rw [List.length_map] at this
    have h3 : bl.length * (9 + 347) ≤ 5 * (9 + 347) := Nat.mul_le_mul_right _ hbl
    omega
  have e1 := wtext_len_le (t := putR r) (by omega)
  have e2 := wtext_len_le (t := wput ver) (by omega)
  have e3 := wtext_len_le (t := wall (vf.map toL)) (by omega)
  have e4 := wtext_len_le (t := wall (bl.map blkL)) (by omega)
  have e0 := wput_len_le (n := 4) (by omega)
  have : (bodyM ⟨r, ver, vf, bl, sig⟩).length = (wput 4).length + ((wtext (putR r)).length + ((wtext (wput ver)).length + ((wtext (wall (vf.map toL))).length + (wtext (wall (bl.map blkL))).length))) := by
    unfold bodyM
    rw [wall]
    simp
  omega
theorem Bld.ok {secret root : ByteArray} {r : Rt} {sg : List ByteArray} {kn : Knowns} {pk : ByteArray → ByteArray} (h : Bld secret r root sg kn pk) (ver : Nat) (hv : ver < 18446744073709551616) :
    buildM secret r ver root sg kn = .ok (builtM secret r ver root sg pk) ∧ (builtM secret r ver root sg pk).good ∧ (bodyM (builtM secret r ver root sg pk)).length ≤ 3500 := by
  have hg := Rt.right_good h.right
  have hlo := hg.lo
  have hhi := hg.hi
  have hln := h.len
  have hol := others_len r
  have hgl := hg.len
  have hT : takesB secret root r sg = true := by
    unfold takesB
    have : sg.any (fun s => !rightT (toL s)) = false := by
      rw [List.any_eq_false]
      intro s hs
      rw [(h.sgs s hs).right (by omega) (by omega)]; simp
    rw [h.secret.right (by omega) (by omega), h.root.right (by omega) (by omega), h.right, this, decide_eq_true hln]; rfl
  have hP : mapE (pubOf kn) (others r) = .ok ((others r).map pk) := mapE_map fun u hu => (h.pub u hu).1
  have hV : mapE pubE sg = .ok (sg.map fun s => mkB (117 :: toL s)) := mapE_map fun s hs => by
    unfold pubE; rw [ofOne_is (h.sgs s hs) rfl (by omega) (by omega)]
  have hL := h.sgs _ h.last.1
  have hB1 := fun (u : ByteArray) (hu : u ∈ others r) => boxR_is (r := r) (u := u) h.root hL (h.pub u hu).2.1 (h.pub u hu).2.2 hlo hhi
  have hB : mapE (blkE r root (lastB r sg)) ((others r).zip ((others r).map pk)) = .ok ((others r).map fun u => (u, mkB (boxL r u root (lastB r sg) (pk u)))) := by
    rw [mapE_map (g := fun p : ByteArray × ByteArray => (p.1, mkB (boxL r p.1 root (lastB r sg) p.2))) (fun p hp => ?_), zip_map_self]
    obtain ⟨h1, h2⟩ := mem_zip_map hp
    unfold blkE
    rw [h2, (hB1 p.1 h1).1]
  have hbody := body_small (ver := ver) (vf := sg.map fun s => mkB (117 :: toL s)) (bl := (others r).map fun u => (u, mkB (boxL r u root (lastB r sg) (pk u)))) (sig := ⟨#[]⟩) hg hv h.owner h.file
    (fun s hs => h.names s (others_mem.2 (List.mem_append_left _ hs))) (fun s hs => h.names s (others_mem.2 (List.mem_append_right _ hs))) (by rw [List.length_map]; omega) (fun s hs => by
      obtain ⟨x, hx, rfl⟩ := List.mem_map.1 hs
      obtain ⟨_, _, _, h3⟩ := h.sgs x hx
      rw [mkB_size, List.length_cons]; omega) (by rw [List.length_map]; omega) (fun b hb => by
      obtain ⟨u, hu, rfl⟩ := List.mem_map.1 hb
      obtain ⟨_, _, _, h3⟩ := (hB1 u hu).2
      exact ⟨h.names u hu, by show (mkB _).size ≤ _; rw [mkB_size]; exact h3⟩)
  obtain ⟨B, hBo⟩ : ∃ B, bodyM ⟨r, ver, sg.map fun s => mkB (117 :: toL s), (others r).map fun u => (u, mkB (boxL r u root (lastB r sg) (pk u))), ⟨#[]⟩⟩ = B := ⟨_, rfl⟩
  have hb2 : bodyM (builtM secret r ver root sg pk) = B := hBo
  rw [hBo] at hbody
  have hwl := wtext_len_le (t := B) (by omega)
  have ht := ofText_is (s := B) (by rw [List.length_cons]; omega)
  have hti := isT_text (s := B) (n := 3510) (by rw [List.length_cons]; omega) (by omega)
  have hS := ofTwo_is (k := 103) h.secret (hti.mono (e := 4) (by omega) (Nat.le_refl _)) rfl (by decide) (by omega) (by omega)
  have hSi := h.secret.two (k := 103) (hti.mono (e := 4) (by omega) (Nat.le_refl _)) rfl (by decide)
  have hbm : builtM secret r ver root sg pk = ⟨r, ver, sg.map fun s => mkB (117 :: toL s), (others r).map fun u => (u, mkB (boxL r u root (lastB r sg) (pk u))), mkB (103 :: (toL secret ++ 116 :: wtext B))⟩ := by unfold builtM; rw [hBo]
  refine ⟨?_, ?_, by rw [hb2]; exact hbody⟩
  · unfold buildM
    rw [hT, if_neg (by simp), hP]
    simp only
    rw [hV]
    simp only
    rw [hB]
    simp only
    rw [hBo, ht]
    simp only
    rw [hS, hbm]
  · rw [hbm]
    refine ⟨h.right, by show ((List.map _ sg).length : Int) = _; rw [List.length_map]; exact hln, ?_, fun v hv => ?_, ?_, fun b hb => ?_⟩
    · show kindL (toL (mkB _)) = 103
      rw [toL_mkB]; exact hSi.kind (by omega) (by omega)
    · obtain ⟨s, hs, rfl⟩ := List.mem_map.1 hv
      rw [toL_mkB]; exact ((h.sgs s hs).one (k := 117) rfl).kind (by omega) (by omega)
    · show List.map _ (List.map _ (others r)) = others r
      rw [List.map_map]
      exact (List.map_congr_left fun u _ => rfl).trans (List.map_id _)
    · obtain ⟨u, hu, rfl⟩ := List.mem_map.1 hb
      show kindL (toL (mkB _)) = 98
      rw [toL_mkB]
      exact ((hB1 u hu).2 : isT 13 310 (98 :: _)).kind (by omega) (by omega)
end Go.Proofs.YtckblcfkajpofaaGreatDoor
namespace Go.Proofs.YtckblcfkajpofaaGreatDoor
open Go.RowKit Go.Sort
set_option linter.unusedVariables false
set_option linter.unusedSimpArgs false

def pairV (l : List (ByteArray × ByteArray)) : List Value := l.flatMap twoV
theorem pairV_get {l : List (ByteArray × ByteArray)} {i : Nat} {x : ByteArray × ByteArray} (h : l[i]? = some x) {j : Nat} (hj : j < 2) : (pairV l)[i * 2 + j]? = (twoV x)[j]? := by
  unfold pairV
  induction l generalizing i with
  | nil => simp at h
  | cons y l ih =>
    rw [List.flatMap_cons]
    cases i with
    | zero => simp at h; subst h; rw [List.getElem?_append_left (by show 0 * 2 + j < 2; omega)]; congr 1; omega
    | succ i =>
      rw [List.getElem?_append_right (by show 2 ≤ _; omega)]
      have := ih (i := i) (by simpa using h)
      rw [← this]
      congr 1
      show (i + 1) * 2 + j - 2 = _
      omega
theorem pairV_snoc (l : List (ByteArray × ByteArray)) (x : ByteArray × ByteArray) : pairV (l ++ [x]) = pairV l ++ twoV x := by simp [pairV]
theorem pairV_length (l : List (ByteArray × ByteArray)) : (pairV l).length = l.length * 2 := by
  unfold pairV
  induction l with
  | nil => rfl
  | cons x l ih => rw [List.flatMap_cons, List.length_append, ih, List.length_cons]; show 2 + _ = _; omega
theorem rows_own {w : World} {base : Nat} {e : TypeId} {v : Value} {l : List (ByteArray × ByteArray)} (h : w.ownsRow base e 2 v l.length (pairV l)) : rowsOf 2 twoV w v l := by
  rcases h.2 with ⟨rfl, h0⟩ | ⟨g, cap, cur, rfl, hb, hg, hnc, hcm, hcs, htake⟩
  · have : l = [] := List.eq_nil_of_length_eq_zero h0
    subst this; exact ⟨none, 0, rfl, Nat.le_refl _, by simp, fun h => absurd h (Nat.lt_irrefl 0)⟩
  · refine ⟨_, cap, rfl, hnc, by unfold maxLen at hcm; omega, fun h0 => ⟨g, 0, rfl, fun i x hx j u hu => ?_⟩⟩
    have hj : j < 2 := (List.getElem?_eq_some_iff.1 hu).1
    rw [Nat.zero_add, cell_of_row w g _ cur e (0, 0) hg]
    have h1 : (pairV l)[i * 2 + j]? = some u := (pairV_get hx hj).trans hu
    rw [← htake, List.getElem?_take] at h1
    split at h1
    · simpa using h1
    · cases h1
/-- one pair more behind a row of the call's own -/
theorem append_pair {tS tE : TypeId} (hu : Tryz.prog.underlying tS = some (.slice tE)) (hinfo : (Tryz.prog.info? tE).map (fun i => (i.zero, i.size, i.bytes)) = some (some (.agg #[.string ⟨#[]⟩, .string ⟨#[]⟩]), 2, 32)) {w : World} {base : Nat} {v : Value} {l : List (ByteArray × ByteArray)}
    (ho : w.ownsRow base tE 2 v l.length (pairV l)) (x : ByteArray × ByteArray) (hl : l.length ≤ 100000) (hb : base ≤ w.heap.size) :
    ∃ v' w', (Builtin.append_ #[tS, tS] tS #[v, .slice (some ⟨w.heap.size, 0, none⟩) 1 1]).run Tryz.prog (w.alloc (.cells #[.string x.1, .string x.2] tE)) = .ok v' w' ∧
      w'.ownsRow base tE 2 v' (l ++ [x]).length (pairV (l ++ [x])) ∧ Keep (fun i => v.ownBlock = some i) w w' ∧ (v'.ownBlock = v.ownBlock ∨ v'.ownBlock = some (w.heap.size + 1)) := by
  obtain ⟨i0, hi, hz0, hz1, hz2⟩ := info_parts hinfo
  obtain ⟨v', w', hr, h2, h3, h4, h5⟩ := run_append_own_at (P := Tryz.prog) (w.alloc (.cells #[.string x.1, .string x.2] tE)) base tS tS tE i0 (.agg #[.string ⟨#[]⟩, .string ⟨#[]⟩]) 2 32 hu hi hz0 hz1 hz2 rfl (by decide) v l.length (pairV l) (ho.alloc _)
    ⟨w.heap.size, 0, none⟩ 1 1 (twoV x) rfl (fun j u hj => by
      rw [add_at, Nat.zero_add, cell_of_row _ _ _ _ _ _ ((get_alloc _ _ _).trans (if_pos rfl)), ← Array.getElem?_toList]
      exact hj) (by intro u hu; simp only [twoV, List.mem_cons, List.not_mem_nil, or_false] at hu; rcases hu with rfl | rfl <;> rfl) (by unfold maxLen; omega) (by omega) (by rw [size_alloc]; omega)
  refine ⟨v', w', hr, ?_, (Keep.alloc _ w _).same (Keep.of_grown h3 fun i e => e), by rw [size_alloc] at h5; exact h5⟩
  rw [pairV_snoc, List.length_append]
  exact h2
theorem info_blk : (Tryz.prog.info? 93).map (fun i => (i.zero, i.size, i.bytes)) = some (some (.agg #[.string ⟨#[]⟩, .string ⟨#[]⟩]), 2, 32) := by kernel_rfl
theorem info_kn : (Tryz.prog.info? 75).map (fun i => (i.zero, i.size, i.bytes)) = some (some (.agg #[.string ⟨#[]⟩, .string ⟨#[]⟩]), 2, 32) := by kernel_rfl
end Go.Proofs.YtckblcfkajpofaaGreatDoor
namespace Go.Proofs.YtckblcfkajpofaaGreatDoor
open Go.RowKit Go.Sort
set_option linter.unusedVariables false
set_option linter.unusedSimpArgs false

theorem rowsL_bad {s : List UInt8} {many : Nat} (h : ∀ l, wtakeAll s many 90000 = .ok l → l.length ≠ many) : rowsL s many = List.replicate many [] := by
  unfold rowsL
  cases e : wtakeAll s many 90000 with
  | error er => rfl
  | ok l =>
    show (if l.length = many then l else List.replicate many []) = _
    rw [if_neg (h l e)]
theorem rowsL_good {s : List UInt8} {many : Nat} {l : List (List UInt8)} (h : wtakeAll s many 90000 = .ok l) (hl : l.length = many) : rowsL s many = l := by
  unfold rowsL; rw [h]
  show (if l.length = many then l else List.replicate many []) = _
  rw [if_pos hl]
set_option maxRecDepth 100000 in
set_option maxHeartbeats 1000000 in
theorem mrows_calls (s : ByteArray) (many : Nat) (w : World) (hs : s.size ≤ 1000000000) (hm : 1 ≤ many) (hm2 : many ≤ 8) :
    Calls Tryz.prog 164 #[.string s, .int .i64 many] w fun e w' => ∃ v, e = .returned v ∧ w'.ownsRow w.heap.size 9 1 v many (strV ((rowsL (toL s) many).map mkB)) ∧ Below w.heap.size w w' := by
  have hc := takeall_calls s many 90000 w hs (by omega) (by omega)
  have hmk := fun W => run_make_row' (P := Tryz.prog) 35 9 (.string ⟨#[]⟩) 16 Tryz.underlying35 info9 rfl .i64 .i64 many (by omega) (by omega) W
  rw [strV_made] at hmk
  have hmade : ∀ W : World, w.heap.size ≤ W.heap.size → (W.alloc (.cells (strV (List.replicate many ⟨#[]⟩)).toArray 9)).ownsRow w.heap.size 9 1 (.slice (some ⟨W.heap.size, 0, none⟩) many many) many (strV ((List.replicate many ([] : List UInt8)).map mkB)) := fun W hW => by
    have := owns_full (w := W.alloc (.cells (strV (List.replicate many ⟨#[]⟩)).toArray 9)) (B := w.heap.size) (g := W.heap.size) (l := List.replicate many ⟨#[]⟩) ((get_alloc _ _ _).trans (if_pos rfl)) hW (by simp; omega)
    rw [List.length_replicate] at this
    rw [List.map_replicate]
    exact this
  have HMADE := Lib.hid hmade
  obtain ⟨G, hG⟩ : ∃ G, wtakeAll (toL s) many 90000 = G := ⟨_, rfl⟩
  rw [hG] at hc
  have HC := Lib.hid hc
  cases G with
  | error er =>
    have hbad := rowsL_bad (s := toL s) (many := many) (fun l e => by rw [hG] at e; cases e)
    rw [hbad]
    have f2 : (er != 0) = true := by rcases wtakeAll_err hG with rfl | rfl <;> rfl
    simp only [exErr] at HC
    clear hG hbad hc hmade
    go_enter Tryz.func164, Tryz.ntmps164
    go_wp2_with fail
    refine HC.out.mono ?_
    rintro e w1 ⟨v, rfl, ho, hb⟩
    obtain ⟨A, c, rfl, _, _⟩ := own_slice ho
    have HB := Lib.hid hb
    clear ho hb
    go_wp2_with fail
    go_ret
    exact ⟨_, rfl, HMADE.out _ HB.out.size, HB.out.alloc HB.out.size _⟩
  | ok l =>
    simp only [exErr] at HC
    have hxl : (exL (.ok l : Except Int (List (List UInt8)))) = l.map mkB := rfl
    rw [hxl] at HC
    by_cases hl : l.length = many
    · have hgood := rowsL_good hG hl
      rw [hgood]
      have hlm : (l.map mkB).length = many := by rw [List.length_map]; exact hl
      rw [hlm] at HC
      clear hG hgood hc hmade hl hlm hxl hmk
      go_enter Tryz.func164, Tryz.ntmps164
      go_wp2_with fail
      refine HC.out.mono ?_
      rintro e w1 ⟨v, rfl, ho, hb⟩
      obtain ⟨A, c, rfl, _, _⟩ := own_slice ho
      have HO := Lib.hid ho
      have HB := Lib.hid hb
      have e1 : ((many : Int) != (many : Int)) = false := by simp
      clear ho hb
      go_wp2_with fail
      go_ret
      exact ⟨_, rfl, HO.out, HB.out⟩
    · have hbad := rowsL_bad (s := toL s) (many := many) (fun l' e => by rw [hG] at e; cases e; exact hl)
      rw [hbad]
      obtain ⟨n, hn⟩ : ∃ n, (l.map mkB).length = n := ⟨_, rfl⟩
      have hnm : (n : Int) ≠ many := by rw [← hn, List.length_map]; omega
      have e0 : ((n : Int) == (many : Int)) = false := by rw [beq_eq_false_iff_ne]; exact hnm
      have e1 : ((n : Int) != (many : Int)) = true := by simp only [bne, e0]; rfl
      rw [hn] at HC
      clear hG hbad hc hmade hl hn hxl hnm
      go_enter Tryz.func164, Tryz.ntmps164
      go_wp2_with fail
      refine HC.out.mono ?_
      rintro e w1 ⟨v, rfl, ho, hb⟩
      obtain ⟨A, c, rfl, _, _⟩ := own_slice ho
      have HB := Lib.hid hb
      clear ho hb
      go_wp2_with fail
      go_ret
      exact ⟨_, rfl, HMADE.out _ HB.out.size, HB.out.alloc HB.out.size _⟩
end Go.Proofs.YtckblcfkajpofaaGreatDoor
