/- slices.Insert of one text into a list of one's own. rights.Grant. -/
import Derived.Test.YtgacfkenndhcnaaDoorZA2
import Derived.Test.YtgacfkenndhcnaaDoorLayIn
import Derived.Shelf.Spec.SlicesInsertGrow
import Derived.Deep.RegionWith
import Derived.Test.YtgacfkenndhcnaaDoorZA5
import Derived.Deep.RegionHeld3
namespace Go.Proofs.YtgacfkenndhcnaaDoor
open Go.RowKit Go.Lib
set_option linter.unusedVariables false
set_option linter.unusedSimpArgs false

theorem keep_setCells (w : World) (b : Nat) : ∀ (vs : List Value) (o : Nat), Keep (fun k => k = b) w (w.setCells b o vs) := by
  intro vs
  induction vs generalizing w with
  | nil => intro o; exact Keep.refl _ w
  | cons v r ih => intro o; exact (Keep.setCell (fun k => k = b) w (p := ⟨b, o, none⟩) rfl v).same (ih _ (o + 1))
theorem shape_of_row {w : World} {b : Nat} {cs : Array Value} {t : TypeId} (h : w.heap[b]? = some (.cells cs t (0, 0))) : w.shape? b = some (t, cs.size) := by
  unfold World.shape?; rw [h]
theorem ins_get {l : List ByteArray} {i : Nat} {x : ByteArray} (hi : i ≤ l.length) (k : Nat) : (l.take i ++ x :: l.drop i)[k]? = if k < i then l[k]? else if k = i then some x else l[k - 1]? := by
  by_cases h1 : k < i
  · rw [if_pos h1, List.getElem?_append_left (by simp; omega), List.getElem?_take, if_pos h1]
  · rw [if_neg h1, List.getElem?_append_right (by simp; omega), List.length_take, Nat.min_eq_left hi]
    by_cases h2 : k = i
    · subst h2; simp
    · rw [if_neg h2]
      obtain ⟨d, rfl⟩ : ∃ d, k = i + 1 + d := ⟨k - i - 1, by omega⟩
      rw [show i + 1 + d - i = d + 1 by omega, List.getElem?_cons_succ, List.getElem?_drop]
      congr 1; omega

theorem one_lt {p : Nat → Prop} {α : Type} {x : α} {j : Nat} (h : j < [x].length) (h0 : p 0) : p j := by
  have : j = 0 := by simpa using h
  subst this; exact h0
theorem cell_alloc (w : World) (cs : Array Value) (t : TypeId) (j : Nat) : (w.alloc (.cells cs t)).cell? ⟨w.heap.size, j, none⟩ = cs[j]? := cell_of_row _ _ _ _ _ _ (MapKept.heap_alloc w _).1
/-- one text more in a list of one's own: it may lie where it lay -/
theorem insert_calls {w : World} {base : Nat} {v : Value} {l : List ByteArray} (ho : w.ownsRow base 9 1 v l.length (strV l)) (i : Nat) (hi : i ≤ l.length) (x : ByteArray) (vb : Nat) (hx : w.heap[vb]? = some (.cells #[.string x] 9 (0, 0))) (hne : v.ownBlock ≠ some vb) (hl : l.length ≤ 1000) :
    Calls Tryd.prog 50 #[v, .int .i64 i, .slice (some ⟨vb, 0, none⟩) 1 1] w fun e w' => ∃ v', e = .returned v' ∧ strs w' v' (l.take i ++ x :: l.drop i) ∧ Keep (fun k => v.ownBlock = some k) w w' ∧ (v'.ownBlock = v.ownBlock ∨ v'.ownBlock = some w.heap.size) := by
  have hlen : (l.take i ++ x :: l.drop i).length = l.length + 1 := by simp; omega
  have hv1 : ∀ j v, [Value.string x][j]? = some v → w.cell? ⟨vb, 0 + j, none⟩ = some v := fun j v hj => by
    rw [Nat.zero_add, cell_of_row _ _ _ _ _ _ hx]; rw [← Array.getElem?_toList]; exact hj
  have h1v : ∀ v ∈ [Value.string x], v.oneCell' = true := by simp [Value.oneCell']
  have hgc : ∀ n c, n ≤ maxLen → n ≤ grownCap w n c 9 ∧ grownCap w n c 9 ≤ maxLen := fun n c h => ⟨grownCap_ge w n c _, grownCap_le_maxLen w n c _ h⟩
  have hml : l.length + 1 ≤ maxLen := by unfold maxLen; omega
  rcases ho.2 with ⟨rfl, h0⟩ | ⟨g, cap, cur, rfl, hb, hg, hnc, hcm, hcs, htake⟩
  · -- nothing yet
    have hln : l = [] := List.eq_nil_of_length_eq_zero h0
    subst hln
    obtain rfl : i = 0 := by simpa using hi
    refine (Any2.slices_Insert_string_end_grow Tryd.laysIns none 0 0 vb 0 1 1 [] [.string x] w (by omega) (by omega) (by omega) (by omega) rfl rfl (fun _ => rfl) (fun a h => by cases h) hv1 h1v).mono ?_
    rintro e w' ⟨rfl, rfl⟩
    obtain ⟨q1, q2⟩ := hgc (0 + 1) 0 (by unfold maxLen; omega)
    refine ⟨_, rfl, ⟨_, _, rfl, q1, by simp, fun _ => ⟨w.heap.size, 0, rfl, fun k s hk => ?_⟩⟩, (Keep.drew _ w).same (Keep.alloc _ w.drew _), Or.inr rfl⟩
    have hk0 : k = 0 := by have := (List.getElem?_eq_some_iff.1 hk).1; simp at this; exact this
    subst hk0
    rw [show w.heap.size = w.drew.heap.size from rfl, cell_alloc]
    have hxs : x = s := by simpa using hk
    subst hxs
    rw [Array.getElem?_append_left (by simp)]; rfl
  · have hcg : ∀ j u, (strV l)[j]? = some u → w.cell? ⟨g, j, none⟩ = some u := fun j u hu => by
      rw [cell_of_row w g _ _ _ _ hg, ← Array.getElem?_toList]
      rw [← htake, List.getElem?_take] at hu
      split at hu
      · exact hu
      · cases hu
    have hcell : ∀ j, j < cap → (w.cell? ⟨g, j, none⟩).isSome = true := fun j hj => by
      rw [cell_of_row w g _ _ _ _ hg]; simp; omega
    have hc0 : ∀ j u, (strV l)[j]? = some u → w.cell? ⟨g, 0 + j, none⟩ = some u := fun j u hu => by rw [Nat.zero_add]; exact hcg j u hu
    have hne' : vb ≠ g := fun e => hne (by rw [e]; rfl)
    have hK1 : ∀ (o : Nat) (vs : List Value), Keep (fun k => (Value.slice (some ⟨g, 0, none⟩) l.length cap).ownBlock = some k) w (w.setCells g o vs) := fun o vs => (keep_setCells w g vs o).mono fun k hk => by rw [hk]; rfl
    have h1c : ∀ v ∈ strV l, v.oneCell' = true := strV_one l
    by_cases hroom : l.length + 1 ≤ cap
    · by_cases hil : i < l.length
      · refine (Any2.slices_Insert_string_shift Tryd.laysIns g 0 l.length cap i vb 0 1 1 (strV l) [.string x] w hil (by omega) hroom (by unfold maxLen at hcm; omega) hne' (strV_length l) rfl hc0 (fun j hj => by rw [Nat.zero_add]; exact hcell j (by omega)) (fun j _ => frozen_of_row hg _) hv1 h1c h1v _ _ _ _ (shape_of_row hx) (shape_of_row hg) (by omega) (frozen_of_row hx _) (frozen_of_row hx _)).mono ?_
        rintro e w' ⟨rfl, rfl⟩
        refine ⟨_, rfl, ⟨_, cap, by rw [hlen], by rw [hlen]; exact hroom, by omega, fun _ => ⟨g, 0, rfl, fun k s hk => ?_⟩⟩, ?_, Or.inl rfl⟩
        · rw [ins_get hi] at hk
          have hsome : ∀ j, j < cap → ((w.drew).cell? ⟨g, j, none⟩).isSome = true := hcell
          have hd : ((strV l).drop i).length = l.length - i := by simp [strV]
          by_cases h1 : k < i
          · rw [if_pos h1] at hk
            rw [World.cell?_setCells_out _ _ _ _ _ (fun _ _ => by show _ ∨ _; left; show 0 + k < 0 + i; omega), World.cell?_setCells_out _ _ _ _ _ (fun _ _ => by left; show 0 + k < 0 + (i + 1); omega)]
            show w.cell? _ = _
            rw [Nat.zero_add]
            exact hcg k _ (by rw [strV_get, hk]; rfl)
          · rw [if_neg h1] at hk
            by_cases h2 : k = i
            · subst h2
              rw [if_pos rfl] at hk
              have := World.cell?_setCells_in g [Value.string x] (0 + k) (w.drew.setCells g (0 + (k + 1)) ((strV l).drop k)) (fun j hj => by
                have hj0 : j = 0 := by simpa using hj
                subst hj0
                exact isSome_setCells g _ _ _ (fun j hj => by rw [hd] at hj; exact hsome _ (by omega)) _ (hsome _ (by omega))) 0 (by simp)
              rw [show (0 + k + 0 : Nat) = 0 + k from rfl] at this
              rw [this]; simpa using hk
            · rw [if_neg h2] at hk
              rw [World.cell?_setCells_out _ _ _ _ _ (fun _ _ => by right; show 0 + i + 1 ≤ 0 + k; omega)]
              have hkl : k - 1 < l.length := (List.getElem?_eq_some_iff.1 hk).1
              have := World.cell?_setCells_in g ((strV l).drop i) (0 + (i + 1)) w.drew (fun j hj => by rw [hd] at hj; exact hsome _ (by omega)) (k - (i + 1)) (by rw [hd]; omega)
              rw [show 0 + (i + 1) + (k - (i + 1)) = 0 + k by omega] at this
              rw [this]
              congr 1
              have h3 : ((strV l).drop i)[k - (i + 1)]? = some (.string s) := by
                rw [List.getElem?_drop, show i + (k - (i + 1)) = k - 1 by omega, strV_get, hk]; rfl
              exact (List.getElem?_eq_some_iff.1 h3).2
        · refine ((Keep.drew _ w).same ?_)
          exact ((keep_setCells w.drew g _ _).same (keep_setCells _ g _ _)).mono fun k hk => by rw [hk]; rfl
      · obtain rfl : i = l.length := by omega
        refine (Any2.slices_Insert_string_end_room Tryd.laysIns g 0 l.length cap vb 0 1 1 [.string x] w (by omega) hroom (by unfold maxLen at hcm; omega) rfl (fun j hj => by rw [Nat.zero_add]; exact hcell _ (by omega)) (fun j _ => frozen_of_row hg _) hv1 h1v).mono ?_
        rintro e w' ⟨rfl, rfl⟩
        refine ⟨_, rfl, ⟨_, cap, by rw [hlen], by rw [hlen]; exact hroom, by rw [hlen]; omega, fun _ => ⟨g, 0, rfl, fun k s hk => ?_⟩⟩, hK1 _ _, Or.inl rfl⟩
        rw [ins_get hi] at hk
        by_cases h1 : k < l.length
        · rw [if_pos h1] at hk
          rw [World.cell?_setCells_out _ _ _ _ _ (fun _ _ => by left; show 0 + k < 0 + l.length; omega), Nat.zero_add]
          exact hcg k _ (by rw [strV_get, hk]; rfl)
        · rw [if_neg h1] at hk
          by_cases h2 : k = l.length
          · subst h2
            rw [if_pos rfl] at hk
            have := World.cell?_setCells_in g [Value.string x] (0 + l.length) w (fun j hj => one_lt (p := fun j => (w.cell? ⟨g, 0 + l.length + j, none⟩).isSome = true) hj (hcell _ (by omega))) 0 (by simp)
            rw [show (0 + l.length + 0 : Nat) = 0 + l.length from rfl] at this
            rw [this]; simpa using hk
          · rw [if_neg h2] at hk
            have := (List.getElem?_eq_some_iff.1 hk).1
            omega
    · obtain ⟨q1, q2⟩ := hgc (l.length + 1) cap hml
      by_cases hil : i < l.length
      · refine (Any2.slices_Insert_string_grow Tryd.laysIns g 0 l.length cap i vb 0 1 1 (strV l) [.string x] w hil (by omega) hnc (by omega) (by omega) (strV_length l) rfl hc0 hv1 h1c h1v).mono ?_
        rintro e w' ⟨rfl, rfl⟩
        obtain ⟨big, hbig, hb1, hb2⟩ : ∃ big : Array Value, (((strV l).take i).toArray ++ Builtin.zeroCells (Value.string ⟨#[]⟩).cells (l.length + 1 - i) ++ Builtin.zeroCells (Value.string ⟨#[]⟩).cells (grownCap w (l.length + 1) cap (Tryd.laysIns_ren.t 9) - (l.length + 1))) = big ∧ l.length + 1 ≤ big.size ∧ (∀ k, k < i → big[k]? = (strV l)[k]?) := by
          refine ⟨_, rfl, ?_, fun k hk => ?_⟩
          · simp only [Array.size_append, size_zeroCells, List.size_toArray, Value.cells, List.length_take, strV_length, List.length_cons, List.length_nil]; omega
          · rw [Array.append_assoc, Array.getElem?_append_left (by simp [strV]; omega)]
            simp [List.getElem?_take, hk]
        rw [hbig]
        refine ⟨_, rfl, ⟨_, _, by rw [hlen], by rw [hlen]; exact q1, by rw [hlen]; omega, fun _ => ⟨w.heap.size, 0, rfl, fun k s hk => ?_⟩⟩, ?_, Or.inr rfl⟩
        · rw [ins_get hi] at hk
          have hd : ((strV l).drop i).length = l.length - i := by simp [strV]
          have hsome : ∀ j, j < l.length + 1 → ((w.alloc (.cells big (Tryd.laysIns_ren.t 9))).cell? ⟨w.heap.size, j, none⟩).isSome = true := fun j hj => by
            rw [cell_alloc]; simp; omega
          by_cases h1 : k < i
          · rw [if_pos h1] at hk
            rw [World.cell?_setCells_out _ _ _ _ _ (fun _ _ => by left; show 0 + k < i + 1; omega)]
            show (World.setCells _ _ _ _).cell? _ = _
            rw [World.cell?_setCells_out _ _ _ _ _ (fun _ _ => by left; show 0 + k < i; omega)]
            show (w.alloc (.cells big (Tryd.laysIns_ren.t 9))).cell? _ = _
            rw [cell_alloc, Nat.zero_add, hb2 k h1, strV_get, hk]; rfl
          · rw [if_neg h1] at hk
            by_cases h2 : k = i
            · subst h2
              rw [if_pos rfl] at hk
              rw [World.cell?_setCells_out _ _ _ _ _ (fun _ _ => by left; show 0 + k < k + 1; omega)]
              have := World.cell?_setCells_in w.heap.size [Value.string x] k (w.alloc (.cells big (Tryd.laysIns_ren.t 9))).drew (fun j hj => by
                have hj0 : j = 0 := by simpa using hj
                subst hj0; exact hsome _ (by omega)) 0 (by simp)
              rw [Nat.add_zero] at this
              show (World.setCells _ _ _ _).cell? _ = _
              rw [Nat.zero_add, this]; simpa using hk
            · rw [if_neg h2] at hk
              have hkl : k - 1 < l.length := (List.getElem?_eq_some_iff.1 hk).1
              have := World.cell?_setCells_in w.heap.size ((strV l).drop i) (i + 1) ((w.alloc (.cells big (Tryd.laysIns_ren.t 9))).drew.setCells w.heap.size i [Value.string x]).drew (fun j hj => by
                rw [hd] at hj
                exact isSome_setCells _ [Value.string x] i (w.alloc (.cells big (Tryd.laysIns_ren.t 9))).drew (fun j hj => one_lt (p := fun j => ((w.alloc (.cells big (Tryd.laysIns_ren.t 9))).cell? ⟨w.heap.size, i + j, none⟩).isSome = true) hj (hsome _ (by omega))) _ (hsome _ (by omega))) (k - (i + 1)) (by rw [hd]; omega)
              rw [show i + 1 + (k - (i + 1)) = 0 + k by omega] at this
              rw [this]
              congr 1
              have h3 : ((strV l).drop i)[k - (i + 1)]? = some (.string s) := by
                rw [List.getElem?_drop, show i + (k - (i + 1)) = k - 1 by omega, strV_get, hk]; rfl
              exact (List.getElem?_eq_some_iff.1 h3).2
        · refine Keep.of_below (Keep.new (Keep.same (Keep.alloc (fun k => w.heap.size ≤ k) w (.cells big (Tryd.laysIns_ren.t 9))) ?_))
          refine (Keep.drew _ _).same ?_
          refine ((keep_setCells _ w.heap.size [Value.string x] i).mono (fun k hk => Nat.le_of_eq hk.symm)).same ?_
          exact (Keep.drew _ _).same ((keep_setCells _ w.heap.size _ _).mono (fun k hk => Nat.le_of_eq hk.symm))
      · obtain rfl : i = l.length := by omega
        refine (Any2.slices_Insert_string_end_grow Tryd.laysIns (some ⟨g, 0, none⟩) l.length cap vb 0 1 1 (strV l) [.string x] w (by omega) hnc (by omega) (by omega) (strV_length l) rfl (fun h => by cases h) (fun a h j v hj => by cases h; rw [add_at]; exact hc0 j v hj) hv1 h1v).mono ?_
        rintro e w' ⟨rfl, rfl⟩
        refine ⟨_, rfl, ⟨_, _, by rw [hlen], by rw [hlen]; exact q1, by rw [hlen]; omega, fun _ => ⟨w.heap.size, 0, rfl, fun k s hk => ?_⟩⟩, (Keep.drew _ w).same (Keep.alloc _ w.drew _), Or.inr rfl⟩
        rw [show w.heap.size = w.drew.heap.size from rfl, cell_alloc, Nat.zero_add]
        have hk2 : (strV l ++ [Value.string x])[k]? = some (.string s) := by
          have : strV (l.take l.length ++ x :: l.drop l.length) = strV l ++ [Value.string x] := by simp [strV]
          rw [← this, strV_get, hk]; rfl
        have hkl := (List.getElem?_eq_some_iff.1 hk2).1
        rw [Array.getElem?_append_left (by simpa using hkl)]
        simpa using hk2
end Go.Proofs.YtgacfkenndhcnaaDoor
namespace Go.Proofs.YtgacfkenndhcnaaDoor
open Go.RowKit Go.Sort
set_option linter.unusedVariables false
set_option linter.unusedSimpArgs false

def Rt.none : Rt := ⟨ByteArray.empty, ByteArray.empty, 0, [], []⟩
def insB (l : List ByteArray) (u : ByteArray) : List ByteArray := l.take (posB l u) ++ u :: l.drop (posB l u)
def Rt.grant (r : Rt) (u : ByteArray) (write : Bool) : Rt × Int :=
  if r.asked u ≠ 0 then (Rt.none, r.asked u) else if u = r.owner ∨ r.other u = true then (Rt.none, 5) else if 5 ≤ r.rd.length + r.wr.length then (Rt.none, 10)
  else (if write then ⟨r.owner, r.file, r.epoch, r.rd, insB r.wr u⟩ else ⟨r.owner, r.file, r.epoch, insB r.rd u, r.wr⟩, 0)
theorem below_keep1 {w w1 w2 : World} (h : Below w.heap.size w w1) (k : Keep (fun k => k = w.heap.size + 1) w1 w2) : Below w.heap.size w w2 :=
  ((Keep.of_below h (F := fun k => w.heap.size ≤ k)).trans k fun i hi => Or.inr (by omega)).new
/-- what a change of rights answers -/
def RtRet (w : World) (e : Ending) (w' : World) (x : Rt × Int) : Prop :=
  ∃ vr vw, e = .returned (.tuple #[.agg #[.string x.1.owner, .string x.1.file, .int .i64 x.1.epoch, vr, vw], .int .i64 x.2]) ∧ Lists w' x.1 vr vw ∧ Below w.heap.size w w' ∧ (∀ b, vr.ownBlock = some b → w.heap.size ≤ b) ∧ (∀ b, vw.ownBlock = some b → w.heap.size ≤ b) ∧ (∀ b, (vr.ownBlock = some b ∨ vw.ownBlock = some b) → b < w'.heap.size)
structure RtBox (w w' : World) (r : Rt) (vr vw : Value) : Prop where
  at' : RtAt w w' w.heap.size r vr vw
  zero : w'.heap[w.heap.size + 1]? = some (.cells #[.string ⟨#[]⟩, .string ⟨#[]⟩, .int .i64 0, .slice none 0 0, .slice none 0 0] 46 (0, 0))
theorem RtBox.next {w w' w2 : World} {r : Rt} {vr vw : Value} (h : RtBox w w' r vr vw) (k : Below w'.heap.size w' w2) : RtBox w w2 r vr vw :=
  ⟨h.at'.next k, (Keep.of_below k (F := fun _ => False)).at h.zero fun e => e⟩
theorem rt_box2 {w : World} {r : Rt} {vr vw : Value} (hl : Lists w r vr vw) (hT : Tabs w) : RtBox w ((w.alloc (.cells (rtCells r vr vw) 46)).alloc (.cells #[.string ⟨#[]⟩, .string ⟨#[]⟩, .int .i64 0, .slice none 0 0, .slice none 0 0] 46)) r vr vw :=
  ⟨(rt_box hl hT).next ((Below.refl _ _).alloc (Nat.le_refl _) _), by rw [get_alloc, size_alloc]; simp⟩

/-- between the clones and the end -/
structure GrMid (w W : World) (r : Rt) (va vb : Value) : Prop where
  row : W.heap[w.heap.size]? = some (.cells (rtCells r va vb) 46 (0, 0))
  zero : W.heap[w.heap.size + 1]? = some (.cells #[.string ⟨#[]⟩, .string ⟨#[]⟩, .int .i64 0, .slice none 0 0, .slice none 0 0] 46 (0, 0))
  tabs : Tabs W
  below : Below w.heap.size w W
  oa : W.ownsRow (w.heap.size + 2) 9 1 va r.rd.length (strV r.rd)
  ob : W.ownsRow (w.heap.size + 2) 9 1 vb r.wr.length (strV r.wr)
  ne : ∀ g, va.ownBlock = some g → vb.ownBlock ≠ some g
theorem own_base {w : World} {B B' : Nat} {e : TypeId} {size n : Nat} {v : Value} {xs : List Value} (h : w.ownsRow B e size v n xs) (hb : B' ≤ B) : w.ownsRow B' e size v n xs := by
  refine ⟨h.1, ?_⟩
  rcases h.2 with h2 | ⟨g, cap, cur, hv, hg, r⟩
  · exact Or.inl h2
  · exact Or.inr ⟨g, cap, cur, hv, Nat.le_trans hb hg, r⟩
theorem tabs_keep {w w' : World} (hT : Tabs w) {B : Nat} (hB : w.heap.size ≤ B) {W : World} (k : Keep (fun k => B ≤ k) w W) : Tabs W :=
  Tabs.below hT (Keep.new (k.mono fun i hi => Nat.le_trans hB hi))
theorem GrMid.next {w W W' : World} {r : Rt} {va vb : Value} (h : GrMid w W r va vb) (k : Below W.heap.size W W') : GrMid w W' r va vb :=
  ⟨(Keep.of_below k (F := fun _ => False)).at h.row fun e => e, (Keep.of_below k (F := fun _ => False)).at h.zero fun e => e, h.tabs.below k, h.below.trans (k.mono h.below.size), (Keep.of_below k (F := fun _ => False)).own h.oa fun _ _ e => e, (Keep.of_below k (F := fun _ => False)).own h.ob fun _ _ e => e, h.ne⟩
theorem gr_mid {w w3 w4 : World} {r : Rt} {vr vw va vb : Value} {B3 : Nat} (hT : Tabs w) (X : RtBox w w4 r vr vw) (O3 : w3.ownsRow B3 9 1 va r.rd.length (strV r.rd)) (O4 : w4.ownsRow w3.heap.size 9 1 vb r.wr.length (strV r.wr)) (P4 : Below w3.heap.size w3 w4) (hB : w.heap.size + 2 ≤ B3) (h3 : w.heap.size + 2 ≤ w3.heap.size) :
    GrMid w ((w4.setCell ⟨w.heap.size, 3, none⟩ va).setCell ⟨w.heap.size, 4, none⟩ vb) r va vb := by
  have k1 := Keep.setCell (fun k => k = w.heap.size) w4 (p := ⟨w.heap.size, 3, none⟩) rfl va
  have k2 := Keep.setCell (fun k => k = w.heap.size) (w4.setCell ⟨w.heap.size, 3, none⟩ va) (p := ⟨w.heap.size, 4, none⟩) rfl vb
  have k := k1.same k2
  have hb : Below w.heap.size w ((w4.setCell ⟨w.heap.size, 3, none⟩ va).setCell ⟨w.heap.size, 4, none⟩ vb) := below_keep X.at'.below k
  refine ⟨?_, k.at X.zero (by omega), hT.below hb, hb, k.own ((Keep.of_below P4 (F := fun _ => False)).own (own_base O3 hB) fun _ _ e => e) fun g hg => ?_, k.own (own_base O4 h3) fun g hg => ?_, fun g h1 h2 => ?_⟩
  · have h1 := set_at X.at'.row 3 va
    have h2 := set_at h1 4 vb
    rw [h2]; rfl
  · have := own_new O3 g hg; omega
  · have := own_new O4 g hg; omega
  · have a := own_new O4 g h2
    have b := (World.ownsRow.lt O3 g h1).2
    omega
/-- the end: both lists as they are to be, the result laid down -/
theorem strs_lt {w : World} {v : Value} {l : List ByteArray} (h : strs w v l) (hne : 0 < l.length) {b : Nat} (hb : v.ownBlock = some b) : b < w.heap.size := by
  obtain ⟨A, c, rfl, _, _, h3⟩ := h
  obtain ⟨g, off, rfl, hc⟩ := h3 hne
  cases hb
  have hs := hc 0 l[0] (List.getElem?_eq_getElem hne)
  unfold World.cell? at hs
  cases hg : w.heap[g]? with
  | none => rw [hg] at hs; simp at hs
  | some o => exact (Array.getElem?_eq_some_iff.1 hg).1
theorem gr_end {w w8 w10 : World} {x : Rt} {va vb : Value} (hb : Below w.heap.size w w8) (k : Keep (fun k => k = w.heap.size ∨ k = w.heap.size + 1) w8 w10) (ha : strs w8 va x.rd) (hc : strs w8 vb x.wr) (na : ∀ g, va.ownBlock = some g → w.heap.size + 2 ≤ g) (nb : ∀ g, vb.ownBlock = some g → w.heap.size + 2 ≤ g) (ub : ∀ b, (va.ownBlock = some b ∨ vb.ownBlock = some b) → b < w8.heap.size) :
    Lists w10 x va vb ∧ Below w.heap.size w w10 ∧ (∀ b, va.ownBlock = some b → w.heap.size ≤ b) ∧ (∀ b, vb.ownBlock = some b → w.heap.size ≤ b) ∧ (∀ b, (va.ownBlock = some b ∨ vb.ownBlock = some b) → b < w10.heap.size) :=
  ⟨⟨ha.keep k fun b hb' => by have := na b hb'; omega, hc.keep k fun b hb' => by have := nb b hb'; omega⟩, ((Keep.of_below hb (F := fun k => w.heap.size ≤ k)).trans k fun i hi => Or.inr (by omega)).new, fun b hb' => by have := na b hb'; omega, fun b hb' => by have := nb b hb'; omega, fun b hb' => Nat.lt_of_lt_of_le (ub b hb') k.size⟩

set_option maxRecDepth 100000 in
set_option maxHeartbeats 4000000 in
theorem grant_calls (w : World) (r : Rt) (vr vw : Value) (u : ByteArray) (write : Bool) (hl : Lists w r vr vw) (hT : Tabs w) (hw : r.wf) (hu : u.size ≤ 9223372036854775807) :
    Calls Tryd.prog 37 #[.agg #[.string r.owner, .string r.file, .int .i64 r.epoch, vr, vw], .string u, .bool write] w fun e w' => RtRet w e w' (r.grant u write) := by
  have HX := Lib.hid (rt_box2 hl hT)
  have HW := Lib.hid hw
  have TW := Lib.hid hT
  have HA : Hid (r.asked u = if r.right = false then 1 else if nameR u = false then 3 else 0) := Lib.hid rfl
  have HG : Hid (r.grant u write = if r.asked u ≠ 0 then (Rt.none, r.asked u) else if u = r.owner ∨ r.other u = true then (Rt.none, 5) else if 5 ≤ r.rd.length + r.wr.length then (Rt.none, 10)
    else (if write then ⟨r.owner, r.file, r.epoch, r.rd, insB r.wr u⟩ else ⟨r.owner, r.file, r.epoch, insB r.rd u, r.wr⟩, 0)) := Lib.hid rfl
  have HH := Lib.hid (@Rt.right_head r)
  obtain ⟨N, hN⟩ : ∃ N, r.grant u write = N := ⟨_, rfl⟩
  rw [hN] at HG ⊢
  clear hN
  obtain ⟨ow, fi, ep, rd, wr'⟩ := r
  obtain ⟨A, ca, rfl, a1, a2, _⟩ := hl.rd
  obtain ⟨C, cb, rfl, b1, b2, _⟩ := hl.wr
  dsimp only at *
  clear hl hT hw
  obtain ⟨c0, c1, c2, c3, c4⟩ := HX.out.at'.cells
  go_enter Tryd.func37, Tryd.ntmps37
  go_wp2_with fail
  refine (asked_calls _ ⟨ow, fi, ep, rd, wr'⟩ _ _ u HX.out.at'.lists HX.out.at'.tabs HW.out hu).mono ?_
  rintro e w1 ⟨rfl, hb1⟩
  have X1 := Lib.hid (HX.out.next hb1)
  have Z1 := Lib.hid X1.out.zero
  clear hb1 c0 c1 c2 c3 c4
  obtain ⟨a, ha⟩ : ∃ a, Rt.asked ⟨ow, fi, ep, rd, wr'⟩ u = a := ⟨_, rfl⟩
  rw [ha] at HG HA ⊢
  have HAA := Lib.hid ha
  clear ha
  have ha3 : a = 1 ∨ a = 3 ∨ (a = 0 ∧ Rt.right ⟨ow, fi, ep, rd, wr'⟩ = true) := by
    have := HA.out
    cases hr : Rt.right ⟨ow, fi, ep, rd, wr'⟩ <;> cases hn : nameR u <;> simp [hr, hn] at this <;> simp [this]
  rcases ha3 with rfl | rfl | ⟨rfl, hr⟩
  · have H1 : Hid (N = (Rt.none, 1)) := Lib.hid (by rw [HG.out]; rfl)
    go_wp2_with (with_reducible refine wp_stop_store _ _ _ rfl ?_)
    unfold Stop
    refine wp_store_all rfl _ _ _ rfl rfl rfl _ _ Z1.out info_rt rfl (by simp [Value.oneCell']) ?_
    intro wz hz kz sz
    have BZ : Hid (Below w.heap.size w wz) := Lib.hid (below_keep1 X1.out.at'.below kz)
    have h4 := row5 hz
    clear hz kz sz
    obtain ⟨c0, c1, c2, c3, c4⟩ := h4
    go_wp2_with fail
    refine bodyPost_ret (v := .tuple #[.agg #[.string ⟨#[]⟩, .string ⟨#[]⟩, .int .i64 0, .slice none 0 0, .slice none 0 0], .int .i64 1]) (by simp [results, Tryd.results37, go_sem, c0, c1, c2, c3, c4]) rfl ?_
    exact ⟨.slice none 0 0, .slice none 0 0, by rw [H1.out]; rfl, by rw [H1.out]; exact ⟨strs_nil _, strs_nil _⟩, BZ.out, (fun _ h => by cases h), (fun _ h => by cases h), (fun _ h => by rcases h with h | h <;> cases h)⟩
  · have H1 : Hid (N = (Rt.none, 3)) := Lib.hid (by rw [HG.out]; rfl)
    go_wp2_with (with_reducible refine wp_stop_store _ _ _ rfl ?_)
    unfold Stop
    refine wp_store_all rfl _ _ _ rfl rfl rfl _ _ Z1.out info_rt rfl (by simp [Value.oneCell']) ?_
    intro wz hz kz sz
    have BZ : Hid (Below w.heap.size w wz) := Lib.hid (below_keep1 X1.out.at'.below kz)
    have h4 := row5 hz
    clear hz kz sz
    obtain ⟨c0, c1, c2, c3, c4⟩ := h4
    go_wp2_with fail
    refine bodyPost_ret (v := .tuple #[.agg #[.string ⟨#[]⟩, .string ⟨#[]⟩, .int .i64 0, .slice none 0 0, .slice none 0 0], .int .i64 3]) (by simp [results, Tryd.results37, go_sem, c0, c1, c2, c3, c4]) rfl ?_
    exact ⟨.slice none 0 0, .slice none 0 0, by rw [H1.out]; rfl, by rw [H1.out]; exact ⟨strs_nil _, strs_nil _⟩, BZ.out, (fun _ h => by cases h), (fun _ h => by cases h), (fun _ h => by rcases h with h | h <;> cases h)⟩
  have H1 : Hid (N = if u = ow ∨ Rt.other ⟨ow, fi, ep, rd, wr'⟩ u = true then (Rt.none, 5) else if 5 ≤ rd.length + wr'.length then (Rt.none, 10)
    else (if write then ⟨ow, fi, ep, rd, insB wr' u⟩ else ⟨ow, fi, ep, insB rd u, wr'⟩, 0)) := Lib.hid (by rw [HG.out]; simp)
  obtain ⟨r1, r2, r3, _⟩ := HH.out hr
  dsimp only at *
  have RR := Lib.hid r1
  have RW := Lib.hid r2
  have HR := Lib.hid hr
  clear r1 r2 hr HG HA HAA HH
  obtain ⟨c0, c1, c2, c3, c4⟩ := X1.out.at'.cells
  by_cases h2 : u = ow
  · have H2 : Hid (N = (Rt.none, 5)) := Lib.hid (by rw [H1.out, if_pos (Or.inl h2)])
    have e1 : (u.toList == ow.toList) = true := by rw [h2]; simp
    clear h2
    go_wp2_with (with_reducible refine wp_stop_store _ _ _ rfl ?_)
    unfold Stop
    refine wp_store_all rfl _ _ _ rfl rfl rfl _ _ Z1.out info_rt rfl (by simp [Value.oneCell']) ?_
    intro wz hz kz sz
    have BZ : Hid (Below w.heap.size w wz) := Lib.hid (below_keep1 X1.out.at'.below kz)
    have h4 := row5 hz
    clear hz kz sz
    obtain ⟨c0, c1, c2, c3, c4⟩ := h4
    go_wp2_with fail
    refine bodyPost_ret (v := .tuple #[.agg #[.string ⟨#[]⟩, .string ⟨#[]⟩, .int .i64 0, .slice none 0 0, .slice none 0 0], .int .i64 5]) (by simp [results, Tryd.results37, go_sem, c0, c1, c2, c3, c4]) rfl ?_
    exact ⟨.slice none 0 0, .slice none 0 0, by rw [H2.out]; rfl, by rw [H2.out]; exact ⟨strs_nil _, strs_nil _⟩, BZ.out, (fun _ h => by cases h), (fun _ h => by cases h), (fun _ h => by rcases h with h | h <;> cases h)⟩
  have e1 : (u.toList == ow.toList) = false := by rw [beq_eq_false_iff_ne]; exact fun e => h2 (blist_inj e)
  have N1 := Lib.hid h2
  clear h2
  go_wp2_with fail
  refine (other_calls _ ⟨ow, fi, ep, rd, wr'⟩ _ _ u X1.out.at'.lists X1.out.at'.tabs HR.out).mono ?_
  rintro e w2 ⟨rfl, hb2⟩
  have X2 := Lib.hid (X1.out.next hb2)
  have Z2 := Lib.hid X2.out.zero
  clear hb2 c0 c1 c2 c3 c4
  obtain ⟨c0, c1, c2, c3, c4⟩ := X2.out.at'.cells
  cases h3 : Rt.other ⟨ow, fi, ep, rd, wr'⟩ u with
  | true =>
    have H2 : Hid (N = (Rt.none, 5)) := Lib.hid (by rw [H1.out, if_pos (Or.inr h3)])
    clear h3
    go_wp2_with (with_reducible refine wp_stop_store _ _ _ rfl ?_)
    unfold Stop
    refine wp_store_all rfl _ _ _ rfl rfl rfl _ _ Z2.out info_rt rfl (by simp [Value.oneCell']) ?_
    intro wz hz kz sz
    have BZ : Hid (Below w.heap.size w wz) := Lib.hid (below_keep1 X2.out.at'.below kz)
    have h4 := row5 hz
    clear hz kz sz
    obtain ⟨c0, c1, c2, c3, c4⟩ := h4
    go_wp2_with fail
    refine bodyPost_ret (v := .tuple #[.agg #[.string ⟨#[]⟩, .string ⟨#[]⟩, .int .i64 0, .slice none 0 0, .slice none 0 0], .int .i64 5]) (by simp [results, Tryd.results37, go_sem, c0, c1, c2, c3, c4]) rfl ?_
    exact ⟨.slice none 0 0, .slice none 0 0, by rw [H2.out]; rfl, by rw [H2.out]; exact ⟨strs_nil _, strs_nil _⟩, BZ.out, (fun _ h => by cases h), (fun _ h => by cases h), (fun _ h => by rcases h with h | h <;> cases h)⟩
  | false =>
  have H2 : Hid (N = if 5 ≤ rd.length + wr'.length then (Rt.none, 10) else (if write then ⟨ow, fi, ep, rd, insB wr' u⟩ else ⟨ow, fi, ep, insB rd u, wr'⟩, 0)) := Lib.hid (by rw [H1.out, if_neg (by rw [h3]; simp; exact N1.out)])
  clear h3
  by_cases h5 : (5 : Int) ≤ rd.length + wr'.length
  · have H3 : Hid (N = (Rt.none, 10)) := Lib.hid (by rw [H2.out, if_pos (by omega)])
    go_wp2_with (with_reducible refine wp_stop_store _ _ _ rfl ?_)
    unfold Stop
    refine wp_store_all rfl _ _ _ rfl rfl rfl _ _ Z2.out info_rt rfl (by simp [Value.oneCell']) ?_
    intro wz hz kz sz
    have BZ : Hid (Below w.heap.size w wz) := Lib.hid (below_keep1 X2.out.at'.below kz)
    have h4 := row5 hz
    clear hz kz sz
    obtain ⟨c0, c1, c2, c3, c4⟩ := h4
    go_wp2_with fail
    refine bodyPost_ret (v := .tuple #[.agg #[.string ⟨#[]⟩, .string ⟨#[]⟩, .int .i64 0, .slice none 0 0, .slice none 0 0], .int .i64 10]) (by simp [results, Tryd.results37, go_sem, c0, c1, c2, c3, c4]) rfl ?_
    exact ⟨.slice none 0 0, .slice none 0 0, by rw [H3.out]; rfl, by rw [H3.out]; exact ⟨strs_nil _, strs_nil _⟩, BZ.out, (fun _ h => by cases h), (fun _ h => by cases h), (fun _ h => by rcases h with h | h <;> cases h)⟩
  have H3 : Hid (N = (if write then ⟨ow, fi, ep, rd, insB wr' u⟩ else ⟨ow, fi, ep, insB rd u, wr'⟩, 0)) := Lib.hid (by rw [H2.out, if_neg (by omega)])
  have SZ2 : Hid (w.heap.size + 2 ≤ w2.drew.heap.size) := Lib.hid (by have := (Array.getElem?_eq_some_iff.1 X2.out.zero).1; show _ ≤ w2.heap.size; omega)
  have XD := Lib.hid (X2.out.next ((Below.refl _ w2).drew))
  have S2 : Hid (w2.drew.cell? ⟨w.heap.size, 3, none⟩ = some (.slice A rd.length ca) ∧ w2.drew.cell? ⟨w.heap.size, 4, none⟩ = some (.slice C wr'.length cb)) := ⟨c3, c4⟩
  go_wp2_with fail
  clear c0 c1 c2
  go_region_with (first
    | (go_at_call_of 21 (Value.slice A rd.length ca); refine (clone_strs XD.out.at'.lists.rd (by dsimp only; omega)).mono ?_; rintro e w3 ⟨v3, rfl, ho3, hb3⟩; obtain ⟨A3, k3, rfl, _, _⟩ := own_slice ho3; have X3 := Lib.hid (XD.out.next hb3); have O3 := Lib.hid ho3; have HS3 := Lib.hid hb3.size; have S3 := Lib.hid (show w3.cell? ⟨w.heap.size, 3, none⟩ = some (.slice A rd.length ca) ∧ w3.cell? ⟨w.heap.size, 4, none⟩ = some (.slice C wr'.length cb) from ⟨X3.out.at'.cells.2.2.2.1, X3.out.at'.cells.2.2.2.2⟩); obtain ⟨d3, d4⟩ := S3.out; clear ho3 hb3)
    | (go_at_call_of 21 (Value.slice C wr'.length cb); refine (clone_strs X3.out.at'.lists.wr (by dsimp only; omega)).mono ?_; rintro e w4 ⟨v4, rfl, ho4, hb4⟩; obtain ⟨A4, k4, rfl, _, _⟩ := own_slice ho4; have X4 := Lib.hid (X3.out.next hb4); have P4 := Lib.hid hb4; have O4 := Lib.hid ho4; have S4 := Lib.hid (show w4.cell? ⟨w.heap.size, 3, none⟩ = some (.slice A rd.length ca) ∧ w4.cell? ⟨w.heap.size, 4, none⟩ = some (.slice C wr'.length cb) from ⟨X4.out.at'.cells.2.2.2.1, X4.out.at'.cells.2.2.2.2⟩); have f3 := frozen_of_row X4.out.at'.row 3; have f4 := frozen_of_row X4.out.at'.row 4; have m3 := X4.out.at'.cells.2.2.2.1; have m4 := X4.out.at'.cells.2.2.2.2; clear ho4 hb4))
  all_goals
    have M5 := Lib.hid (gr_mid TW.out X4.out O3.out O4.out P4.out SZ2.out (Nat.le_trans SZ2.out HS3.out))
    clear c3 c4 d3 d4 f3 f4 m3 m4
    obtain ⟨w5, hw5⟩ : ∃ w5, ((w4.setCell ⟨w.heap.size, 3, none⟩ (.slice A3 rd.length k3)).setCell ⟨w.heap.size, 4, none⟩ (.slice A4 wr'.length k4)) = w5 := ⟨_, rfl⟩
    rw [hw5] at M5 ⊢
    clear hw5
    cases write with
    | true =>
      have H4 : Hid (N = (⟨ow, fi, ep, rd, insB wr' u⟩, 0)) := Lib.hid (by rw [H3.out]; simp)
      have g4 := (row5 M5.out.row).2.2.2.2
      go_wp2_with fail
      refine (place_calls _ _ wr' u (strs_own M5.out.ob) RW.out (by omega)).mono ?_
      rintro e w6 ⟨rfl, hd6⟩
      have M6 := Lib.hid (M5.out.next hd6.below)
      have g4' := (row5 M6.out.row).2.2.2.2
      clear hd6 g4
      have hbA : Below w6.heap.size w6 (w6.alloc (.cells #[.string u] 9)) := (Below.refl _ w6).alloc (Nat.le_refl _) _
      have M7 := Lib.hid (M6.out.next hbA)
      have XB : Hid ((w6.alloc (.cells #[.string u] 9)).heap[w6.heap.size]? = some (.cells #[.string u] 9 (0, 0))) := Lib.hid (MapKept.heap_alloc w6 _).1
      have NB : Hid ((Value.slice A4 wr'.length k4).ownBlock ≠ some w6.heap.size) := Lib.hid fun e => by have := (World.ownsRow.lt M6.out.ob _ e).2; omega
      have SZ : Hid (w.heap.size + 2 ≤ (w6.alloc (.cells #[.string u] 9)).heap.size) := Lib.hid (by rw [size_alloc]; have := (Array.getElem?_eq_some_iff.1 M6.out.zero).1; omega)
      clear hbA
      go_wp2_with fail
      refine (insert_calls M7.out.ob (posB wr' u) (pos_le _ _) u _ XB.out NB.out (by dsimp only; omega)).mono ?_
      rintro e w8 ⟨v8, rfl, hs8, hk8, ho8⟩
      obtain ⟨A', c', rfl, q1, q2, q3⟩ := id hs8
      have SI : Hid (strs w8 (.slice A' (insB wr' u).length c') (insB wr' u)) := Lib.hid hs8
      have NI : Hid (∀ g, (Value.slice A' (insB wr' u).length c').ownBlock = some g → w.heap.size + 2 ≤ g) := Lib.hid fun g hg => by
        rcases ho8 with e | e
        · have e2 : (Value.slice A' (insB wr' u).length c').ownBlock = (Value.slice A4 wr'.length k4).ownBlock := e
          exact own_new M7.out.ob g (e2.symm.trans hg)
        · have e2 : (Value.slice A' (insB wr' u).length c').ownBlock = some (w6.alloc (.cells #[.string u] 9)).heap.size := e
          rw [e2] at hg; cases hg; exact SZ.out
      have KF : ∀ i, (Value.slice A4 wr'.length k4).ownBlock = some i → w.heap.size + 2 ≤ i := own_new M7.out.ob
      have SO : Hid (strs w8 (.slice A3 rd.length k3) rd) := Lib.hid ((strs_own M7.out.oa).keep hk8 fun b hb e => M7.out.ne b hb e)
      have NO : Hid (∀ g, (Value.slice A3 rd.length k3).ownBlock = some g → w.heap.size + 2 ≤ g) := Lib.hid (own_new M7.out.oa)
      have UB : Hid (∀ b, ((Value.slice A3 rd.length k3).ownBlock = some b ∨ (Value.slice A' (insB wr' u).length c').ownBlock = some b) → b < w8.heap.size) := Lib.hid fun b hb => by
        rcases hb with hb | hb
        · exact Nat.lt_of_lt_of_le (World.ownsRow.lt M7.out.oa b hb).2 hk8.size
        · exact strs_lt hs8 (by simp [insB]; omega) hb
      have R8 := Lib.hid (hk8.at M7.out.row fun e => by have := KF _ e; omega)
      have Z8 := Lib.hid (hk8.at M7.out.zero fun e => by have := KF _ e; omega)
      have B8 : Hid (Below w.heap.size w w8) := Lib.hid ((Keep.of_below M7.out.below (F := fun k => w.heap.size ≤ k)).trans hk8 fun i hi => Or.inr (by have := KF _ hi; omega)).new
      have k8 := Keep.setCell (fun k => k = w.heap.size ∨ k = w.heap.size + 1) w8 (p := ⟨w.heap.size, 4, none⟩) (Or.inl rfl) (Value.slice A' (insB wr' u).length c')
      have Z9 := Lib.hid ((Keep.setCell (fun k => k = w.heap.size) w8 (p := ⟨w.heap.size, 4, none⟩) rfl (Value.slice A' (insB wr' u).length c')).at Z8.out (by omega))
      have K8 := Lib.hid k8
      obtain ⟨c0, c1, c2, c3, c4⟩ := row5 R8.out
      have f4 := frozen_of_row R8.out 4
      have hln : (List.take (posB wr' u) wr' ++ u :: List.drop (posB wr' u) wr').length = (insB wr' u).length := rfl
      rw [hln]
      clear hs8 hk8 ho8 q1 q2 q3 KF k8 hln g4'
      go_wp2_with (with_reducible refine wp_stop_store_agg _ _ _ rfl rfl ?_)
      unfold Stop
      refine wp_store_all rfl _ _ _ rfl rfl rfl _ _ Z9.out info_rt rfl (by simp [Value.oneCell']) ?_
      intro wz hz kz sz
      have GE := Lib.hid (gr_end (x := ⟨ow, fi, ep, rd, insB wr' u⟩) B8.out (K8.out.same (kz.mono fun k hk => Or.inr hk)) SO.out SI.out NO.out NI.out UB.out)
      clear c0 c1 c2 c3 c4
      obtain ⟨c0, c1, c2, c3, c4⟩ := row5 hz
      clear hz kz sz
      go_wp2_with fail
      refine bodyPost_ret (v := .tuple #[.agg #[.string ow, .string fi, .int .i64 ep, (.slice A3 rd.length k3), (.slice A' (insB wr' u).length c')], .int .i64 0]) (by simp [results, Tryd.results37, go_sem, c0, c1, c2, c3, c4]) rfl ?_
      exact ⟨_, _, by rw [H4.out], by rw [H4.out]; exact GE.out⟩
    | false =>
      have H4 : Hid (N = (⟨ow, fi, ep, insB rd u, wr'⟩, 0)) := Lib.hid (by rw [H3.out]; simp)
      have g3 := (row5 M5.out.row).2.2.2.1
      go_wp2_with fail
      refine (place_calls _ _ rd u (strs_own M5.out.oa) RR.out (by omega)).mono ?_
      rintro e w6 ⟨rfl, hd6⟩
      have M6 := Lib.hid (M5.out.next hd6.below)
      have g3' := (row5 M6.out.row).2.2.2.1
      clear hd6 g3
      have hbA : Below w6.heap.size w6 (w6.alloc (.cells #[.string u] 9)) := (Below.refl _ w6).alloc (Nat.le_refl _) _
      have M7 := Lib.hid (M6.out.next hbA)
      have XB : Hid ((w6.alloc (.cells #[.string u] 9)).heap[w6.heap.size]? = some (.cells #[.string u] 9 (0, 0))) := Lib.hid (MapKept.heap_alloc w6 _).1
      have NB : Hid ((Value.slice A3 rd.length k3).ownBlock ≠ some w6.heap.size) := Lib.hid fun e => by have := (World.ownsRow.lt M6.out.oa _ e).2; omega
      have SZ : Hid (w.heap.size + 2 ≤ (w6.alloc (.cells #[.string u] 9)).heap.size) := Lib.hid (by rw [size_alloc]; have := (Array.getElem?_eq_some_iff.1 M6.out.zero).1; omega)
      clear hbA
      go_wp2_with fail
      refine (insert_calls M7.out.oa (posB rd u) (pos_le _ _) u _ XB.out NB.out (by dsimp only; omega)).mono ?_
      rintro e w8 ⟨v8, rfl, hs8, hk8, ho8⟩
      obtain ⟨A', c', rfl, q1, q2, q3⟩ := id hs8
      have SI : Hid (strs w8 (.slice A' (insB rd u).length c') (insB rd u)) := Lib.hid hs8
      have NI : Hid (∀ g, (Value.slice A' (insB rd u).length c').ownBlock = some g → w.heap.size + 2 ≤ g) := Lib.hid fun g hg => by
        rcases ho8 with e | e
        · have e2 : (Value.slice A' (insB rd u).length c').ownBlock = (Value.slice A3 rd.length k3).ownBlock := e
          exact own_new M7.out.oa g (e2.symm.trans hg)
        · have e2 : (Value.slice A' (insB rd u).length c').ownBlock = some (w6.alloc (.cells #[.string u] 9)).heap.size := e
          rw [e2] at hg; cases hg; exact SZ.out
      have KF : ∀ i, (Value.slice A3 rd.length k3).ownBlock = some i → w.heap.size + 2 ≤ i := own_new M7.out.oa
      have SO : Hid (strs w8 (.slice A4 wr'.length k4) wr') := Lib.hid ((strs_own M7.out.ob).keep hk8 fun b hb e => M7.out.ne b e hb)
      have NO : Hid (∀ g, (Value.slice A4 wr'.length k4).ownBlock = some g → w.heap.size + 2 ≤ g) := Lib.hid (own_new M7.out.ob)
      have UB : Hid (∀ b, ((Value.slice A' (insB rd u).length c').ownBlock = some b ∨ (Value.slice A4 wr'.length k4).ownBlock = some b) → b < w8.heap.size) := Lib.hid fun b hb => by
        rcases hb with hb | hb
        · exact strs_lt hs8 (by simp [insB]; omega) hb
        · exact Nat.lt_of_lt_of_le (World.ownsRow.lt M7.out.ob b hb).2 hk8.size
      have R8 := Lib.hid (hk8.at M7.out.row fun e => by have := KF _ e; omega)
      have Z8 := Lib.hid (hk8.at M7.out.zero fun e => by have := KF _ e; omega)
      have B8 : Hid (Below w.heap.size w w8) := Lib.hid ((Keep.of_below M7.out.below (F := fun k => w.heap.size ≤ k)).trans hk8 fun i hi => Or.inr (by have := KF _ hi; omega)).new
      have k8 := Keep.setCell (fun k => k = w.heap.size ∨ k = w.heap.size + 1) w8 (p := ⟨w.heap.size, 3, none⟩) (Or.inl rfl) (Value.slice A' (insB rd u).length c')
      have Z9 := Lib.hid ((Keep.setCell (fun k => k = w.heap.size) w8 (p := ⟨w.heap.size, 3, none⟩) rfl (Value.slice A' (insB rd u).length c')).at Z8.out (by omega))
      have K8 := Lib.hid k8
      obtain ⟨c0, c1, c2, c3, c4⟩ := row5 R8.out
      have f3 := frozen_of_row R8.out 3
      have hln : (List.take (posB rd u) rd ++ u :: List.drop (posB rd u) rd).length = (insB rd u).length := rfl
      rw [hln]
      clear hs8 hk8 ho8 q1 q2 q3 KF k8 hln g3'
      go_wp2_with (with_reducible refine wp_stop_store_agg _ _ _ rfl rfl ?_)
      unfold Stop
      refine wp_store_all rfl _ _ _ rfl rfl rfl _ _ Z9.out info_rt rfl (by simp [Value.oneCell']) ?_
      intro wz hz kz sz
      have GE := Lib.hid (gr_end (x := ⟨ow, fi, ep, insB rd u, wr'⟩) B8.out (K8.out.same (kz.mono fun k hk => Or.inr hk)) SI.out SO.out NI.out NO.out UB.out)
      clear c0 c1 c2 c3 c4
      obtain ⟨c0, c1, c2, c3, c4⟩ := row5 hz
      clear hz kz sz
      go_wp2_with fail
      refine bodyPost_ret (v := .tuple #[.agg #[.string ow, .string fi, .int .i64 ep, (.slice A' (insB rd u).length c'), (.slice A4 wr'.length k4)], .int .i64 0]) (by simp [results, Tryd.results37, go_sem, c0, c1, c2, c3, c4]) rfl ?_
      exact ⟨_, _, by rw [H4.out], by rw [H4.out]; exact GE.out⟩
end Go.Proofs.YtgacfkenndhcnaaDoor
