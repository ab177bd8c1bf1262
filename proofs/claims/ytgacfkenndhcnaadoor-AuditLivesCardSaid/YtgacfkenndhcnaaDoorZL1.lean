/- A ledger in memory: lives of files, by path. audit.New, (*Ledger).on, Clock. audit.New; (*Ledger).mark. One mark more, in memory; (*Ledger).mark. -/
import Derived.Test.YtgacfkenndhcnaaDoorZA5
import Derived.Laws.OwnMore
import Derived.Test.YtgacfkenndhcnaaDoorZA1
import Derived.Test.YtgacfkenndhcnaaDoorLayHp
import Derived.Shelf.Strings.Prefix
import Derived.Deep.RegionLaw
import Derived.Maps.AppendAt
namespace Go.Proofs.YtgacfkenndhcnaaDoor
open Go.RowKit
set_option linter.unusedVariables false
set_option linter.unusedSimpArgs false

/-! ### rows of so many cells, as one list -/
section
variable {α : Type} {f : α → List Value} {k : Nat}
theorem flat_len (hf : ∀ x, (f x).length = k) (l : List α) : (l.flatMap f).length = l.length * k := by
  induction l with
  | nil => simp
  | cons x l ih => simp only [List.flatMap_cons, List.length_append, List.length_cons, ih, hf, Nat.succ_mul]; omega
theorem flat_get (hf : ∀ x, (f x).length = k) {l : List α} {i : Nat} {x : α} (h : l[i]? = some x) {j : Nat} (hj : j < k) : (l.flatMap f)[i * k + j]? = (f x)[j]? := by
  induction l generalizing i with
  | nil => simp at h
  | cons y l ih =>
    rw [List.flatMap_cons]
    cases i with
    | zero =>
      simp at h; subst h
      rw [Nat.zero_mul, Nat.zero_add, List.getElem?_append_left (by rw [hf]; exact hj)]
    | succ i =>
      simp at h
      rw [List.getElem?_append_right (by rw [hf, Nat.succ_mul]; omega), hf, Nat.succ_mul, show i * k + k + j - k = i * k + j by omega]
      exact ih h
theorem flat_set (hf : ∀ x, (f x).length = k) {l : List α} {i : Nat} {x x' : α} (h : l[i]? = some x) {j : Nat} (hj : j < k) {u : Value} (hx : f x' = (f x).set j u) : (l.set i x').flatMap f = (l.flatMap f).set (i * k + j) u := by
  induction l generalizing i with
  | nil => simp at h
  | cons y l ih =>
    cases i with
    | zero =>
      simp at h; subst h
      rw [List.set_cons_zero, List.flatMap_cons, List.flatMap_cons, Nat.zero_mul, Nat.zero_add, List.set_append_left _ _ (by rw [hf]; exact hj), hx]
    | succ i =>
      simp at h
      rw [List.set_cons_succ, List.flatMap_cons, List.flatMap_cons, ih h, List.set_append_right _ _ (by rw [hf, Nat.succ_mul]; omega), hf, Nat.succ_mul, show i * k + k + j - k = i * k + j by omega]
theorem flat_snoc (l : List α) (x : α) : (l ++ [x]).flatMap f = l.flatMap f ++ f x := by simp
end
theorem aput_same {κ α : Type} [DecidableEq κ] {l : List (κ × α)} {k : κ} {v : α} (h : aget l k = some v) (hn : (akeys l).Nodup) : aput l k v = l := by
  unfold aput
  rw [h]
  simp only [Option.isSome_some, if_true]
  conv => rhs; rw [← List.map_id l]
  apply List.map_congr_left
  intro p hp
  by_cases e : p.1 = k
  · have := aget_of_mem hn (k := p.1) (v := p.2) hp
    rw [e, h] at this
    cases this
    rw [if_pos e, ← e]; rfl
  · rw [if_neg e]; rfl

/-! ### what a ledger holds -/
structure Mark where
  t : Int
  v : Int
  r : Rt
structure Word where
  who : ByteArray
  text : ByteArray
  epoch : Int
structure Life where
  marks : List Mark
  words : List Word
  gone : Bool
  r : Rt
  ver : Int
/-- the same, with the values that stand in memory -/
structure MarkM where
  m : Mark
  vr : Value
  vw : Value
structure LifeM where
  ms : List MarkM
  ws : List Word
  gone : Bool
  r : Rt
  ver : Int
  vm : Value
  vd : Value
  vr : Value
  vw : Value
def LifeM.life (x : LifeM) : Life := ⟨x.ms.map (·.m), x.ws, x.gone, x.r, x.ver⟩
def markV (m : MarkM) : List Value := [.int .u64 m.m.t, .int .u64 m.m.v, .string m.m.r.owner, .string m.m.r.file, .int .i64 m.m.r.epoch, m.vr, m.vw]
def wordV (x : Word) : List Value := [.string x.who, .string x.text, .int .i64 x.epoch]
def lifeV (x : LifeM) : List Value := [x.vm, x.vd, .bool x.gone, .string x.r.owner, .string x.r.file, .int .i64 x.r.epoch, x.vr, x.vw, .int .u64 x.ver]

inductive Role where
  | none
  | led
  | map
  | cor
  | oth
  | row (k : ByteArray)
  | mrk (k : ByteArray) (i : Nat)
  | wrd (k : ByteArray) (i : Nat)

abbrev LRows := List (ByteArray × (Value × List LifeM))
structure LedM where
  b : Nat
  bm : Nat
  bound : Int
  now : Int
  vc : Value
  cor : List ByteArray
  rows : LRows

theorem strs.keep2 {F : Nat → Prop} {w w' : World} {v : Value} {l : List ByteArray} (h : strs w v l) (k : Keep F w w') (hn : l ≠ [] → ∀ b, b < w.heap.size → v.ownBlock = some b → ¬ F b) : strs w' v l := by
  obtain ⟨A, c, rfl, h1, h2, h3⟩ := h
  refine ⟨A, c, rfl, h1, h2, fun h0 => ?_⟩
  obtain ⟨b, off, rfl, hc⟩ := h3 h0
  have hne : l ≠ [] := by intro e; rw [e] at h0; exact absurd h0 (Nat.lt_irrefl 0)
  obtain ⟨s0, hs0⟩ : ∃ s, l[0]? = some s := ⟨_, List.getElem?_eq_getElem h0⟩
  have hlt : b < w.heap.size := World.block_lt_of_cell? w _ (hc 0 s0 hs0)
  exact ⟨b, off, rfl, fun i s hs => k.cell (hc i s hs) (hn hne b hlt rfl)⟩

/-- the rights' lists lie somewhere that nobody writes -/
structure RtIn (w : World) (role : Nat → Role) (r : Rt) (vr vw : Value) : Prop where
  lists : Lists w r vr vw
  fr : r.rd ≠ [] → ∀ g, vr.ownBlock = some g → role g = .none
  fw : r.wr ≠ [] → ∀ g, vw.ownBlock = some g → role g = .none
theorem RtIn.keep {F : Nat → Prop} {role role' : Nat → Role} {w w' : World} {r : Rt} {vr vw : Value} (h : RtIn w role r vr vw) (k : Keep F w w') (hF : ∀ g, F g → g < w.heap.size → role g ≠ .none) (hr : ∀ g, g < w.heap.size → role' g = role g) : RtIn w' role' r vr vw := by
  have key : ∀ (l : List ByteArray) (v : Value), strs w v l → (l ≠ [] → ∀ g, v.ownBlock = some g → role g = .none) → (l ≠ [] → ∀ g, v.ownBlock = some g → role' g = .none) := fun l v hs hf hne g hg => by
    obtain ⟨A, c, rfl, h1, h2, h3⟩ := hs
    obtain ⟨b, off, rfl, hc⟩ := h3 (List.length_pos_iff.2 hne)
    obtain ⟨s0, hs0⟩ : ∃ s, l[0]? = some s := ⟨_, List.getElem?_eq_getElem (List.length_pos_iff.2 hne)⟩
    have hlt : b < w.heap.size := World.block_lt_of_cell? w _ (hc 0 s0 hs0)
    have hbg : b = g := by simpa [Value.ownBlock] using hg
    rw [← hbg, hr b hlt, hbg]
    exact hf hne g hg
  exact ⟨⟨h.lists.rd.keep2 k fun hne b hb e hf => hF b hf hb (h.fr hne b e), h.lists.wr.keep2 k fun hne b hb e hf => hF b hf hb (h.fw hne b e)⟩, key _ _ h.lists.rd h.fr, key _ _ h.lists.wr h.fw⟩

structure LifeAt (w : World) (role : Nat → Role) (k : ByteArray) (i : Nat) (x : LifeM) : Prop where
  mrk : w.ownsRow 0 48 7 x.vm x.ms.length (x.ms.flatMap markV)
  wrd : w.ownsRow 0 61 3 x.vd x.ws.length (x.ws.flatMap wordV)
  rm : ∀ g, x.vm.ownBlock = some g → role g = .mrk k i
  rw : ∀ g, x.vd.ownBlock = some g → role g = .wrd k i
  rt : RtIn w role x.r x.vr x.vw
  mls : ∀ m ∈ x.ms, RtIn w role m.m.r m.vr m.vw
theorem LifeAt.keep {F : Nat → Prop} {role role' : Nat → Role} {w w' : World} {k : ByteArray} {i : Nat} {x : LifeM} (h : LifeAt w role k i x) (K : Keep F w w') (hF : ∀ g, F g → g < w.heap.size → role g ≠ .none ∧ role g ≠ .mrk k i ∧ role g ≠ .wrd k i) (hr : ∀ g, g < w.heap.size → role' g = role g) : LifeAt w' role' k i x :=
  ⟨K.own h.mrk fun g hg hf => (hF g hf (World.ownsRow.lt h.mrk g hg).2).2.1 (h.rm g hg), K.own h.wrd fun g hg hf => (hF g hf (World.ownsRow.lt h.wrd g hg).2).2.2 (h.rw g hg),
   fun g hg => (hr g (World.ownsRow.lt h.mrk g hg).2).trans (h.rm g hg), fun g hg => (hr g (World.ownsRow.lt h.wrd g hg).2).trans (h.rw g hg),
   h.rt.keep K (fun g a b => (hF g a b).1) hr, fun m hm => (h.mls m hm).keep K (fun g a b => (hF g a b).1) hr⟩

structure IsLed (w : World) (role : Nat → Role) (G : LedM) : Prop where
  blk : w.heap[G.b]? = some (.cells #[.int .u64 G.bound, .int .u64 G.now, G.vc, .map (some G.bm)] 54 (0, 0))
  rb : role G.b = .led
  cor : w.ownsRow 0 9 1 G.vc G.cor.length (strV G.cor)
  rc : ∀ g, G.vc.ownBlock = some g → role g = .cor
  map : smap w Value.string G.bm (amap (·.1) G.rows)
  rmp : role G.bm = .map
  row : ∀ k r, aget G.rows k = some r → w.ownsRow 0 59 9 r.1 r.2.length (r.2.flatMap lifeV)
  rr : ∀ k r, aget G.rows k = some r → ∀ g, r.1.ownBlock = some g → role g = .row k
  life : ∀ k r, aget G.rows k = some r → ∀ i x, r.2[i]? = some x → LifeAt w role k i x
  low : ∀ g, role g ≠ .none → g < w.heap.size
theorem IsLed.nodup {w : World} {role : Nat → Role} {G : LedM} (h : IsLed w role G) : (akeys G.rows).Nodup := by
  have := h.map.nodup; rwa [akeys_amap] at this

/-- nothing of it is written -/
theorem IsLed.keep {F : Nat → Prop} {w w' : World} {role role' : Nat → Role} {G : LedM} (h : IsLed w role G) (K : Keep F w w') (hF : ∀ g, F g → g < w.heap.size → role g = .oth) (hr : ∀ g, g < w.heap.size → role' g = role g) (hl : ∀ g, role' g ≠ .none → g < w'.heap.size) : IsLed w' role' G := by
  have hnf : ∀ g, g < w.heap.size → role g ≠ .oth → ¬ F g := fun g hg hne hf => hne (hF g hf hg)
  have hb := (Array.getElem?_eq_some_iff.1 h.blk).1
  exact ⟨K.at h.blk (hnf _ hb (by rw [h.rb]; simp)), (hr _ hb).trans h.rb, K.own h.cor fun g hg => hnf g (World.ownsRow.lt h.cor g hg).2 (by rw [h.rc g hg]; simp), fun g hg => (hr g (World.ownsRow.lt h.cor g hg).2).trans (h.rc g hg),
    K.smap h.map (hnf _ h.map.lt (by rw [h.rmp]; simp)), (hr _ h.map.lt).trans h.rmp, fun k r hk => K.own (h.row k r hk) fun g hg => hnf g (World.ownsRow.lt (h.row k r hk) g hg).2 (by rw [h.rr k r hk g hg]; simp), fun k r hk g hg => (hr g (World.ownsRow.lt (h.row k r hk) g hg).2).trans (h.rr k r hk g hg),
    fun k r hk i x hx => (h.life k r hk i x hx).keep K (fun g a b => by rw [hF g a b]; simp) hr, hl⟩
theorem IsLed.below {w w' : World} {role : Nat → Role} {G : LedM} (h : IsLed w role G) (k : Below w.heap.size w w') : IsLed w' role G :=
  h.keep (F := fun _ => False) (Keep.of_below k) (fun _ e _ => e.elim) (fun _ _ => rfl) fun g hg => Nat.lt_of_lt_of_le (h.low g hg) k.size

/-- one life is another one -/
theorem IsLed.set {F : Nat → Prop} {w w' : World} {role role' : Nat → Role} {G : LedM} (h : IsLed w role G) {k : ByteArray} {v : Value} {xs : List LifeM} {i : Nat} {x : LifeM} (hk : aget G.rows k = some (v, xs)) (hi : xs[i]? = some x) (x' : LifeM) (K : Keep F w w')
    (hF : ∀ g, F g → g < w.heap.size → role g = .row k ∨ role g = .mrk k i ∨ role g = .wrd k i) (hr : ∀ g, g < w.heap.size → role' g = role g) (hl : ∀ g, role' g ≠ .none → g < w'.heap.size)
    (hrow : w'.ownsRow 0 59 9 v xs.length ((xs.set i x').flatMap lifeV)) (hx' : LifeAt w' role' k i x') : IsLed w' role' { G with rows := aput G.rows k (v, xs.set i x') } := by
  have hb := (Array.getElem?_eq_some_iff.1 h.blk).1
  have hnf : ∀ g, g < w.heap.size → role g ≠ .row k → role g ≠ .mrk k i → role g ≠ .wrd k i → ¬ F g := fun g hg a b c hf => by
    rcases hF g hf hg with e | e | e
    · exact a e
    · exact b e
    · exact c e
  have hmap : amap (fun p : Value × List LifeM => p.1) (aput G.rows k (v, xs.set i x')) = amap (·.1) G.rows := by
    rw [← aput_amap]
    exact aput_same (by rw [aget_amap, hk]; rfl) h.map.nodup
  refine ⟨K.at h.blk (hnf _ hb (by rw [h.rb]; simp) (by rw [h.rb]; simp) (by rw [h.rb]; simp)), (hr _ hb).trans h.rb, K.own h.cor fun g hg => hnf g (World.ownsRow.lt h.cor g hg).2 (by rw [h.rc g hg]; simp) (by rw [h.rc g hg]; simp) (by rw [h.rc g hg]; simp), fun g hg => (hr g (World.ownsRow.lt h.cor g hg).2).trans (h.rc g hg),
    ?_, (hr _ h.map.lt).trans h.rmp, fun j r hj => ?_, fun j r hj => ?_, fun j r hj => ?_, hl⟩
  · show smap w' Value.string G.bm (amap _ (aput G.rows k (v, xs.set i x')))
    rw [hmap]
    exact K.smap h.map (hnf _ h.map.lt (by rw [h.rmp]; simp) (by rw [h.rmp]; simp) (by rw [h.rmp]; simp))
  · change aget (aput G.rows k (v, xs.set i x')) j = some r at hj
    rw [aget_aput] at hj
    by_cases e : j = k
    · subst e
      rw [if_pos rfl] at hj; cases hj
      simpa using hrow
    · rw [if_neg e] at hj
      refine K.own (h.row j r hj) fun g hg => hnf g (World.ownsRow.lt (h.row j r hj) g hg).2 ?_ ?_ ?_ <;> rw [h.rr j r hj g hg] <;> simp [e]
  · change aget (aput G.rows k (v, xs.set i x')) j = some r at hj
    rw [aget_aput] at hj
    intro g hg
    by_cases e : j = k
    · subst e
      rw [if_pos rfl] at hj; cases hj
      exact (hr g (World.ownsRow.lt (h.row _ _ hk) g hg).2).trans (h.rr _ _ hk g hg)
    · rw [if_neg e] at hj
      exact (hr g (World.ownsRow.lt (h.row j r hj) g hg).2).trans (h.rr j r hj g hg)
  · change aget (aput G.rows k (v, xs.set i x')) j = some r at hj
    rw [aget_aput] at hj
    intro q y hy
    have other : ∀ (r0 : Value × List LifeM), aget G.rows j = some r0 → r0.2[q]? = some y → (j ≠ k ∨ q ≠ i) → LifeAt w' role' j q y := fun r0 h0 hy0 hne => by
      refine (h.life j r0 h0 q y hy0).keep K (fun g a b => ?_) hr
      rcases hF g a b with e | e | e <;> rw [e] <;> refine ⟨by simp, fun hh => ?_, fun hh => ?_⟩ <;> cases hh <;> exact hne.elim (fun n => n rfl) (fun n => n rfl)
    by_cases e : j = k
    · subst e
      rw [if_pos rfl] at hj; cases hj
      change (xs.set i x')[q]? = some y at hy
      by_cases eq : i = q
      · subst eq
        rw [List.getElem?_set_self (List.getElem?_eq_some_iff.1 hi).1] at hy
        cases hy; exact hx'
      · rw [List.getElem?_set_ne eq] at hy
        exact other _ hk hy (Or.inr fun e => eq e.symm)
    · rw [if_neg e] at hj
      exact other r hj hy (Or.inl e)
end Go.Proofs.YtgacfkenndhcnaaDoor
namespace Go.Proofs.YtgacfkenndhcnaaDoor
open Go.RowKit
set_option linter.unusedVariables false
set_option linter.unusedSimpArgs false

def LedM.lives (G : LedM) (k : ByteArray) : List LifeM := ((aget G.rows k).map (·.2)).getD []
def slash : ByteArray := ⟨#[47]⟩
def pathB (o f : ByteArray) : ByteArray := o ++ slash ++ f

theorem lawS : MK Tryd.prog 9 Value.string := mk_string Tryd.underlying9
theorem zero_hass (w : World) : (zeroValue 66).run Tryd.prog w = .ok (.slice none 0 0) w := by kernel_rfl
theorem IsLed.cells {w : World} {role : Nat → Role} {G : LedM} (h : IsLed w role G) : w.cell? ⟨G.b, 0, none⟩ = some (.int .u64 G.bound) ∧ w.cell? ⟨G.b, 1, none⟩ = some (.int .u64 G.now) ∧ w.cell? ⟨G.b, 2, none⟩ = some G.vc ∧ w.cell? ⟨G.b, 3, none⟩ = some (.map (some G.bm)) := by
  refine ⟨?_, ?_, ?_, ?_⟩ <;> (rw [cell_of_row _ _ _ _ _ _ h.blk]; rfl)
theorem lifeV_len (x : LifeM) : (lifeV x).length = 9 := rfl
theorem markV_len (x : MarkM) : (markV x).length = 7 := rfl
theorem wordV_len (x : Word) : (wordV x).length = 3 := rfl
/-- where the last life stands -/
theorem IsLed.last {w : World} {role : Nat → Role} {G : LedM} (h : IsLed w role G) {k : ByteArray} {v : Value} {xs : List LifeM} (hk : aget G.rows k = some (v, xs)) (h0 : 0 < xs.length) :
    ∃ g c, v = .slice (some ⟨g, 0, none⟩) xs.length c ∧ xs.length ≤ c ∧ c ≤ maxLen ∧ ∀ i x, xs[i]? = some x → ∀ j u, (lifeV x)[j]? = some u → w.cell? ⟨g, i * 9 + j, none⟩ = some u ∧ w.frozen? ⟨g, i * 9 + j, none⟩ = false := by
  obtain ⟨g, c, hv, hc, hcell⟩ := own_block (h.row k _ hk) h0
  have hm : c ≤ maxLen := by
    obtain ⟨A', c', hv', _, hm⟩ := own_slice (h.row k _ hk)
    dsimp only at hv hv'
    rw [hv] at hv'
    cases hv'
    exact hm
  refine ⟨g, c, hv, hc, hm, fun i x hx j u hu => ?_⟩
  have hj : j < 9 := (List.getElem?_eq_some_iff.1 hu).1
  exact hcell _ u (by rw [flat_get lifeV_len hx hj]; exact hu)
theorem look_row {G : LedM} {k : ByteArray} : (aget (amap (fun p : Value × List LifeM => p.1) G.rows) k).getD (Value.slice none 0 0) = ((aget G.rows k).map (·.1)).getD (.slice none 0 0) := by rw [aget_amap]

theorem clock_calls {w : World} {role : Nat → Role} {G : LedM} (h : IsLed w role G) : Calls Tryd.prog 9 #[.pointer (some ⟨G.b, 0, none⟩)] w fun e w' => e = .returned (.int .u64 G.now) ∧ w' = w := by
  have c1 := h.cells.2.1
  clear h
  go_enter Tryd.func9, Tryd.ntmps9
  go_wp2
  go_ret
  exact ⟨rfl, rfl⟩

/-- a file's life that is on, if there is one -/
def OnRet (w : World) (G : LedM) (k : ByteArray) (e : Ending) : Prop :=
  (e = .returned (.pointer none) ∧ ∀ x, (G.lives k).getLast? = some x → x.gone = true) ∨
  ∃ g n c xs x, aget G.rows k = some (.slice (some ⟨g, 0, none⟩) (n + 1) c, xs) ∧ xs.length = n + 1 ∧ xs[n]? = some x ∧ x.gone = false ∧ e = .returned (.pointer (some ⟨g, n * 9, none⟩))

set_option maxRecDepth 100000 in
set_option maxHeartbeats 1000000 in
theorem on_calls {w : World} {role : Nat → Role} {G : LedM} (h : IsLed w role G) (o f : ByteArray) (ho : o.size ≤ 1000) (hf : f.size ≤ 1000) :
    Calls Tryd.prog 18 #[.pointer (some ⟨G.b, 0, none⟩), .string o, .string f] w fun e w' => OnRet w G (pathB o f) e ∧ w' = w := by
  have c3 := h.cells.2.2.2
  have hlook := h.map.look (P := Tryd.prog) lawS (t := 52) (et := 66) Tryd.underlying52 (zero_hass w) (pathB o f) false
  simp only [Bool.false_eq_true, if_false] at hlook
  rw [look_row] at hlook
  have e1 : o ++ ⟨#[47]⟩ ++ f = pathB o f := rfl
  cases hk : aget G.rows (pathB o f) with
  | none =>
    rw [hk] at hlook
    have HL : Hid (∀ x, (G.lives (pathB o f)).getLast? = some x → x.gone = true) := Lib.hid (by unfold LedM.lives; rw [hk]; simp)
    simp only [Option.map_none, Option.getD_none] at hlook
    clear h hk
    go_enter Tryd.func18, Tryd.ntmps18
    go_wp2
    go_ret
    exact ⟨Or.inl ⟨rfl, HL.out⟩, rfl⟩
  | some r =>
    obtain ⟨v, xs⟩ := r
    rw [hk] at hlook
    simp only [Option.map_some, Option.getD_some] at hlook
    have hlv : G.lives (pathB o f) = xs := by unfold LedM.lives; rw [hk]; rfl
    by_cases h0 : xs.length = 0
    · obtain ⟨A, c, hv, _, _⟩ := own_slice (h.row _ _ hk)
      dsimp only at hv
      subst hv
      simp only [h0] at hlook
      have HL : Hid (∀ x, (G.lives (pathB o f)).getLast? = some x → x.gone = true) := Lib.hid (by rw [hlv, List.eq_nil_of_length_eq_zero h0]; simp)
      clear h hk hlv h0
      go_enter Tryd.func18, Tryd.ntmps18
      go_wp2
      go_ret
      exact ⟨Or.inl ⟨rfl, HL.out⟩, rfl⟩
    · obtain ⟨n, hn⟩ : ∃ n, xs.length = n + 1 := ⟨xs.length - 1, by omega⟩
      obtain ⟨g, c, rfl, hc, hm, hcell⟩ := h.last hk (by omega)
      have hwn : wrap64 (n : Int) = (n : Int) := by unfold maxLen at hm; simp (disch := omega) only [IntWalk.wrap64_in]
      clear hm
      rw [hn] at hlook hk hc
      obtain ⟨x, hx⟩ : ∃ x, xs[n]? = some x := ⟨_, List.getElem?_eq_getElem (by omega)⟩
      have cg := (hcell n x hx 2 _ rfl).1
      have hlast : xs.getLast? = some x := by rw [List.getLast?_eq_getElem?, hn]; exact hx
      cases hg : x.gone with
      | true =>
        rw [hg] at cg
        have HL : Hid (∀ x, (G.lives (pathB o f)).getLast? = some x → x.gone = true) := Lib.hid (by rw [hlv, hlast]; intro y hy; cases hy; exact hg)
        clear h hk hlv hcell hx hlast hg h0 hn
        go_enter Tryd.func18, Tryd.ntmps18
        go_wp2
        go_ret
        exact ⟨Or.inl ⟨rfl, HL.out⟩, rfl⟩
      | false =>
        rw [hg] at cg
        have HL : Hid (aget G.rows (pathB o f) = some (.slice (some ⟨g, 0, none⟩) (n + 1) c, xs) ∧ xs.length = n + 1 ∧ xs[n]? = some x ∧ x.gone = false) := ⟨hk, hn, hx, hg⟩
        clear h hk hlv hcell hx hlast hg h0 hn
        go_enter Tryd.func18, Tryd.ntmps18
        go_wp2
        go_ret
        exact ⟨Or.inr ⟨g, n, c, xs, x, HL.out.1, HL.out.2.1, HL.out.2.2.1, HL.out.2.2.2, rfl⟩, rfl⟩
end Go.Proofs.YtgacfkenndhcnaaDoor
namespace Go.Proofs.YtgacfkenndhcnaaDoor
open Go.RowKit
set_option linter.unusedVariables false
set_option linter.unusedSimpArgs false

theorem newled_calls (w : World) (bound : Int) : Calls Tryd.prog 5 #[.int .u64 bound] w fun e w' => ∃ role, e = .returned (.pointer (some ⟨w.heap.size + 1, 0, none⟩)) ∧ IsLed w' role ⟨w.heap.size + 1, w.heap.size, bound, 0, .slice none 0 0, [], []⟩ ∧ Below w.heap.size w w' ∧ ∀ g, g < w.heap.size → role g = .none := by
  have hmm := @run_makeMap Tryd.prog
  go_enter Tryd.func5, Tryd.ntmps5
  go_wp2
  go_ret
  refine ⟨fun g => if g = w.heap.size + 1 then .led else if g = w.heap.size then .map else .none, rfl, ⟨?_, ?_, own_nil _ _ _ _, (by intro g hg; cases hg), ?_, ?_, (by simp [aget]), (by simp [aget]), (by simp [aget]), ?_⟩, ?_, ?_⟩
  · show (World.alloc _ _).heap[w.heap.size + 1]? = _
    rw [get_alloc, size_alloc]; simp
  · simp
  · exact (smap_made w Value.string).alloc _
  · simp
  · intro g hg
    rw [size_alloc, size_alloc]
    by_cases h1 : g = w.heap.size + 1
    · omega
    · by_cases h2 : g = w.heap.size
      · omega
      · simp [h1, h2] at hg
  · exact (((Below.refl _ _).alloc (Nat.le_refl _) _).alloc (by simp) _)
  · intro g hg; simp [show g ≠ w.heap.size + 1 by omega, show g ≠ w.heap.size by omega]

theorem hasPrefix_calls (s p : ByteArray) (w : World) : Calls Tryd.prog 38 #[.string s, .string p] w fun e w' => e = .returned (.bool (Lib.hasPrefix s.data.toList p.data.toList)) ∧ w' = w := Any.strings_HasPrefix Tryd.laysHp s p w

/-! ### one mark more -/
theorem info_mark : (Tryd.prog.info? 48).map (fun i => (i.zero, i.size, i.bytes)) = some (some (.agg #[.int .u64 0, .int .u64 0, .string ⟨#[]⟩, .string ⟨#[]⟩, .int .i64 0, .slice none 0 0, .slice none 0 0]), 7, 104) := by kernel_rfl
theorem append_mark {w : World} {v : Value} {ms : List MarkM} (ho : w.ownsRow 0 48 7 v ms.length (ms.flatMap markV)) (m : MarkM) (h1 : m.vr.oneCell' = true) (h2 : m.vw.oneCell' = true) (hl : ms.length ≤ 100000) :
    ∃ A c w', (Builtin.append_ #[41, 41] 41 #[v, .slice (some ⟨w.heap.size, 0, none⟩) 1 1]).run Tryd.prog (w.alloc (.cells #[.int .u64 m.m.t, .int .u64 m.m.v, .string m.m.r.owner, .string m.m.r.file, .int .i64 m.m.r.epoch, m.vr, m.vw] 48)) = .ok (.slice A (ms.length + 1) c) w' ∧
      w'.ownsRow 0 48 7 (.slice A (ms.length + 1) c) (ms ++ [m]).length ((ms ++ [m]).flatMap markV) ∧ Keep (fun i => v.ownBlock = some i) w w' ∧ ((Value.slice A (ms.length + 1) c).ownBlock = v.ownBlock ∨ (Value.slice A (ms.length + 1) c).ownBlock = some (w.heap.size + 1)) ∧ w.heap.size < w'.heap.size := by
  obtain ⟨i0, hi, hz0, hz1, hz2⟩ := info_parts info_mark
  have ho1 : (w.alloc (.cells #[.int .u64 m.m.t, .int .u64 m.m.v, .string m.m.r.owner, .string m.m.r.file, .int .i64 m.m.r.epoch, m.vr, m.vw] 48)).ownsRow 0 48 7 v ms.length (ms.flatMap markV) := ho.alloc _
  obtain ⟨v', w', hr, g2, g3, g4, g5⟩ := run_append_own_at (P := Tryd.prog) (w.alloc (.cells #[.int .u64 m.m.t, .int .u64 m.m.v, .string m.m.r.owner, .string m.m.r.file, .int .i64 m.m.r.epoch, m.vr, m.vw] 48)) 0 41 41 48 i0 _ 7 104 Tryd.underlying41 hi hz0 hz1 hz2 rfl (by decide) v ms.length (ms.flatMap markV) ho1
    ⟨w.heap.size, 0, none⟩ 1 1 (markV m) rfl (fun j u hj => by rw [add_at, Nat.zero_add, cell_of_row _ _ _ _ _ _ (MapKept.heap_alloc w _).1, ← Array.getElem?_toList]; exact hj) (by intro u hu; simp only [markV, List.mem_cons, List.not_mem_nil, or_false] at hu; rcases hu with rfl | rfl | rfl | rfl | rfl | rfl | rfl <;> first | rfl | exact h1 | exact h2) (by unfold maxLen; omega) (by omega) (Nat.zero_le _)
  have hex : ∃ A c, v' = .slice A (ms.length + 1) c := by
    rcases g2.2 with ⟨rfl, h0⟩ | ⟨g, cap, cur, hv, _⟩
    · omega
    · exact ⟨_, _, hv⟩
  obtain ⟨A, c, rfl⟩ := hex
  refine ⟨A, c, w', hr, by rw [flat_snoc]; simpa using g2, ?_, by simpa [size_alloc] using g5, by have := g3.size; rw [size_alloc] at this; exact this⟩
  exact (Keep.alloc _ w _).same (Keep.of_grown g3 fun k hk => hk)
end Go.Proofs.YtgacfkenndhcnaaDoor
namespace Go.Proofs.YtgacfkenndhcnaaDoor
open Go.RowKit
set_option linter.unusedVariables false
set_option linter.unusedSimpArgs false

def LifeM.mark (x : LifeM) (now : Int) : MarkM := ⟨⟨now, x.ver, x.r⟩, x.vr, x.vw⟩
def LifeM.marked (x : LifeM) (now : Int) (vm : Value) : LifeM := { x with ms := x.ms ++ [x.mark now], vm := vm }
theorem IsLed.marked {w w1 : World} {role : Nat → Role} {G : LedM} (h : IsLed w role G) {k : ByteArray} {g n c : Nat} {xs : List LifeM} (hk : aget G.rows k = some (.slice (some ⟨g, 0, none⟩) n c, xs)) {i : Nat} {x : LifeM} (hx : xs[i]? = some x) {u : Value}
    (h2 : w1.ownsRow 0 48 7 u (x.ms ++ [x.mark G.now]).length ((x.ms ++ [x.mark G.now]).flatMap markV)) (K1 : Keep (fun q => x.vm.ownBlock = some q) w w1) (loc : u.ownBlock = x.vm.ownBlock ∨ u.ownBlock = some (w.heap.size + 1)) (hsz : w.heap.size < w1.heap.size) :
    ∃ role', IsLed (w1.setCell ⟨g, i * 9, none⟩ u) role' { G with rows := aput G.rows k (.slice (some ⟨g, 0, none⟩) n c, xs.set i (x.marked G.now u)) } ∧ Keep (fun q => role q ≠ .none) w (w1.setCell ⟨g, i * 9, none⟩ u) ∧ ∀ q, q < w.heap.size → role' q = role q := by
  have hL := h.life k _ hk i x hx
  have hg : role g = .row k := h.rr k _ hk g rfl
  have hgl : g < w.heap.size := h.low g (by rw [hg]; simp)
  have hn : n = xs.length := by
    obtain ⟨A, c', hv, _, _⟩ := own_slice (h.row k _ hk)
    dsimp only at hv; cases hv; rfl
  subst hn
  have hug : u.ownBlock ≠ some g := fun e => by
    rcases loc with e2 | e2
    · have := hL.rm g (e2.symm.trans e); rw [hg] at this; cases this
    · rw [e2] at e; cases e; omega
  have K2 : Keep (fun q => q = g) w1 (w1.setCell ⟨g, i * 9, none⟩ u) := Keep.setCell (fun q => q = g) w1 (p := ⟨g, i * 9, none⟩) rfl u
  have K : Keep (fun q => x.vm.ownBlock = some q ∨ q = g) w (w1.setCell ⟨g, i * 9, none⟩ u) := (K1.mono fun q e => Or.inl e).trans K2 fun q e => Or.inl (Or.inr e)
  have hr : ∀ q, q < w.heap.size → (if u.ownBlock = some q then Role.mrk k i else role q) = role q := fun q hq => by
    by_cases e : u.ownBlock = some q
    · rw [if_pos e]
      rcases loc with e2 | e2
      · exact (hL.rm q (e2.symm.trans e)).symm
      · rw [e2] at e; cases e; omega
    · rw [if_neg e]
  have hF : ∀ q, (x.vm.ownBlock = some q ∨ q = g) → q < w.heap.size → role q = .row k ∨ role q = .mrk k i ∨ role q = .wrd k i := fun q e _ => by
    rcases e with e | rfl
    · exact Or.inr (Or.inl (hL.rm q e))
    · exact Or.inl hg
  refine ⟨fun q => if u.ownBlock = some q then .mrk k i else role q, ?_, K.mono fun q e => ?_, hr⟩
  · refine h.set hk hx _ K hF hr (fun q hq => ?_) ?_ ⟨?_, ?_, ?_, ?_, ?_, ?_⟩
    · by_cases e : u.ownBlock = some q
      · exact Nat.lt_of_lt_of_le (World.ownsRow.lt h2 q e).2 K2.size
      · simp only [if_neg e] at hq
        exact Nat.lt_of_lt_of_le (h.low q hq) K.size
    · have h0 := K1.own (h.row k _ hk) fun q hq e => by
        have a := hL.rm q e
        have b := h.rr k _ hk q hq
        rw [a] at b; cases b
      have := (h0.stored (i * 9) u).1
      dsimp only at this
      rwa [show i * 9 = i * 9 + 0 from rfl, ← flat_set lifeV_len hx (x' := x.marked G.now u) (by omega) rfl] at this
    · exact K2.own h2 fun q hq e => by subst e; exact hug hq
    · refine K.own hL.wrd fun q hq e => ?_
      have a := hL.rw q hq
      rcases hF q e (World.ownsRow.lt hL.wrd q hq).2 with b | b | b
      · rw [a] at b; cases b
      · rw [a] at b; cases b
      · rcases e with e | rfl
        · have := hL.rm q e; rw [a] at this; cases this
        · rw [hg] at a; cases a
    · intro q hq; exact if_pos hq
    · intro q hq
      exact (hr q (World.ownsRow.lt hL.wrd q hq).2).trans (hL.rw q hq)
    · exact hL.rt.keep K (fun q e hq => by rcases hF q e hq with b | b | b <;> rw [b] <;> simp) hr
    · intro m hm
      rcases List.mem_append.1 hm with hm | hm
      · exact (hL.mls m hm).keep K (fun q e hq => by rcases hF q e hq with b | b | b <;> rw [b] <;> simp) hr
      · have : m = x.mark G.now := by simpa using hm
        subst this
        exact hL.rt.keep K (fun q e hq => by rcases hF q e hq with b | b | b <;> rw [b] <;> simp) hr
  · rcases e with e | rfl
    · rw [hL.rm q e]; simp
    · rw [hg]; simp

/-! ### mark -/
def addMark (now : Int) (x : Life) : Life := { x with marks := x.marks ++ [⟨now, x.ver, x.r⟩] }
def markLast (now : Int) (ls : List Life) : List Life := match ls.getLast? with | some x => if x.gone then ls else ls.set (ls.length - 1) (addMark now x) | none => ls
def LedM.pure (G : LedM) : List (ByteArray × List Life) := amap (fun p => p.2.map LifeM.life) G.rows
def markIn (now : Int) (who : ByteArray) (k : ByteArray) (ls : List Life) : List Life := if Lib.hasPrefix k.data.toList (who ++ slash).data.toList then markLast now ls else ls
def valsOf (rows : LRows) : List (ByteArray × Value) := amap (·.1) rows
/-- between the rounds -/
structure MarkRel (w wr : World) (role : Nat → Role) (G : LedM) (who : ByteArray) (it : Nat) (roler : Nat → Role) (rows : LRows) (left : ByteArray → Bool) (cnt : Nat) : Prop where
  led : IsLed wr roler { G with rows := rows }
  rng : srange wr Value.string G.bm it (valsOf G.rows) left cnt
  oth : roler it = .oth
  same : valsOf rows = valsOf G.rows
  todo : ∀ k, left k = true → aget rows k = aget G.rows k
  pure : amap (fun p : Value × List LifeM => p.2.map LifeM.life) rows = G.pure.map fun p => (p.1, if left p.1 then p.2 else markIn G.now who p.1 p.2)
  keep : Keep (fun q => role q ≠ .none) w wr
  old : ∀ q, q < w.heap.size → roler q = role q
theorem markrel_start {w w0 : World} {role : Nat → Role} {G : LedM} (h : IsLed w role G) (who : ByteArray) (hr : srange w0 Value.string G.bm w.heap.size (valsOf G.rows) (fun a : ByteArray => (aget (valsOf G.rows) a).isSome) (valsOf G.rows).length) (hg : w.grownBy w0 none) (hs : w0.heap.size = w.heap.size + 1) :
    MarkRel w w0 role G who w.heap.size (fun q => if q = w.heap.size then .oth else role q) G.rows (fun a : ByteArray => (aget (valsOf G.rows) a).isSome) (valsOf G.rows).length := by
  have K : Keep (fun _ => False) w w0 := Keep.of_grown hg fun k hk => by cases hk
  have hro : ∀ q, q < w.heap.size → (if q = w.heap.size then Role.oth else role q) = role q := fun q hq => if_neg (by omega)
  refine ⟨h.keep K (fun g e _ => e.elim) hro (fun q hq => ?_), hr, if_pos rfl, rfl, fun _ _ => rfl, ?_, K.mono fun _ e => e.elim, hro⟩
  · by_cases e : q = w.heap.size
    · omega
    · simp only [if_neg e] at hq; have := h.low q hq; omega
  · show G.pure = _
    conv => lhs; rw [← List.map_id G.pure]
    apply List.map_congr_left
    intro p hp
    have : (aget (valsOf G.rows) p.1).isSome = true := by
      refine aget_isSome.2 ?_
      unfold valsOf; rw [akeys_amap]
      have h1 : p.1 ∈ akeys G.pure := List.mem_map.2 ⟨p, hp, rfl⟩
      unfold LedM.pure at h1; rwa [akeys_amap] at h1
    simp [this]
end Go.Proofs.YtgacfkenndhcnaaDoor
