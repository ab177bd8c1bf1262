/- What a step leaves of a ledger: plain. Lives handed out: words copied, marks copied; in memory. -/
import Derived.Test.YtgacfkenndhcnaaDoorZL4
import Derived.Deep.MidRow
namespace Go.Proofs.YtgacfkenndhcnaaDoor
open Go.RowKit
set_option linter.unusedVariables false
set_option linter.unusedSimpArgs false

def lifeHas (x : Life) (V : Int) : Bool := x.marks.any fun m => decide (m.v = V)
def wordsP (P : PLed) (s : StA) : PLed := match (P.at (pathB s.owner s.file)).findIdx? (fun x => lifeHas x s.ver) with
  | none => P
  | some i => aput P (pathB s.owner s.file) ((P.at (pathB s.owner s.file)).modify i fun x => { x with words := x.words ++ [⟨s.who, s.text, s.epoch⟩] })
def goneP (P : PLed) (k : ByteArray) : PLed := match lifeOn (P.at k) with
  | none => P
  | some x => aput P k ((P.at k).set ((P.at k).length - 1) { x with gone := true })
def markP (now : Int) (who : ByteArray) (P : PLed) : PLed := P.map fun p => (p.1, markIn now who p.1 p.2)
structure PS where
  now : Int
  cor : List ByteArray
  P : PLed
def noteP (S : PS) (s : StA) : PS :=
  if doneB s = false then S
  else if s.kind = 116 then { S with now := IntKind.u64.wrap (S.now + s.n) }
  else if s.kind = 120 then { S with cor := if memB s.who S.cor then S.cor else S.cor ++ [s.who] }
  else if s.kind = 119 then { S with P := wordsP S.P s }
  else if s.kind = 99 then { S with P := markP S.now s.who (beginP S.P s.who s.file) }
  else if s.kind = 103 ∨ s.kind = 107 then { S with P := markP S.now s.who (changeP S.P s) }
  else if s.kind = 109 then { S with P := markP S.now s.who (goneP S.P (pathB s.who s.file)) }
  else if s.kind = 102 then { S with P := markP S.now s.who S.P }
  else S

/-! ### a ledger is small, and its rights are right -/
def LifeOk (N : Nat) (x : Life) : Prop := x.marks.length ≤ N ∧ x.words.length ≤ N ∧ x.r.right = true ∧ ∀ m ∈ x.marks, m.r.right = true
def LsOk (N : Nat) (ls : List Life) : Prop := ls.length ≤ N ∧ ∀ x ∈ ls, LifeOk N x
def POk (N : Nat) (P : PLed) : Prop := ∀ k ls, aget P k = some ls → LsOk N ls
theorem LifeOk.mono {N M : Nat} {x : Life} (h : LifeOk N x) (hm : N ≤ M) : LifeOk M x := ⟨Nat.le_trans h.1 hm, Nat.le_trans h.2.1 hm, h.2.2⟩
theorem LsOk.mono {N M : Nat} {ls : List Life} (h : LsOk N ls) (hm : N ≤ M) : LsOk M ls := ⟨Nat.le_trans h.1 hm, fun x hx => (h.2 x hx).mono hm⟩
theorem POk.mono {N M : Nat} {P : PLed} (h : POk N P) (hm : N ≤ M) : POk M P := fun k ls hk => (h k ls hk).mono hm
theorem POk.at {N : Nat} {P : PLed} (h : POk N P) (k : ByteArray) : LsOk N (P.at k) := by
  unfold PLed.at
  cases hk : aget P k with
  | none => exact ⟨Nat.zero_le _, fun x hx => by cases hx⟩
  | some ls => exact h k ls hk
theorem POk.put {N : Nat} {P : PLed} (h : POk N P) (k : ByteArray) {ls : List Life} (hl : LsOk N ls) : POk N (aput P k ls) := by
  intro j l hj
  rw [aget_aput] at hj
  split at hj
  · cases hj; exact hl
  · exact h j l hj
theorem LsOk.set {N : Nat} {ls : List Life} (h : LsOk N ls) (i : Nat) {x : Life} (hx : LifeOk N x) : LsOk N (ls.set i x) := by
  refine ⟨by rw [List.length_set]; exact h.1, fun y hy => ?_⟩
  rcases List.mem_or_eq_of_mem_set hy with hy | rfl
  · exact h.2 y hy
  · exact hx
theorem LsOk.last {N : Nat} {ls : List Life} (h : LsOk N ls) {x : Life} (hx : ls.getLast? = some x) : LifeOk N x := h.2 x (List.mem_of_getLast? hx)
theorem lifeOn_last {ls : List Life} {x : Life} (h : lifeOn ls = some x) : ls.getLast? = some x ∧ x.gone = false := by
  unfold lifeOn at h
  cases hl : ls.getLast? with
  | none => rw [hl] at h; cases h
  | some y =>
    rw [hl] at h
    dsimp only at h
    cases hg : y.gone with
    | true => rw [hg, if_pos rfl] at h; cases h
    | false => rw [hg, if_neg (by decide)] at h; cases h; exact ⟨rfl, hg⟩
theorem newR_ok {o f : ByteArray} (h : (newR o f).2 = 0) : nameR o = true ∧ nameR f = true ∧ (newR o f).1 = ⟨o, f, 0, [], []⟩ := by
  unfold newR at h ⊢
  split at h
  · rename_i hc
    rw [if_pos hc]
    simp at hc
    exact ⟨hc.1, hc.2, rfl⟩
  · simp at h
theorem POk.begin {N : Nat} {P : PLed} (h : POk N P) (o f : ByteArray) : POk (N + 1) (beginP P o f) := by
  unfold beginP
  split
  · rename_i hc
    obtain ⟨h1, h2, h3⟩ := newR_ok hc.1
    have ha := h.at (pathB o f)
    refine (h.mono (Nat.le_succ N)).put _ ⟨by rw [List.length_append]; exact Nat.succ_le_succ ha.1, fun x hx => ?_⟩
    rcases List.mem_append.1 hx with hx | hx
    · exact (ha.2 x hx).mono (Nat.le_succ N)
    · rw [List.mem_singleton] at hx
      subst hx
      exact ⟨Nat.zero_le _, Nat.zero_le _, by show (newR o f).1.right = true; rw [h3]; exact right_new h1 h2, fun m hm => by cases hm⟩
  · exact h.mono (Nat.le_succ N)
theorem rtDo_ok {s : StA} {r : Rt} (h : (rtDo s r).2 = 0) : (rtDo s r).1.right = true ∧ (rtDo s r).1.owner = r.owner ∧ (rtDo s r).1.file = r.file := by
  unfold rtDo at h ⊢
  split at h
  · rename_i hc
    rw [if_pos hc]
    exact ⟨(Rt.grant_ok h).1, (Rt.grant_ok h).2.1, (Rt.grant_ok h).2.2.1⟩
  · rename_i hc
    rw [if_neg hc]
    exact ⟨(Rt.revoke_ok h).1, (Rt.revoke_ok h).2.1, (Rt.revoke_ok h).2.2.1⟩
theorem POk.change {N : Nat} {P : PLed} (h : POk N P) (s : StA) : POk N (changeP P s) := by
  unfold changeP
  cases hl : lifeOn (P.at (pathB s.who s.file)) with
  | none => exact h
  | some x =>
    dsimp only
    split
    · rename_i hc
      have hx := (h.at (pathB s.who s.file)).last (lifeOn_last hl).1
      exact h.put _ ((h.at _).set _ ⟨hx.1, hx.2.1, (rtDo_ok hc).1, hx.2.2.2⟩)
    · exact h
theorem POk.gone {N : Nat} {P : PLed} (h : POk N P) (k : ByteArray) : POk N (goneP P k) := by
  unfold goneP
  cases hl : lifeOn (P.at k) with
  | none => exact h
  | some x =>
    have hx := (h.at k).last (lifeOn_last hl).1
    exact h.put _ ((h.at _).set _ ⟨hx.1, hx.2.1, hx.2.2⟩)
theorem aget_markP (now : Int) (who : ByteArray) (P : PLed) (k : ByteArray) : aget (markP now who P) k = (aget P k).map (markIn now who k) := by
  unfold markP
  induction P with
  | nil => rfl
  | cons p P ih =>
    rw [List.map_cons, aget_cons, aget_cons]
    by_cases e : p.1 = k
    · rw [if_pos e, if_pos e, ← e]; rfl
    · rw [if_neg e, if_neg e, ih]
theorem POk.mark {N : Nat} {P : PLed} (h : POk N P) (now : Int) (who : ByteArray) : POk (N + 1) (markP now who P) := by
  intro k ls hk
  rw [aget_markP] at hk
  cases hp : aget P k with
  | none => rw [hp] at hk; cases hk
  | some l =>
    rw [hp] at hk
    cases hk
    have hl := h k l hp
    unfold markIn
    split
    · unfold markLast
      cases hg : l.getLast? with
      | none => exact hl.mono (Nat.le_succ N)
      | some x =>
        dsimp only
        split
        · exact hl.mono (Nat.le_succ N)
        · have hx := hl.last hg
          exact (hl.mono (Nat.le_succ N)).set _ ⟨by show (x.marks ++ [_]).length ≤ N + 1; rw [List.length_append]; exact Nat.succ_le_succ hx.1, Nat.le_succ_of_le hx.2.1, hx.2.2.1, fun m hm => by
            rcases List.mem_append.1 hm with hm | hm
            · exact hx.2.2.2 m hm
            · rw [List.mem_singleton] at hm; subst hm; exact hx.2.2.1⟩
    · exact hl.mono (Nat.le_succ N)
theorem POk.words {N : Nat} {P : PLed} (h : POk N P) (s : StA) : POk (N + 1) (wordsP P s) := by
  unfold wordsP
  cases hi : (P.at (pathB s.owner s.file)).findIdx? (fun x => lifeHas x s.ver) with
  | none => exact h.mono (Nat.le_succ N)
  | some i =>
    have ha := h.at (pathB s.owner s.file)
    refine (h.mono (Nat.le_succ N)).put _ ⟨by rw [List.length_modify]; exact Nat.le_succ_of_le ha.1, fun y hy => ?_⟩
    obtain ⟨j, hj⟩ := List.getElem?_of_mem hy
    rw [List.getElem?_modify] at hj
    cases hx : (P.at (pathB s.owner s.file))[j]? with
    | none => rw [hx] at hj; cases hj
    | some x =>
      rw [hx] at hj
      have hxo := ha.2 x (List.mem_of_getElem? hx)
      split at hj
      · cases hj
        exact ⟨Nat.le_succ_of_le hxo.1, by show (x.words ++ [_]).length ≤ N + 1; rw [List.length_append]; exact Nat.succ_le_succ hxo.2.1, hxo.2.2⟩
      · cases hj; exact hxo.mono (Nat.le_succ N)
theorem POk.note {N : Nat} {S : PS} (h : POk N S.P) (s : StA) : POk (N + 2) (noteP S s).P := by
  unfold noteP
  have h2 : POk (N + 2) S.P := h.mono (by omega)
  split
  · exact h2
  split
  · exact h2
  split
  · exact h2
  split
  · exact (h.words s).mono (by omega)
  split
  · exact (h.begin _ _).mark _ _
  split
  · exact ((h.change s).mark _ _).mono (by omega)
  split
  · exact ((h.gone _).mark _ _).mono (by omega)
  split
  · exact (h.mark _ _).mono (by omega)
  · exact h2
theorem cor_note {S : PS} (s : StA) : (noteP S s).cor.length ≤ S.cor.length + 1 := by
  unfold noteP
  repeat' split
  all_goals simp
  all_goals (try split)
  all_goals simp
end Go.Proofs.YtgacfkenndhcnaaDoor
namespace Go.Proofs.YtgacfkenndhcnaaDoor
open Go.RowKit
set_option linter.unusedVariables false
set_option linter.unusedSimpArgs false

theorem wp_stop_load {P : Program} {w : World} {ops : Array Oper} {rest : List Oper} {o : Oper} {a : Act} {Q : Exit → Act → World → Prop} (p : Operand) (t : TypeId) (hop : o.op = Op.load t p) (h : Stop (wpList P ops Q (o :: rest) a w)) : wpList P ops Q (o :: rest) a w := h
theorem flat_at {α : Type} {f : α → List Value} {k : Nat} (hf : ∀ x, (f x).length = k) {l : List α} {j : Nat} {u : Value} (h : (l.flatMap f)[j]? = some u) : ∃ i x r, l[i]? = some x ∧ (f x)[r]? = some u ∧ j = i * k + r := by
  induction l generalizing j with
  | nil => simp at h
  | cons y l ih =>
    rw [List.flatMap_cons] at h
    by_cases hj : j < (f y).length
    · rw [List.getElem?_append_left hj] at h
      exact ⟨0, y, j, rfl, h, by rw [Nat.zero_mul, Nat.zero_add]⟩
    · rw [List.getElem?_append_right (by omega)] at h
      obtain ⟨i, x, r, h1, h2, h3⟩ := ih h
      rw [hf] at h3 hj
      exact ⟨i + 1, x, r, h1, h2, by rw [Nat.succ_mul]; omega⟩
theorem wordV_one (l : List Word) : ∀ u ∈ l.flatMap wordV, u.oneCell' = true := by
  intro u hu
  obtain ⟨x, _, hx⟩ := List.mem_flatMap.1 hu
  simp only [wordV, List.mem_cons, List.not_mem_nil, or_false] at hx
  rcases hx with rfl | rfl | rfl <;> rfl
set_option maxHeartbeats 800000 in
theorem clone_words {w : World} {v : Value} {l : List Word} (h : rowsOf 3 wordV w v l) (hb : l.length * 40 ≤ 140737488355328) : Calls Tryd.prog 20 #[v] w fun e w' => ∃ v', e = .returned v' ∧ w'.ownsRow w.heap.size 61 3 v' l.length (l.flatMap wordV) ∧ Below w.heap.size w w' := by
  obtain ⟨A, c, rfl, h1, h2, h3⟩ := h
  have hnil := Lib.run_eql_slice_nil (P := Tryd.prog)
  cases A with
  | none =>
    have hl : l = [] := by
      cases l with
      | nil => rfl
      | cons x l => obtain ⟨b, off, e, _⟩ := h3 (by simp); cases e
    subst hl
    go_enter Tryd.func20, Tryd.ntmps20
    go_wp2
    go_ret
    exact ⟨_, rfl, own_nil _ _ _ _, Below.refl _ _⟩
  | some ad =>
    obtain ⟨i0, hi, hz0, hz1, hz2⟩ := info_parts info_word
    obtain ⟨v', w', hr, o1, o2, o3, o4⟩ := run_append_own_at (P := Tryd.prog) (w.alloc (.cells #[] 61)) w.heap.size 42 42 61 i0 _ 3 40 Tryd.underlying42 hi hz0 hz1 hz2 rfl (by decide)
      (.slice (some ⟨w.heap.size, 0, none⟩) 0 0) 0 [] (World.ownsRow_made w #[] 0 (Nat.le_refl _) (Nat.zero_le _) rfl) ad l.length c (l.flatMap wordV) (by rw [flat_len wordV_len]) (fun j u hj => by
        obtain ⟨i, x, r, e1, e2, rfl⟩ := flat_at wordV_len hj
        have hlt := (List.getElem?_eq_some_iff.1 e1).1
        obtain ⟨b, off, e', hc⟩ := h3 (by omega)
        cases e'
        rw [add_at, ← Nat.add_assoc]
        exact (Keep.alloc (fun _ => False) w _).cell (hc i x e1 r u e2) fun e => e) (wordV_one l) (by unfold maxLen; omega) (by omega) (by rw [size_alloc]; omega)
    have hbl : Below w.heap.size w w' := ((Below.refl _ w).alloc (Nat.le_refl _) _).grown o2 (by simp) (fun k hk => by simp [Value.ownBlock] at hk; omega)
    simp only [Nat.zero_add, List.nil_append] at o1
    have H1 := Lib.hid o1
    have H2 := Lib.hid hbl
    clear o1 o2 o3 o4 hbl h3
    go_enter Tryd.func20, Tryd.ntmps20
    go_wp2_with (at_builtin; refine wp_append_run rfl _ _ _ rfl rfl rfl hr ?_)
    go_ret
    exact ⟨_, rfl, H1.out, H2.out⟩
/-! ### a life that is handed out -/
def outC (x : LifeM) : List Value := [x.vm, x.vd, .bool x.gone]
theorem outC_len (x : LifeM) : (outC x).length = 3 := rfl
def LifeM.told (x : LifeM) : List Mark × List Word × Bool := (x.ms.map (·.m), x.ws, x.gone)
structure MkAt (w : World) (m : MarkM) : Prop where
  rd : w.ownsRow 0 9 1 m.vr m.m.r.rd.length (strV m.m.r.rd)
  wr : w.ownsRow 0 9 1 m.vw m.m.r.wr.length (strV m.m.r.wr)
def MarkM.uses (m : MarkM) (g : Nat) : Prop := m.vr.ownBlock = some g ∨ m.vw.ownBlock = some g
structure LfAt (w : World) (x : LifeM) : Prop where
  mrk : w.ownsRow 0 48 7 x.vm x.ms.length (x.ms.flatMap markV)
  wrd : w.ownsRow 0 61 3 x.vd x.ws.length (x.ws.flatMap wordV)
  mls : ∀ m ∈ x.ms, MkAt w m
def LifeM.uses (x : LifeM) (g : Nat) : Prop := x.vm.ownBlock = some g ∨ x.vd.ownBlock = some g ∨ ∃ m ∈ x.ms, m.uses g
theorem MkAt.keep {F : Nat → Prop} {w w' : World} {m : MarkM} (h : MkAt w m) (K : Keep F w w') (hF : ∀ g, m.uses g → ¬ F g) : MkAt w' m := ⟨K.own h.rd fun g hg => hF g (Or.inl hg), K.own h.wr fun g hg => hF g (Or.inr hg)⟩
theorem MkAt.lt {w : World} {m : MarkM} (h : MkAt w m) {g : Nat} (hg : m.uses g) : g < w.heap.size := by
  rcases hg with hg | hg
  · exact (World.ownsRow.lt h.rd g hg).2
  · exact (World.ownsRow.lt h.wr g hg).2
theorem LfAt.keep {F : Nat → Prop} {w w' : World} {x : LifeM} (h : LfAt w x) (K : Keep F w w') (hF : ∀ g, x.uses g → ¬ F g) : LfAt w' x :=
  ⟨K.own h.mrk fun g hg => hF g (Or.inl hg), K.own h.wrd fun g hg => hF g (Or.inr (Or.inl hg)), fun m hm => (h.mls m hm).keep K fun g hg => hF g (Or.inr (Or.inr ⟨m, hm, hg⟩))⟩
theorem LfAt.lt {w : World} {x : LifeM} (h : LfAt w x) {g : Nat} (hg : x.uses g) : g < w.heap.size := by
  rcases hg with hg | hg | ⟨m, hm, hg⟩
  · exact (World.ownsRow.lt h.mrk g hg).2
  · exact (World.ownsRow.lt h.wrd g hg).2
  · exact (h.mls m hm).lt hg

/-- between the inner rounds -/
structure MkRel (w0 : World) (Z : Nat) (ms : List MarkM) (vd : Value) (gone : Bool) (k : Nat) (vm : Value) (done : List MarkM) (wr : World) : Prop where
  len : done.length = k
  blk : wr.heap[Z]? = some (.cells #[vm, vd, .bool gone] 44 (0, 0))
  row : wr.ownsRow 0 48 7 vm done.length (done.flatMap markV)
  new : ∀ g, vm.ownBlock = some g → w0.heap.size ≤ g
  at' : ∀ m ∈ done, MkAt wr m
  mnew : ∀ m ∈ done, ∀ g, m.uses g → w0.heap.size ≤ g ∧ vm.ownBlock ≠ some g
  eq : done.map (·.m) = (ms.take k).map (·.m)
  keep : Keep (fun q => q = Z) w0 wr
theorem MkRel.start {w0 : World} {Z : Nat} (ms : List MarkM) {vd : Value} {gone : Bool} (h : w0.heap[Z]? = some (.cells #[.slice none 0 0, vd, .bool gone] 44 (0, 0))) : MkRel w0 Z ms vd gone 0 (.slice none 0 0) [] w0 :=
  ⟨rfl, h, own_nil _ _ _ _, (by intro g hg; cases hg), (by intro m hm; cases hm), (by intro m hm; cases hm), rfl, Keep.refl _ _⟩
theorem MkRel.step {w0 : World} {Z : Nat} {ms : List MarkM} {vd : Value} {gone : Bool} {k : Nat} {vm : Value} {done : List MarkM} {wr wd wf : World} (h : MkRel w0 Z ms vd gone k vm done wr) (hZ : Z < w0.heap.size) {x : MarkM} (hx : ms[k]? = some x) (hb : Below wr.heap.size wr wd) {vr vw : Value} (hm : MkAt wd ⟨x.m, vr, vw⟩) (hn : ∀ g, (⟨x.m, vr, vw⟩ : MarkM).uses g → wr.heap.size ≤ g)
    {vm' : Value} (ho : wf.ownsRow 0 48 7 vm' (done ++ [(⟨x.m, vr, vw⟩ : MarkM)]).length ((done ++ [(⟨x.m, vr, vw⟩ : MarkM)]).flatMap markV)) (hk : Keep (fun q => vm.ownBlock = some q) wd wf) (loc : vm'.ownBlock = vm.ownBlock ∨ vm'.ownBlock = some (wd.heap.size + 1)) :
    MkRel w0 Z ms vd gone (k + 1) vm' (done ++ [⟨x.m, vr, vw⟩]) (wf.setCell ⟨Z, 0, none⟩ vm') := by
  have K2 : Keep (fun q => q = Z) wf (wf.setCell ⟨Z, 0, none⟩ vm') := Keep.setCell (fun q => q = Z) wf (p := ⟨Z, 0, none⟩) rfl _
  have hvm : ∀ g, vm.ownBlock = some g → g < wr.heap.size := fun g hg => (World.ownsRow.lt h.row g hg).2
  have hz0 := h.keep.size
  have hz1 := hb.size
  have hz2 := hk.size
  have hvZ : ¬ vm.ownBlock = some Z := fun e => by have := h.new Z e; omega
  have hv'Z : ∀ g, vm'.ownBlock = some g → w0.heap.size ≤ g := fun g hg => by
    rcases loc with e | e
    · exact h.new g (e.symm.trans hg)
    · rw [e] at hg; have := Option.some.inj hg; omega
  have hblk := hk.at ((Keep.of_below hb : Keep (fun _ => False) wr wd).at h.blk fun e => e) hvZ
  refine ⟨by rw [List.length_append, h.len]; rfl, by rw [set_at hblk]; rfl, K2.own ho fun g hg e => ?_, hv'Z, fun m hm' => ?_, fun m hm' g hg => ?_, ?_, ?_⟩
  · have := hv'Z g hg; omega
  · rcases List.mem_append.1 hm' with hm' | hm'
    · refine (((h.at' m hm').keep (Keep.of_below hb : Keep (fun _ => False) wr wd) fun g _ e => e).keep hk fun g hg e => (h.mnew m hm' g hg).2 e).keep K2 fun g hg e => ?_
      have := (h.mnew m hm' g hg).1; omega
    · rw [List.mem_singleton] at hm'
      subst hm'
      refine (hm.keep hk fun g hg e => ?_).keep K2 fun g hg e => ?_
      · have := hn g hg; have := hvm g e; omega
      · have := hn g hg; omega
  · rcases List.mem_append.1 hm' with hm' | hm'
    · refine ⟨(h.mnew m hm' g hg).1, fun e => ?_⟩
      rcases loc with e2 | e2
      · exact (h.mnew m hm' g hg).2 (e2.symm.trans e)
      · rw [e2] at e; have := Option.some.inj e; have := (h.at' m hm').lt hg; omega
    · rw [List.mem_singleton] at hm'
      subst hm'
      refine ⟨by have := hn g hg; omega, fun e => ?_⟩
      rcases loc with e2 | e2
      · have := hvm g (e2.symm.trans e); have := hn g hg; omega
      · rw [e2] at e; have := Option.some.inj e; have := hm.lt hg; omega
  · rw [List.map_append, h.eq, List.take_add_one, hx, List.map_append]; rfl
  · refine ((h.keep.same (Keep.of_below hb)).trans hk fun q e => Or.inr (h.new q e)).same K2

/-- between the outer rounds -/
structure LvRel (w : World) (xs : List LifeM) (k : Nat) (v : Value) (done : List LifeM) (wr : World) : Prop where
  len : done.length = k
  row : wr.ownsRow 0 44 3 v done.length (done.flatMap outC)
  new : ∀ g, v.ownBlock = some g → w.heap.size ≤ g
  at' : ∀ x ∈ done, LfAt wr x
  ap : ∀ x ∈ done, ∀ g, x.uses g → w.heap.size ≤ g ∧ v.ownBlock ≠ some g
  eq : done.map LifeM.told = (xs.take k).map LifeM.told
  below : Below w.heap.size w wr
theorem LvRel.start {w : World} (xs : List LifeM) : LvRel w xs 0 (.slice none 0 0) [] w :=
  ⟨rfl, own_nil _ _ _ _, (by intro g hg; cases hg), (by intro m hm; cases hm), (by intro m hm; cases hm), rfl, Below.refl _ _⟩
theorem LvRel.step {w : World} {xs : List LifeM} {k : Nat} {v : Value} {done : List LifeM} {wr w0 wi wj : World} (h : LvRel w xs k v done wr) {x : LifeM} (hx : xs[k]? = some x) (hb : Below wr.heap.size wr w0) {Z : Nat} (hZ1 : wr.heap.size ≤ Z) (hZ : Z < w0.heap.size) {vd : Value} (hd : w0.ownsRow 0 61 3 vd x.ws.length (x.ws.flatMap wordV)) (hdn : ∀ g, vd.ownBlock = some g → wr.heap.size ≤ g ∧ g ≠ Z)
    {vm : Value} {dm : List MarkM} (mk : MkRel w0 Z x.ms vd x.gone x.ms.length vm dm wi) {v' : Value} (ho : wj.ownsRow 0 44 3 v' (done ++ [{ x with ms := dm, vm := vm, vd := vd }]).length ((done ++ [{ x with ms := dm, vm := vm, vd := vd }]).flatMap outC)) (hk : Keep (fun q => v.ownBlock = some q) wi wj) (loc : v'.ownBlock = v.ownBlock ∨ v'.ownBlock = some (wi.heap.size + 1)) :
    LvRel w xs (k + 1) v' (done ++ [{ x with ms := dm, vm := vm, vd := vd }]) wj := by
  have hv : ∀ g, v.ownBlock = some g → g < wr.heap.size := fun g hg => (World.ownsRow.lt h.row g hg).2
  have hz0 := h.below.size
  have hz1 := hb.size
  have hz2 := mk.keep.size
  have hz3 := hk.size
  have hy : LfAt wi { x with ms := dm, vm := vm, vd := vd } := ⟨mk.row, mk.keep.own hd fun g hg e => (hdn g hg).2 e, mk.at'⟩
  have hyn : ∀ g, ({ x with ms := dm, vm := vm, vd := vd } : LifeM).uses g → wr.heap.size ≤ g := fun g hg => by
    rcases hg with hg | hg | ⟨m, hm, hg⟩
    · have := mk.new g hg; omega
    · exact (hdn g hg).1
    · have := (mk.mnew m hm g hg).1; omega
  have K0 : Keep (fun q => w.heap.size ≤ q) w wj := ((((Keep.of_below h.below).trans (Keep.of_below hb : Keep (fun _ => False) wr w0) fun q e => e.elim).trans mk.keep fun q e => Or.inr (by omega)).trans hk fun q e => Or.inr (h.new q e))
  refine ⟨by rw [List.length_append, h.len]; rfl, ho, fun g hg => ?_, fun y hy' => ?_, fun y hy' g hg => ?_, ?_, K0.new⟩
  · rcases loc with e | e
    · exact h.new g (e.symm.trans hg)
    · rw [e] at hg; have := Option.some.inj hg; omega
  · rcases List.mem_append.1 hy' with hy' | hy'
    · refine (((h.at' y hy').keep (Keep.of_below hb : Keep (fun _ => False) wr w0) fun g _ e => e).keep mk.keep fun g hg e => ?_).keep hk fun g hg e => (h.ap y hy' g hg).2 e
      have := (h.at' y hy').lt hg; omega
    · rw [List.mem_singleton] at hy'
      subst hy'
      refine hy.keep hk fun g hg e => ?_
      have := hyn g hg; have := hv g e; omega
  · rcases List.mem_append.1 hy' with hy' | hy'
    · refine ⟨(h.ap y hy' g hg).1, fun e => ?_⟩
      rcases loc with e2 | e2
      · exact (h.ap y hy' g hg).2 (e2.symm.trans e)
      · rw [e2] at e; have := Option.some.inj e; have := (h.at' y hy').lt hg; omega
    · rw [List.mem_singleton] at hy'
      subst hy'
      refine ⟨by have := hyn g hg; omega, fun e => ?_⟩
      rcases loc with e2 | e2
      · have := hv g (e2.symm.trans e); have := hyn g hg; omega
      · rw [e2] at e; have := Option.some.inj e; have := hy.lt hg; omega
  · rw [List.map_append, h.eq, List.take_add_one, hx, List.map_append]
    congr 1
    show [_] = [_]
    unfold LifeM.told
    simp only [mk.eq, List.take_length]

theorem info_life : (Tryd.prog.info? 44).map (fun i => (i.zero, i.size, i.bytes)) = some (some (.agg #[.slice none 0 0, .slice none 0 0, .bool false]), 3, 56) := by kernel_rfl
theorem info_life3 : (Tryd.prog.info? 44).map (·.size) = some 3 := by kernel_rfl
theorem info_mark7 : (Tryd.prog.info? 48).map (·.size) = some 7 := by kernel_rfl
set_option maxRecDepth 100000 in
theorem append_out {w : World} {v : Value} {xs : List LifeM} (ho : w.ownsRow 0 44 3 v xs.length (xs.flatMap outC)) (x : LifeM) (h1 : x.vm.oneCell' = true) (h2 : x.vd.oneCell' = true) (hl : xs.length ≤ 100000) :
    ∃ A c w', (Builtin.append_ #[39, 39] 39 #[v, .slice (some ⟨w.heap.size, 0, none⟩) 1 1]).run Tryd.prog (w.alloc (.cells #[x.vm, x.vd, .bool x.gone] 44)) = .ok (.slice A (xs.length + 1) c) w' ∧
      w'.ownsRow 0 44 3 (.slice A (xs.length + 1) c) (xs ++ [x]).length ((xs ++ [x]).flatMap outC) ∧ Keep (fun i => v.ownBlock = some i) w w' ∧ ((Value.slice A (xs.length + 1) c).ownBlock = v.ownBlock ∨ (Value.slice A (xs.length + 1) c).ownBlock = some (w.heap.size + 1)) := by
  obtain ⟨i0, hi, hz0, hz1, hz2⟩ := info_parts info_life
  obtain ⟨v', w', hr, g2, g3, g4, g5⟩ := run_append_own_at (P := Tryd.prog) (w.alloc (.cells #[x.vm, x.vd, .bool x.gone] 44)) 0 39 39 44 i0 _ 3 56 Tryd.underlying39 hi hz0 hz1 hz2 rfl (by decide) v xs.length (xs.flatMap outC) (ho.alloc _)
    ⟨w.heap.size, 0, none⟩ 1 1 (outC x) rfl (fun j u hj => by rw [add_at, Nat.zero_add, cell_of_row _ _ _ _ _ _ (MapKept.heap_alloc w _).1, ← Array.getElem?_toList]; exact hj) (by intro u hu; simp only [outC, List.mem_cons, List.not_mem_nil, or_false] at hu; rcases hu with rfl | rfl | rfl <;> first | assumption | rfl) (by unfold maxLen; omega) (by omega) (by rw [size_alloc]; omega)
  have hex : ∃ A c, v' = .slice A (xs.length + 1) c := by
    rcases g2.2 with ⟨rfl, h0⟩ | ⟨g, cap, cur, hv, _⟩
    · omega
    · exact ⟨_, _, hv⟩
  obtain ⟨A, c, rfl⟩ := hex
  exact ⟨A, c, w', hr, by rw [flat_snoc]; simpa using g2, (Keep.alloc _ w _).same (Keep.of_grown g3 fun k hk => hk), by simpa [size_alloc] using g5⟩
end Go.Proofs.YtgacfkenndhcnaaDoor
