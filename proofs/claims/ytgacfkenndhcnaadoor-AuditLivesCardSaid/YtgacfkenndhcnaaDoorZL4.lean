/- A life's rights and version, changed in place; (*Ledger).change. What acts leave of a ledger, in memory: the clock, who is corrupted, words, a life that is gone. -/
import Derived.Test.YtgacfkenndhcnaaDoorZL3
import Derived.Test.YtgacfkenndhcnaaDoorZB2
import Derived.Test.YtgacfkenndhcnaaDoorZA5
import Derived.Test.YtgacfkenndhcnaaDoorZA2
namespace Go.Proofs.YtgacfkenndhcnaaDoor
open Go.RowKit
set_option linter.unusedVariables false
set_option linter.unusedSimpArgs false

theorem take_app {α : Type} {X Y : List α} {m q : Nat} (hX : X.length = m) : (X ++ Y).take (m + q) = X ++ Y.take q := by
  subst hX
  rw [List.take_append, List.take_of_length_le (by omega), Nat.add_sub_cancel_left]
theorem drop_app {α : Type} {X Y : List α} {m q : Nat} (hX : X.length = m) : (X ++ Y).drop (m + q) = Y.drop q := by
  subst hX
  rw [List.drop_append, List.drop_of_length_le (by omega), Nat.add_sub_cancel_left, List.nil_append]
theorem flat_seg {α : Type} {f : α → List Value} {k : Nat} (hf : ∀ x, (f x).length = k) {l : List α} {i : Nat} {x x' : α} (h : l[i]? = some x) {a : Nat} {cs : List Value} (ha : a + cs.length ≤ k) (hx : f x' = (f x).take a ++ cs ++ (f x).drop (a + cs.length)) : (l.set i x').flatMap f = (l.flatMap f).take (i * k + a) ++ cs ++ (l.flatMap f).drop (i * k + a + cs.length) := by
  induction l generalizing i with
  | nil => simp at h
  | cons y l ih =>
    cases i with
    | zero =>
      simp at h; subst h
      rw [List.set_cons_zero, List.flatMap_cons, List.flatMap_cons, Nat.zero_mul, Nat.zero_add, List.take_append_of_le_length (by rw [hf]; omega), List.drop_append_of_le_length (by rw [hf]; omega), hx]
      simp only [List.append_assoc]
    | succ i =>
      simp at h
      rw [List.set_cons_succ, List.flatMap_cons, List.flatMap_cons, ih h, Nat.succ_mul, show i * k + k + a = k + (i * k + a) by omega, show k + (i * k + a) + cs.length = k + (i * k + a + cs.length) by omega, take_app (hf y), drop_app (hf y)]
      simp only [List.append_assoc]
theorem seg_take {α : Type} (A cs : List α) {o m : Nat} (h1 : o + cs.length ≤ m) (h2 : m ≤ A.length) : (A.take o ++ cs ++ A.drop (o + cs.length)).take m = (A.take m).take o ++ cs ++ (A.take m).drop (o + cs.length) := by
  obtain ⟨d, rfl⟩ := Nat.exists_eq_add_of_le h1
  rw [take_app (by rw [List.length_append, List.length_take]; omega), List.take_take, Nat.min_eq_left (by omega), List.drop_take, Nat.add_sub_cancel_left]
theorem own_put {α : Type} {f : α → List Value} {k : Nat} (hf : ∀ x, (f x).length = k) {w w2 : World} {e : TypeId} {g n c : Nat} {xs : List α} {i : Nat} {x x' : α} {a : Nat} {cs : Array Value} {cur : Array Value} (h : w.ownsRow 0 e k (.slice (some ⟨g, 0, none⟩) n c) xs.length (xs.flatMap f)) (hg : w.heap[g]? = some (.cells cur e (0, 0))) (hx : xs[i]? = some x) (ha : a + cs.size ≤ k) (hx' : f x' = (f x).take a ++ cs.toList ++ (f x).drop (a + cs.size))
    (h2 : w2.heap[g]? = some (.cells (rowPut cur (i * k + a) cs) e (0, 0))) : w2.ownsRow 0 e k (.slice (some ⟨g, 0, none⟩) n c) (xs.set i x').length ((xs.set i x').flatMap f) := by
  have hil := (List.getElem?_eq_some_iff.1 hx).1
  refine ⟨by rw [flat_len hf], ?_⟩
  rcases h.2 with ⟨e1, _⟩ | ⟨g', cap', cur', e1, hb, hg', hnc, hcm, hcs, htake⟩
  · cases e1
  · right
    have hgg : g = g' := by have := congrArg Value.ownBlock e1; simpa [Value.ownBlock] using this
    subst hgg
    rw [hg] at hg'
    obtain rfl : cur' = cur := by cases hg'; rfl
    have hseg : i * k + a + cs.size ≤ xs.length * k := by
      have : (i + 1) * k ≤ xs.length * k := Nat.mul_le_mul_right k hil
      rw [Nat.succ_mul] at this; omega
    have hcapk : xs.length * k ≤ cur'.size := by rw [hcs]; exact Nat.mul_le_mul_right k hnc
    refine ⟨g, cap', _, by rw [List.length_set]; exact e1, Nat.zero_le _, h2, by rw [List.length_set]; exact hnc, hcm, by rw [rowPut_size _ _ _ (by omega)]; exact hcs, ?_⟩
    rw [flat_seg hf hx (a := a) (cs := cs.toList) (by simpa using ha) (by simpa using hx'), List.length_set]
    unfold rowPut
    rw [← htake]
    have := seg_take cur'.toList cs.toList (o := i * k + a) (m := xs.length * k) (by simpa using hseg) (by simpa using hcapk)
    rw [Array.length_toList] at this ⊢
    exact this

/-! ### change -/
theorem own_cells {w : World} {e : TypeId} {k g n c m : Nat} {l : List Value} (h : w.ownsRow 0 e k (.slice (some ⟨g, 0, none⟩) n c) m l) : ∃ cur : Array Value, w.heap[g]? = some (.cells cur e (0, 0)) ∧ m * k ≤ cur.size := by
  rcases h.2 with ⟨e1, _⟩ | ⟨g', cap', cur', e1, hb, hg', hnc, hcm, hcs, htake⟩
  · cases e1
  · have hgg : g = g' := by have := congrArg Value.ownBlock e1; simpa [Value.ownBlock] using this
    subst hgg
    exact ⟨cur', hg', by rw [hcs]; exact Nat.mul_le_mul_right k hnc⟩
/-- rights in a block of their own, lists of their own -/
structure RvAt (B : Nat) (w wx : World) (Z : Nat) (r : Rt) (vr vw : Value) : Prop where
  row : wx.heap[Z]? = some (.cells (rtCells r vr vw) 46 (0, 0))
  lists : Lists wx r vr vw
  zl : B ≤ Z
  below : Below B w wx
  br : ∀ b, vr.ownBlock = some b → B ≤ b
  bw : ∀ b, vw.ownBlock = some b → B ≤ b
def LifeM.put (x : LifeM) (r : Rt) (vr vw : Value) (V : Int) : LifeM := { x with r := r, vr := vr, vw := vw, ver := V }
theorem IsLed.changed {w wx wy : World} {role : Nat → Role} {G : LedM} (h : IsLed w role G) {k : ByteArray} {g n c : Nat} {xs : List LifeM} (hk : aget G.rows k = some (.slice (some ⟨g, 0, none⟩) n c, xs)) {i : Nat} {x : LifeM} (hx : xs[i]? = some x)
    {Z : Nat} {r : Rt} {vr vw : Value} (R : RvAt w.heap.size w wx Z r vr vw) {cur : Array Value} (hc : wx.heap[g]? = some (.cells cur 59 (0, 0)))
    (h2 : wy.heap[g]? = some (.cells (rowPut cur (i * 9 + 3) #[.string r.owner, .string r.file, .int .i64 r.epoch, vr, vw]) 59 (0, 0))) (K : Keep (fun q => q = g) wx wy) (V : Int) :
    IsLed (wy.setCell ⟨g, i * 9 + 8, none⟩ (.int .u64 V)) role { G with rows := aput G.rows k (.slice (some ⟨g, 0, none⟩) n c, xs.set i (x.put r vr vw V)) } ∧ Keep (fun q => role q ≠ .none) w (wy.setCell ⟨g, i * 9 + 8, none⟩ (.int .u64 V)) := by
  have hg : role g = .row k := h.rr k _ hk g rfl
  have hn : n = xs.length := by
    obtain ⟨A, c', hv, _, _⟩ := own_slice (h.row k _ hk)
    dsimp only at hv; cases hv; rfl
  subst hn
  have K2 : Keep (fun q => q = g) wy (wy.setCell ⟨g, i * 9 + 8, none⟩ (.int .u64 V)) := Keep.setCell (fun q => q = g) wy (p := ⟨g, i * 9 + 8, none⟩) rfl _
  have KA : Keep (fun q => q = g) wx (wy.setCell ⟨g, i * 9 + 8, none⟩ (.int .u64 V)) := K.trans K2 fun q e => Or.inl e
  have KT : Keep (fun q => q = g) w (wy.setCell ⟨g, i * 9 + 8, none⟩ (.int .u64 V)) := (Keep.of_below R.below).same KA
  have hgl : g < w.heap.size := h.low g (by rw [hg]; simp)
  have hnl : ∀ q, w.heap.size ≤ q → role q = .none := fun q hq => by
    cases e : role q with
    | none => rfl
    | _ => exact absurd (h.low q (by rw [e]; simp)) (by omega)
  have hrow0 := (h.below R.below).row k _ hk
  dsimp only at hrow0
  have hrow1 := own_put (w2 := wy) lifeV_len hrow0 hc hx (a := 3) (cs := #[.string r.owner, .string r.file, .int .i64 r.epoch, vr, vw]) (x' := { x with r := r, vr := vr, vw := vw }) (by simp) rfl h2
  have hil := (List.getElem?_eq_some_iff.1 hx).1
  rw [List.length_set] at hrow1
  have hrow2 := (hrow1.stored (i * 9 + 8) (.int .u64 V)).1
  rw [← flat_set lifeV_len (x' := x.put r vr vw V) (List.getElem?_set_self hil) (by omega) rfl, List.set_set] at hrow2
  have hL := h.life k _ hk i x hx
  have hF : ∀ q, q = g → q < w.heap.size → role q ≠ .none ∧ role q ≠ .mrk k i ∧ role q ≠ .wrd k i := fun q e _ => by subst e; rw [hg]; simp
  refine ⟨h.set hk hx _ KT (fun q e _ => Or.inl (by rw [e]; exact hg)) (fun _ _ => rfl) (fun q hq => Nat.lt_of_lt_of_le (h.low q hq) KT.size) (by simpa using hrow2) ?_, KT.mono fun q e => by rw [e, hg]; simp⟩
  have hL' := hL.keep KT hF fun _ _ => rfl
  refine ⟨hL'.mrk, hL'.wrd, hL'.rm, hL'.rw, ⟨⟨R.lists.rd.keep2 KA fun _ b _ hbb e => ?_, R.lists.wr.keep2 KA fun _ b _ hbb e => ?_⟩, fun _ q hq => hnl q (R.br q hq), fun _ q hq => hnl q (R.bw q hq)⟩, hL'.mls⟩
  · have := R.br b hbb; omega
  · have := R.bw b hbb; omega
def rtDo (s : StA) (r : Rt) : Rt × Int := if s.kind = 103 then r.grant s.user s.wt else r.revoke s.user
def changeP (P : PLed) (s : StA) : PLed := match lifeOn (P.at (pathB s.who s.file)) with
  | none => P
  | some x => if (rtDo s x.r).2 = 0 then aput P (pathB s.who s.file) ((P.at (pathB s.who s.file)).set ((P.at (pathB s.who s.file)).length - 1) ⟨x.marks, x.words, x.gone, (rtDo s x.r).1, IntKind.u64.wrap (x.ver + 1)⟩) else P
theorem set_pure (G : LedM) (k : ByteArray) (u : Value) (xs : List LifeM) (i : Nat) (x : LifeM) : ({ G with rows := aput G.rows k (u, xs.set i x) } : LedM).pure = aput G.pure k ((xs.map LifeM.life).set i x.life) := by
  show amap _ (aput G.rows k (u, _)) = _
  rw [← aput_amap]
  unfold LedM.pure
  rw [List.map_set]
theorem lives_of {G : LedM} {k : ByteArray} {v : Value} {xs : List LifeM} (hk : aget G.rows k = some (v, xs)) : G.lives k = xs := by unfold LedM.lives; rw [hk]; rfl
theorem on_last {G : LedM} {k : ByteArray} {v : Value} {xs : List LifeM} {n : Nat} {x : LifeM} (hk : aget G.rows k = some (v, xs)) (hn : xs.length = n + 1) (hx : xs[n]? = some x) (hg : x.gone = false) : PLed.at G.pure k = xs.map LifeM.life ∧ lifeOn (PLed.at G.pure k) = some x.life := by
  have h1 : PLed.at G.pure k = xs.map LifeM.life := by rw [pure_at_k, lives_of hk]
  refine ⟨h1, ?_⟩
  rw [h1]
  unfold lifeOn
  rw [List.getLast?_map, List.getLast?_eq_getElem?, hn, Nat.add_sub_cancel, hx]
  show (if x.gone = true then none else some x.life) = some x.life
  rw [hg]; rfl
theorem on_gone {G : LedM} {k : ByteArray} (h : ∀ x, (G.lives k).getLast? = some x → x.gone = true) : lifeOn (PLed.at G.pure k) = none := by
  rw [pure_at_k]
  unfold lifeOn
  rw [List.getLast?_map]
  cases hgl : (G.lives k).getLast? with
  | none => rfl
  | some x => show (if x.gone = true then none else some x.life) = none; rw [h x hgl]; rfl
theorem change_on {G : LedM} (s : StA) {v : Value} {xs : List LifeM} {n : Nat} {x : LifeM} (hk : aget G.rows (pathB s.who s.file) = some (v, xs)) (hn : xs.length = n + 1) (hx : xs[n]? = some x) (hg : x.gone = false) :
    changeP G.pure s = if (rtDo s x.r).2 = 0 then aput G.pure (pathB s.who s.file) ((xs.map LifeM.life).set n ⟨x.life.marks, x.life.words, x.life.gone, (rtDo s x.r).1, IntKind.u64.wrap (x.ver + 1)⟩) else G.pure := by
  obtain ⟨h1, h2⟩ := on_last hk hn hx hg
  unfold changeP
  rw [h2]
  show (if (rtDo s x.r).2 = 0 then _ else _) = _
  rw [h1, List.length_map, hn, Nat.add_sub_cancel]; rfl
theorem RvAt.lower {w W wx : World} {Z : Nat} {r : Rt} {vr vw : Value} (h : RvAt W.heap.size W wx Z r vr vw) (hb : Below w.heap.size w W) : RvAt w.heap.size w wx Z r vr vw :=
  ⟨h.row, h.lists, Nat.le_trans hb.size h.zl, hb.trans (h.below.mono hb.size), fun b e => Nat.le_trans hb.size (h.br b e), fun b e => Nat.le_trans hb.size (h.bw b e)⟩
theorem row5c {w : World} {b : Nat} {v0 v1 v2 v3 v4 : Value} {t : TypeId} (h : w.heap[b]? = some (.cells #[v0, v1, v2, v3, v4] t (0, 0))) : w.cell? ⟨b, 0, none⟩ = some v0 ∧ w.cell? ⟨b, 1, none⟩ = some v1 ∧ w.cell? ⟨b, 2, none⟩ = some v2 ∧ w.cell? ⟨b, 3, none⟩ = some v3 ∧ w.cell? ⟨b, 4, none⟩ = some v4 := by
  refine ⟨?_, ?_, ?_, ?_, ?_⟩ <;> (rw [cell_of_row _ _ _ _ _ _ h]; rfl)
set_option maxRecDepth 100000 in
set_option maxHeartbeats 4000000 in
theorem change_calls {w : World} {role : Nat → Role} {G : LedM} (h : IsLed w role G) (s : StA) (ho : s.who.size ≤ 1000) (hf : s.file.size ≤ 1000) (hu : s.user.size ≤ 1000) (hwf : ∀ x ∈ G.lives (pathB s.who s.file), x.r.wf) (hT : Tabs w) :
    Calls Tryd.prog 17 #[.pointer (some ⟨G.b, 0, none⟩), .agg (cmdC s).toArray] w fun e w' => e = .returned (.tuple #[]) ∧ LedRet w role G G.now G.cor (changeP G.pure s) w' := by
  obtain ⟨W, hW⟩ : ∃ W, w.alloc (.cells (cmdC s).toArray 31) = W := ⟨_, rfl⟩
  have hb : Below w.heap.size w W := by rw [← hW]; exact (Below.refl _ w).alloc (Nat.le_refl _) _
  have hr : W.heap[w.heap.size]? = some (.cells (cmdC s).toArray 31 (0, 0)) := by rw [← hW, get_alloc, if_pos rfl]
  have HH := Lib.hid h
  have HB := Lib.hid hb
  have HR := Lib.hid hr
  have HT := Lib.hid hT
  have HI := Lib.hid (h.below hb)
  have HOF := Lib.hid (And.intro ho (And.intro hf hu))
  have HWF := Lib.hid hwf
  have s1 : W.cell? ⟨w.heap.size, 1, none⟩ = some (.string s.who) := by rw [cell_of_row _ _ _ _ _ _ hr]; rfl
  have s3 : W.cell? ⟨w.heap.size, 3, none⟩ = some (.string s.file) := by rw [cell_of_row _ _ _ _ _ _ hr]; rfl
  unfold cmdC at hW ⊢
  clear h hb hr hT ho hf hu hwf
  go_enter Tryd.func17, Tryd.ntmps17
  go_wp2_with fail
  refine (on_calls HI.out s.who s.file HOF.out.1 HOF.out.2.1).mono ?_
  rintro e w3 ⟨hon, hw3⟩
  obtain rfl : W = w3 := hw3.symm
  clear hw3 hW
  obtain ⟨K, hK⟩ : ∃ K, pathB s.who s.file = K := ⟨_, rfl⟩
  have HKE := Lib.hid hK
  rw [hK] at hon HWF
  rcases hon with ⟨rfl, hgone⟩ | ⟨g, n, c, xs, x, hk, hn, hx, hxg, rfl⟩
  · have HST : Hid (LedRet w role G G.now G.cor (changeP G.pure s) W) := Lib.hid (by
      have e1 : changeP G.pure s = G.pure := by
        unfold changeP
        rw [hK, on_gone hgone]
      rw [e1]; exact LedRet.still HH.out HB.out)
    clear hgone hK s1 s3
    go_wp2_with fail
    go_returns
    exact ⟨rfl, HST.out⟩
  · have HCH : Hid (changeP G.pure s = if (rtDo s x.r).2 = 0 then aput G.pure K ((xs.map LifeM.life).set n ⟨x.life.marks, x.life.words, x.life.gone, (rtDo s x.r).1, IntKind.u64.wrap (x.ver + 1)⟩) else G.pure) := Lib.hid (by
      have := change_on s (by rw [hK]; exact hk) hn hx hxg
      rw [hK] at this; exact this)
    have HXW : Hid x.r.wf := Lib.hid (HWF.out x (by rw [lives_of hk]; exact List.mem_of_getElem? hx))
    have HXL : Hid (LifeAt w role K n x) := Lib.hid (HH.out.life K _ hk n x hx)
    have hcl : ∀ U, Below w.heap.size w U → ∀ j u, (lifeV x)[j]? = some u → U.cell? ⟨g, n * 9 + j, none⟩ = some u ∧ U.frozen? ⟨g, n * 9 + j, none⟩ = false := fun U hU j u hj => by
      obtain ⟨g', c', hv, _, _, hc⟩ := (HH.out.below hU).last hk (by omega)
      rw [hn] at hv
      obtain rfl : g = g' := by have := congrArg Value.ownBlock hv; simpa [Value.ownBlock] using this
      exact hc n x hx j u hj
    have HCL := Lib.hid hcl
    have HS5 : Hid (∀ U, Below w.heap.size w U → (U.cell? ⟨g, n * 9 + 3, none⟩ = some (.string x.r.owner) ∧ U.cell? ⟨g, n * 9 + 4, none⟩ = some (.string x.r.file) ∧ U.cell? ⟨g, n * 9 + 5, none⟩ = some (.int .i64 x.r.epoch) ∧ U.cell? ⟨g, n * 9 + 6, none⟩ = some x.vr ∧ U.cell? ⟨g, n * 9 + 7, none⟩ = some x.vw)) :=
      Lib.hid fun U hU => ⟨(hcl U hU 3 _ rfl).1, (hcl U hU 4 _ rfl).1, (hcl U hU 5 _ rfl).1, (hcl U hU 6 _ rfl).1, (hcl U hU 7 _ rfl).1⟩
    have HSC : Hid (∀ U, Below W.heap.size W U → (U.cell? ⟨w.heap.size, 4, none⟩ = some (.string s.user) ∧ U.cell? ⟨w.heap.size, 5, none⟩ = some (.bool s.wt) ∧ U.cell? ⟨w.heap.size, 0, none⟩ = some (.int .u8 s.kind))) := Lib.hid fun U hU => by
      have k := (Keep.of_below hU : Keep (fun _ => False) W U)
      exact ⟨k.cell (by rw [cell_of_row _ _ _ _ _ _ HR.out]; rfl) fun e => e, k.cell (by rw [cell_of_row _ _ _ _ _ _ HR.out]; rfl) fun e => e, k.cell (by rw [cell_of_row _ _ _ _ _ _ HR.out]; rfl) fun e => e⟩
    have HKX : Hid (aget G.rows K = some (.slice (some ⟨g, 0, none⟩) (n + 1) c, xs) ∧ xs[n]? = some x) := Lib.hid ⟨hk, hx⟩
    have HNX := Lib.hid hn
    have HXR : Hid (∀ U, Below w.heap.size w U → Calls Tryd.prog 36 #[.agg #[.string x.r.owner, .string x.r.file, .int .i64 x.r.epoch, x.vr, x.vw], .string s.user] U fun e w' => RtRet U e w' (x.r.revoke s.user)) := Lib.hid fun U hU =>
      revoke_calls U x.r x.vr x.vw s.user (HXL.out.rt.lists.below hU) (HT.out.below hU) HXW.out (by have := HOF.out.2.2; omega)
    have HXG : Hid (∀ U, Below w.heap.size w U → Calls Tryd.prog 37 #[.agg #[.string x.r.owner, .string x.r.file, .int .i64 x.r.epoch, x.vr, x.vw], .string s.user, .bool s.wt] U fun e w' => RtRet U e w' (x.r.grant s.user s.wt)) := Lib.hid fun U hU =>
      grant_calls U x.r x.vr x.vw s.user s.wt (HXL.out.rt.lists.below hU) (HT.out.below hU) HXW.out (by have := HOF.out.2.2; omega)
    clear hk hn hx hxg hcl hK s1 s3
    obtain ⟨⟨rv, ev⟩, hrv⟩ : ∃ y, x.r.revoke s.user = y := ⟨_, rfl⟩
    obtain ⟨⟨rg, eg⟩, hrg⟩ : ∃ y, x.r.grant s.user s.wt = y := ⟨_, rfl⟩
    rw [hrv] at HXR
    rw [hrg] at HXG
    have HDO : Hid (rtDo s x.r = if s.kind = 103 then (rg, eg) else (rv, ev)) := Lib.hid (by unfold rtDo; rw [hrv, hrg])
    clear hrv hrg
    go_upto_region 3 with fail
    go_cut [5, 6] from 15 to 24 (fun q er wx => ∃ Z A ca C cc, q = .pointer (some ⟨Z, 0, none⟩) ∧ er = .int .i64 ev ∧ Hid (RvAt W.heap.size W wx Z rv (.slice A rv.rd.length ca) (.slice C rv.wr.length cc)))
    case first =>
      refine wp_region_G (fun W2 => (W2.cell? ⟨g, n * 9 + 3, none⟩ = some (.string x.r.owner) ∧ W2.cell? ⟨g, n * 9 + 4, none⟩ = some (.string x.r.file) ∧ W2.cell? ⟨g, n * 9 + 5, none⟩ = some (.int .i64 x.r.epoch) ∧ W2.cell? ⟨g, n * 9 + 6, none⟩ = some x.vr ∧ W2.cell? ⟨g, n * 9 + 7, none⟩ = some x.vw) ∧ W2.cell? ⟨w.heap.size, 4, none⟩ = some (.string s.user)) [11] (by kernel_rfl) ?_
      have HSS : Hid (∀ W2, Below W.heap.size W W2 → ((W2.cell? ⟨g, n * 9 + 3, none⟩ = some (.string x.r.owner) ∧ W2.cell? ⟨g, n * 9 + 4, none⟩ = some (.string x.r.file) ∧ W2.cell? ⟨g, n * 9 + 5, none⟩ = some (.int .i64 x.r.epoch) ∧ W2.cell? ⟨g, n * 9 + 6, none⟩ = some x.vr ∧ W2.cell? ⟨g, n * 9 + 7, none⟩ = some x.vw) ∧ W2.cell? ⟨w.heap.size, 4, none⟩ = some (.string s.user))) := Lib.hid (fun W2 hb => ⟨HS5.out W2 (HB.out.trans (hb.mono HB.out.size)), (HSC.out W2 hb).1⟩)
      have hb0 : Below W.heap.size W W.drew := (Below.refl W.heap.size W).drew
      obtain ⟨wd, hwd⟩ : ∃ x, W.drew = x := ⟨_, rfl⟩
      rw [hwd] at hb0 ⊢
      clear hwd
      have hS := HSS.out _ hb0
      refine wpAnyG_pure (i := 0) (v := ?vca0) at0 (by kernel_rfl) (fun _ _ _ h => h) (Or.inl ⟨by rfl, ?hca0⟩) (Or.inr (by assumption)) ?rca0
      case hca0 => (intro w hSw; (try dsimp only at hSw); go_simp; try with_reducible rfl)
      case' rca0 => skip
      try simp only [Act.put, List.setIfInBounds_toArray, List.set_cons_zero, List.set_cons_succ]
      refine wpAnyG_pure (i := 1) (v := ?vca1) at1 (by kernel_rfl) (fun _ _ _ h => h) (Or.inl ⟨by rfl, ?hca1⟩) (Or.inr (by assumption)) ?rca1
      case hca1 => (intro w hSw; (try dsimp only at hSw); go_simp; try with_reducible rfl)
      case' rca1 => skip
      try simp only [Act.put, List.setIfInBounds_toArray, List.set_cons_zero, List.set_cons_succ]
      refine wpAnyG_pure (i := 2) (v := ?vca2) at2 (by kernel_rfl) (fun _ _ _ h => h) (Or.inl ⟨by rfl, ?hca2⟩) (Or.inr (by assumption)) ?rca2
      case hca2 => (intro w hSw; (try dsimp only at hSw); go_simp; try with_reducible rfl)
      case' rca2 => skip
      try simp only [Act.put, List.setIfInBounds_toArray, List.set_cons_zero, List.set_cons_succ]
      refine wpAnyG_take (ws := [3,5]) (i := 3) (v := ?vca3) at3 (by kernel_rfl) (fun _ _ _ h => h) (Or.inl ⟨by rfl, ?hca3⟩) (by assumption) ?rca3
      case hca3 => (intro w hSw; (try dsimp only at hSw); go_simp; try with_reducible rfl)
      case' rca3 => skip
      try simp only [Act.put, List.setIfInBounds_toArray, List.set_cons_zero, List.set_cons_succ]
      refine wpAnyG_pure (i := 4) (v := ?vca4) at4 (by kernel_rfl) (fun _ _ _ h => h) (Or.inl ⟨by rfl, ?hca4⟩) (Or.inr (by assumption)) ?rca4
      case hca4 => (intro w hSw; (try dsimp only at hSw); go_simp; try with_reducible rfl)
      case' rca4 => skip
      try simp only [Act.put, List.setIfInBounds_toArray, List.set_cons_zero, List.set_cons_succ]
      refine wpAnyG_take (ws := [3,5]) (i := 5) (v := ?vca5) at5 (by kernel_rfl) (fun _ _ _ h => h) (Or.inl ⟨by rfl, ?hca5⟩) (by assumption) ?rca5
      case hca5 => (intro w hSw; (try dsimp only at hSw); go_simp; try with_reducible rfl)
      case' rca5 => skip
      try simp only [Act.put, List.setIfInBounds_toArray, List.set_cons_zero, List.set_cons_succ]
      refine wpAnyG_two 6 10 at6 at10 (by kernel_rfl) (fun Kn hK => ?_) (fun Kn hK => ?_)
      · skip
        go_simp
        refine (HXR.out wd (HB.out.trans (hb0.mono HB.out.size))).mono ?_
        rintro e x1 ⟨vr, vw, rfl, hl1, hq1, hbr, hbw, hlt⟩
        obtain ⟨A, ca, rfl, _, _⟩ := id hl1.rd
        obtain ⟨C, cc, rfl, _, _⟩ := id hl1.wr
        dsimp only at hl1 hlt hbr hbw
        have hb1 := hb0.trans (hq1.mono hb0.size)
        clear hS
        have hS := HSS.out _ hb1
        refine hK.out _ _ (Or.inr hS) ?_
        clear hK Kn
        try simp only [Act.put, List.setIfInBounds_toArray, List.set_cons_zero, List.set_cons_succ]
        refine wpAnyG_pure (i := 7) (v := ?vcb7) at7 (by kernel_rfl) (fun _ _ _ h => h) (Or.inl ⟨by rfl, ?hcb7⟩) (Or.inr (by assumption)) ?rcb7
        case hcb7 => (intro w hSw; (try dsimp only at hSw); go_simp; try with_reducible rfl)
        case' rcb7 => skip
        try simp only [Act.put, List.setIfInBounds_toArray, List.set_cons_zero, List.set_cons_succ]
        refine wpAnyG_pure (i := 8) (v := ?vcb8) at8 (by kernel_rfl) (fun _ _ _ h => h) (Or.inl ⟨by rfl, ?hcb8⟩) (Or.inr (by assumption)) ?rcb8
        case hcb8 => (intro w hSw; (try dsimp only at hSw); go_simp; try with_reducible rfl)
        case' rcb8 => skip
        try simp only [Act.put, List.setIfInBounds_toArray, List.set_cons_zero, List.set_cons_succ]
        refine wpAnyG_pure (i := 9) (v := ?vcb9) at9 (by kernel_rfl) (fun _ _ _ h => h) (Or.inl ⟨by rfl, ?hcb9⟩) (Or.inr (by assumption)) ?rcb9
        case hcb9 => (intro w hSw; (try dsimp only at hSw); go_simp; try with_reducible rfl)
        case' rcb9 => skip
        try simp only [Act.put, List.setIfInBounds_toArray, List.set_cons_zero, List.set_cons_succ]
        refine wpAnyG_one 10 at10 (by kernel_rfl) (fun Kn hK => ?_)
        go_simp
        obtain ⟨z, hz⟩ : ∃ z, x1.heap.size = z := ⟨_, rfl⟩
        obtain ⟨x2, hx2⟩ : ∃ x, x1.alloc (.cells #[.string ⟨#[]⟩, .string ⟨#[]⟩, .int .i64 0, .slice none 0 0, .slice none 0 0] 46) = x := ⟨_, rfl⟩
        have hz2 : x2.heap[z]? = some (.cells #[.string ⟨#[]⟩, .string ⟨#[]⟩, .int .i64 0, .slice none 0 0, .slice none 0 0] 46 (0, 0)) := by rw [← hx2, ← hz, get_alloc, if_pos rfl]
        have hq2 : Below x1.heap.size x1 x2 := by rw [← hx2]; exact (Below.refl _ x1).alloc (Nat.le_refl _) _
        have HZL : Hid (W.heap.size ≤ z) := Lib.hid (by rw [← hz]; exact hb1.size)
        rw [hx2, hz]
        have hb2 := hb1.trans (hq2.mono hb1.size)
        have hl2 := hl1.below hq2
        have HNE : Hid (∀ b, (Value.slice A rv.rd.length ca).ownBlock = some b ∨ (Value.slice C rv.wr.length cc).ownBlock = some b → b ≠ z) := Lib.hid (fun b e e2 => by have := hlt b e; rw [e2, ← hz] at this; exact Nat.lt_irrefl _ this)
        have HBR : Hid ((∀ b, (Value.slice A rv.rd.length ca).ownBlock = some b → W.heap.size ≤ b) ∧ (∀ b, (Value.slice C rv.wr.length cc).ownBlock = some b → W.heap.size ≤ b)) := Lib.hid ⟨fun b e => Nat.le_trans hb0.size (hbr b e), fun b e => Nat.le_trans hb0.size (hbw b e)⟩
        have HL2 := Lib.hid hl2
        have HB2 := Lib.hid hb2
        clear hS hx2 hz hq2 hl2 hl1 hlt hbr hbw hb1 hq1
        have hS := HSS.out _ hb2
        refine hK.out _ _ (Or.inr hS) ?_
        clear hK Kn hb2
        try simp only [Act.put, List.setIfInBounds_toArray, List.set_cons_zero, List.set_cons_succ]
        refine wpAnyG_one 11 at11 (by kernel_rfl) (fun Kn hK => ?_)
        refine step_store_all rfl _ _ _ rfl rfl rfl _ _ hz2 info_rt rfl (by simp [Value.oneCell']) ?_
        intro x3 h3 k3 s3
        refine hK.out _ _ (Or.inl (by kernel_rfl)) ?_
        have HLEAF : Hid (RvAt W.heap.size W x3 z rv (.slice A rv.rd.length ca) (.slice C rv.wr.length cc)) := Lib.hid ⟨h3, ⟨HL2.out.rd.keep2 k3 fun _ b _ hbb e => HNE.out b (Or.inl hbb) e, HL2.out.wr.keep2 k3 fun _ b _ hbb e => HNE.out b (Or.inr hbb) e⟩, HZL.out, below_at HB2.out k3 HZL.out, HBR.out.1, HBR.out.2⟩
        clear hK Kn h3 k3 s3 hS hz2
        try simp only [Act.put, List.setIfInBounds_toArray, List.set_cons_zero, List.set_cons_succ]
        refine wpAnyG_one 12 at12 (by kernel_rfl) (fun Kn hK => ?_)
        go_simp
        refine hK.out _ _ (Or.inl (by kernel_rfl)) ?_
        clear hK Kn
        refine wpAnyG_done (by kernel_rfl) ?_
        try simp only [Act.put, List.setIfInBounds_toArray, List.set_cons_zero, List.set_cons_succ]
        go_wp2_with fail
        go_meet
        exact ⟨_, _, _, _, _, rfl, rfl, HLEAF⟩
      · skip
        go_simp
        obtain ⟨z, hz⟩ : ∃ z, wd.heap.size = z := ⟨_, rfl⟩
        obtain ⟨x1, hx1⟩ : ∃ x, wd.alloc (.cells #[.string ⟨#[]⟩, .string ⟨#[]⟩, .int .i64 0, .slice none 0 0, .slice none 0 0] 46) = x := ⟨_, rfl⟩
        have hz1 : x1.heap[z]? = some (.cells #[.string ⟨#[]⟩, .string ⟨#[]⟩, .int .i64 0, .slice none 0 0, .slice none 0 0] 46 (0, 0)) := by rw [← hx1, ← hz, get_alloc, if_pos rfl]
        have hq1 : Below wd.heap.size wd x1 := by rw [← hx1]; exact (Below.refl _ wd).alloc (Nat.le_refl _) _
        have hzx : z < x1.heap.size := by rw [← hx1, size_alloc, hz]; exact Nat.lt_succ_self z
        have HZL : Hid (W.heap.size ≤ z) := Lib.hid (by rw [← hz]; exact hb0.size)
        rw [hx1, hz]
        have hb1 := hb0.trans (hq1.mono hb0.size)
        clear hS hx1 hz hq1
        have hS := HSS.out _ hb1
        refine hK.out _ _ (Or.inr hS) ?_
        clear hK Kn
        try simp only [Act.put, List.setIfInBounds_toArray, List.set_cons_zero, List.set_cons_succ]
        refine wpAnyG_one 6 at6 (by kernel_rfl) (fun Kn hK => ?_)
        go_simp
        refine (HXR.out x1 (HB.out.trans (hb1.mono HB.out.size))).mono ?_
        rintro e x2 ⟨vr, vw, rfl, hl2, hq2, hbr, hbw, hlt⟩
        obtain ⟨A, ca, rfl, _, _⟩ := id hl2.rd
        obtain ⟨C, cc, rfl, _, _⟩ := id hl2.wr
        dsimp only at hl2 hlt hbr hbw
        have hb2 := hb1.trans (hq2.mono hb1.size)
        have hz2 := (Keep.of_below hq2 : Keep (fun _ => False) x1 x2).at hz1 fun e => e
        have HNE : Hid (∀ b, (Value.slice A rv.rd.length ca).ownBlock = some b ∨ (Value.slice C rv.wr.length cc).ownBlock = some b → b ≠ z) := Lib.hid (fun b e e2 => by
          rcases e with e | e
          · have := hbr b e; omega
          · have := hbw b e; omega)
        have HBR : Hid ((∀ b, (Value.slice A rv.rd.length ca).ownBlock = some b → W.heap.size ≤ b) ∧ (∀ b, (Value.slice C rv.wr.length cc).ownBlock = some b → W.heap.size ≤ b)) := Lib.hid ⟨fun b e => Nat.le_trans hb1.size (hbr b e), fun b e => Nat.le_trans hb1.size (hbw b e)⟩
        have HL2 := Lib.hid hl2
        have HB2 := Lib.hid hb2
        clear hS hl2 hlt hbr hbw hb1 hq2 hz1 hzx
        have hS := HSS.out _ hb2
        refine hK.out _ _ (Or.inr hS) ?_
        clear hK Kn hb2
        try simp only [Act.put, List.setIfInBounds_toArray, List.set_cons_zero, List.set_cons_succ]
        refine wpAnyG_pure (i := 7) (v := ?vcc7) at7 (by kernel_rfl) (fun _ _ _ h => h) (Or.inl ⟨by rfl, ?hcc7⟩) (Or.inr (by assumption)) ?rcc7
        case hcc7 => (intro w hSw; (try dsimp only at hSw); go_simp; try with_reducible rfl)
        case' rcc7 => skip
        try simp only [Act.put, List.setIfInBounds_toArray, List.set_cons_zero, List.set_cons_succ]
        refine wpAnyG_pure (i := 8) (v := ?vcc8) at8 (by kernel_rfl) (fun _ _ _ h => h) (Or.inl ⟨by rfl, ?hcc8⟩) (Or.inr (by assumption)) ?rcc8
        case hcc8 => (intro w hSw; (try dsimp only at hSw); go_simp; try with_reducible rfl)
        case' rcc8 => skip
        try simp only [Act.put, List.setIfInBounds_toArray, List.set_cons_zero, List.set_cons_succ]
        refine wpAnyG_pure (i := 9) (v := ?vcc9) at9 (by kernel_rfl) (fun _ _ _ h => h) (Or.inl ⟨by rfl, ?hcc9⟩) (Or.inr (by assumption)) ?rcc9
        case hcc9 => (intro w hSw; (try dsimp only at hSw); go_simp; try with_reducible rfl)
        case' rcc9 => skip
        try simp only [Act.put, List.setIfInBounds_toArray, List.set_cons_zero, List.set_cons_succ]
        refine wpAnyG_one 11 at11 (by kernel_rfl) (fun Kn hK => ?_)
        refine step_store_all rfl _ _ _ rfl rfl rfl _ _ hz2 info_rt rfl (by simp [Value.oneCell']) ?_
        intro x3 h3 k3 s3
        refine hK.out _ _ (Or.inl (by kernel_rfl)) ?_
        have HLEAF : Hid (RvAt W.heap.size W x3 z rv (.slice A rv.rd.length ca) (.slice C rv.wr.length cc)) := Lib.hid ⟨h3, ⟨HL2.out.rd.keep2 k3 fun _ b _ hbb e => HNE.out b (Or.inl hbb) e, HL2.out.wr.keep2 k3 fun _ b _ hbb e => HNE.out b (Or.inr hbb) e⟩, HZL.out, below_at HB2.out k3 HZL.out, HBR.out.1, HBR.out.2⟩
        clear hK Kn h3 k3 s3 hS hz2
        try simp only [Act.put, List.setIfInBounds_toArray, List.set_cons_zero, List.set_cons_succ]
        refine wpAnyG_one 12 at12 (by kernel_rfl) (fun Kn hK => ?_)
        go_simp
        refine hK.out _ _ (Or.inl (by kernel_rfl)) ?_
        clear hK Kn
        refine wpAnyG_done (by kernel_rfl) ?_
        try simp only [Act.put, List.setIfInBounds_toArray, List.set_cons_zero, List.set_cons_succ]
        go_wp2_with fail
        go_meet
        exact ⟨_, _, _, _, _, rfl, rfl, HLEAF⟩
    case rest =>
      obtain ⟨Z, A, ca, C, cc, rfl, rfl, HRV0⟩ := hcut
      obtain ⟨wx, hwx, HRV⟩ : ∃ y, y = _ ∧ Hid (RvAt W.heap.size W y Z rv (.slice A rv.rd.length ca) (.slice C rv.wr.length cc)) := ⟨_, rfl, HRV0⟩
      subst hwx
      clear HRV0
      obtain ⟨k4, k5, k0⟩ := HSC.out wx HRV.out.below
      by_cases hkd : s.kind = 103
      · have hk1 : (s.kind == 103) = true := by simpa using hkd
        have HKD := Lib.hid hkd
        clear hkd
        go_wp2_with fail
        refine wp_region_G (fun W2 => (W2.cell? ⟨g, n * 9 + 3, none⟩ = some (.string x.r.owner) ∧ W2.cell? ⟨g, n * 9 + 4, none⟩ = some (.string x.r.file) ∧ W2.cell? ⟨g, n * 9 + 5, none⟩ = some (.int .i64 x.r.epoch) ∧ W2.cell? ⟨g, n * 9 + 6, none⟩ = some x.vr ∧ W2.cell? ⟨g, n * 9 + 7, none⟩ = some x.vw) ∧ W2.cell? ⟨w.heap.size, 4, none⟩ = some (.string s.user) ∧ W2.cell? ⟨w.heap.size, 5, none⟩ = some (.bool s.wt)) [12] (by kernel_rfl) ?_
        have hbx : Below W.heap.size W wx.drew := HRV.out.below.drew
        have hS : (fun W2 : World => (W2.cell? ⟨g, n * 9 + 3, none⟩ = some (.string x.r.owner) ∧ W2.cell? ⟨g, n * 9 + 4, none⟩ = some (.string x.r.file) ∧ W2.cell? ⟨g, n * 9 + 5, none⟩ = some (.int .i64 x.r.epoch) ∧ W2.cell? ⟨g, n * 9 + 6, none⟩ = some x.vr ∧ W2.cell? ⟨g, n * 9 + 7, none⟩ = some x.vw) ∧ W2.cell? ⟨w.heap.size, 4, none⟩ = some (.string s.user) ∧ W2.cell? ⟨w.heap.size, 5, none⟩ = some (.bool s.wt)) wx.drew := ⟨HS5.out _ (HB.out.trans (hbx.mono HB.out.size)), (HSC.out _ hbx).1, (HSC.out _ hbx).2.1⟩
        have hzz : wx.drew.heap[Z]? = _ := HRV.out.row
        obtain ⟨wd, hwd⟩ : ∃ y, wx.drew = y := ⟨_, rfl⟩
        rw [hwd] at hbx hS hzz ⊢
        have HBX := Lib.hid hbx
        have HZZ := Lib.hid hzz
        clear hwd hbx hzz k4 k5 k0
        refine wpAnyG_pure (i := 0) (v := ?vcd0) at0 (by kernel_rfl) (fun _ _ _ h => h) (Or.inl ⟨by rfl, ?hcd0⟩) (Or.inr (by assumption)) ?rcd0
        case hcd0 => (intro w hSw; (try dsimp only at hSw); go_simp; try with_reducible rfl)
        case' rcd0 => skip
        try simp only [Act.put, List.setIfInBounds_toArray, List.set_cons_zero, List.set_cons_succ]
        refine wpAnyG_pure (i := 1) (v := ?vcd1) at1 (by kernel_rfl) (fun _ _ _ h => h) (Or.inl ⟨by rfl, ?hcd1⟩) (Or.inr (by assumption)) ?rcd1
        case hcd1 => (intro w hSw; (try dsimp only at hSw); go_simp; try with_reducible rfl)
        case' rcd1 => skip
        try simp only [Act.put, List.setIfInBounds_toArray, List.set_cons_zero, List.set_cons_succ]
        refine wpAnyG_pure (i := 2) (v := ?vcd2) at2 (by kernel_rfl) (fun _ _ _ h => h) (Or.inl ⟨by rfl, ?hcd2⟩) (Or.inr (by assumption)) ?rcd2
        case hcd2 => (intro w hSw; (try dsimp only at hSw); go_simp; try with_reducible rfl)
        case' rcd2 => skip
        try simp only [Act.put, List.setIfInBounds_toArray, List.set_cons_zero, List.set_cons_succ]
        refine wpAnyG_take (ws := [3,5,7]) (i := 3) (v := ?vcd3) at3 (by kernel_rfl) (fun _ _ _ h => h) (Or.inl ⟨by rfl, ?hcd3⟩) (by assumption) ?rcd3
        case hcd3 => (intro w hSw; (try dsimp only at hSw); go_simp; try with_reducible rfl)
        case' rcd3 => skip
        try simp only [Act.put, List.setIfInBounds_toArray, List.set_cons_zero, List.set_cons_succ]
        refine wpAnyG_pure (i := 4) (v := ?vcd4) at4 (by kernel_rfl) (fun _ _ _ h => h) (Or.inl ⟨by rfl, ?hcd4⟩) (Or.inr (by assumption)) ?rcd4
        case hcd4 => (intro w hSw; (try dsimp only at hSw); go_simp; try with_reducible rfl)
        case' rcd4 => skip
        try simp only [Act.put, List.setIfInBounds_toArray, List.set_cons_zero, List.set_cons_succ]
        refine wpAnyG_take (ws := [3,5,7]) (i := 5) (v := ?vcd5) at5 (by kernel_rfl) (fun _ _ _ h => h) (Or.inl ⟨by rfl, ?hcd5⟩) (by assumption) ?rcd5
        case hcd5 => (intro w hSw; (try dsimp only at hSw); go_simp; try with_reducible rfl)
        case' rcd5 => skip
        try simp only [Act.put, List.setIfInBounds_toArray, List.set_cons_zero, List.set_cons_succ]
        refine wpAnyG_pure (i := 6) (v := ?vcd6) at6 (by kernel_rfl) (fun _ _ _ h => h) (Or.inl ⟨by rfl, ?hcd6⟩) (Or.inr (by assumption)) ?rcd6
        case hcd6 => (intro w hSw; (try dsimp only at hSw); go_simp; try with_reducible rfl)
        case' rcd6 => skip
        try simp only [Act.put, List.setIfInBounds_toArray, List.set_cons_zero, List.set_cons_succ]
        refine wpAnyG_take (ws := [3,5,7]) (i := 7) (v := ?vcd7) at7 (by kernel_rfl) (fun _ _ _ h => h) (Or.inl ⟨by rfl, ?hcd7⟩) (by assumption) ?rcd7
        case hcd7 => (intro w hSw; (try dsimp only at hSw); go_simp; try with_reducible rfl)
        case' rcd7 => skip
        try simp only [Act.put, List.setIfInBounds_toArray, List.set_cons_zero, List.set_cons_succ]
        refine wpAnyG_one 8 at8 (by kernel_rfl) (fun Kn hK => ?_)
        go_simp
        refine (HXG.out wd (HB.out.trans (HBX.out.mono HB.out.size))).mono ?_
        rintro e x2 ⟨vr, vw, rfl, hl2, hq2, hbr, hbw, hlt⟩
        obtain ⟨A2, ca2, rfl, _, _⟩ := id hl2.rd
        obtain ⟨C2, cc2, rfl, _, _⟩ := id hl2.wr
        dsimp only at hl2 hlt hbr hbw
        have hb2 := HBX.out.trans (hq2.mono HBX.out.size)
        have hz2 := (Keep.of_below hq2 : Keep (fun _ => False) wd x2).at HZZ.out fun e => e
        have hzl : Z < wd.heap.size := (Array.getElem?_eq_some_iff.1 HZZ.out).1
        have HNE : Hid (∀ b, (Value.slice A2 rg.rd.length ca2).ownBlock = some b ∨ (Value.slice C2 rg.wr.length cc2).ownBlock = some b → b ≠ Z) := Lib.hid (fun b e e2 => by
          rcases e with e | e
          · have := hbr b e; omega
          · have := hbw b e; omega)
        have HBR : Hid ((∀ b, (Value.slice A2 rg.rd.length ca2).ownBlock = some b → W.heap.size ≤ b) ∧ (∀ b, (Value.slice C2 rg.wr.length cc2).ownBlock = some b → W.heap.size ≤ b)) := Lib.hid ⟨fun b e => Nat.le_trans HBX.out.size (hbr b e), fun b e => Nat.le_trans HBX.out.size (hbw b e)⟩
        have HL2 := Lib.hid hl2
        have HB2 := Lib.hid hb2
        have hS2 : (x2.cell? ⟨g, n * 9 + 3, none⟩ = some (.string x.r.owner) ∧ x2.cell? ⟨g, n * 9 + 4, none⟩ = some (.string x.r.file) ∧ x2.cell? ⟨g, n * 9 + 5, none⟩ = some (.int .i64 x.r.epoch) ∧ x2.cell? ⟨g, n * 9 + 6, none⟩ = some x.vr ∧ x2.cell? ⟨g, n * 9 + 7, none⟩ = some x.vw) ∧ x2.cell? ⟨w.heap.size, 4, none⟩ = some (.string s.user) ∧ x2.cell? ⟨w.heap.size, 5, none⟩ = some (.bool s.wt) := ⟨HS5.out _ (HB.out.trans (hb2.mono HB.out.size)), (HSC.out _ hb2).1, (HSC.out _ hb2).2.1⟩
        clear hS hl2 hlt hbr hbw hq2 hb2 hzl
        have hS := hS2
        clear hS2
        refine hK.out _ _ (Or.inr hS) ?_
        clear hK Kn
        try simp only [Act.put, List.setIfInBounds_toArray, List.set_cons_zero, List.set_cons_succ]
        refine wpAnyG_pure (i := 9) (v := ?vce9) at9 (by kernel_rfl) (fun _ _ _ h => h) (Or.inl ⟨by rfl, ?hce9⟩) (Or.inr (by assumption)) ?rce9
        case hce9 => (intro w hSw; (try dsimp only at hSw); go_simp; try with_reducible rfl)
        case' rce9 => skip
        try simp only [Act.put, List.setIfInBounds_toArray, List.set_cons_zero, List.set_cons_succ]
        refine wpAnyG_pure (i := 10) (v := ?vce10) at10 (by kernel_rfl) (fun _ _ _ h => h) (Or.inl ⟨by rfl, ?hce10⟩) (Or.inr (by assumption)) ?rce10
        case hce10 => (intro w hSw; (try dsimp only at hSw); go_simp; try with_reducible rfl)
        case' rce10 => skip
        try simp only [Act.put, List.setIfInBounds_toArray, List.set_cons_zero, List.set_cons_succ]
        refine wpAnyG_pure (i := 11) (v := ?vce11) at11 (by kernel_rfl) (fun _ _ _ h => h) (Or.inl ⟨by rfl, ?hce11⟩) (Or.inr (by assumption)) ?rce11
        case hce11 => (intro w hSw; (try dsimp only at hSw); go_simp; try with_reducible rfl)
        case' rce11 => skip
        try simp only [Act.put, List.setIfInBounds_toArray, List.set_cons_zero, List.set_cons_succ]
        refine wpAnyG_one 12 at12 (by kernel_rfl) (fun Kn hK => ?_)
        refine step_store_all rfl _ _ _ rfl rfl rfl _ _ hz2 info_rt rfl (by simp [Value.oneCell']) ?_
        intro x3 h3 k3 s3
        refine hK.out _ _ (Or.inl (by kernel_rfl)) ?_
        have HRG : Hid (RvAt W.heap.size W x3 Z rg (.slice A2 rg.rd.length ca2) (.slice C2 rg.wr.length cc2)) := Lib.hid ⟨h3, ⟨HL2.out.rd.keep2 k3 fun _ b _ hbb e => HNE.out b (Or.inl hbb) e, HL2.out.wr.keep2 k3 fun _ b _ hbb e => HNE.out b (Or.inr hbb) e⟩, HRV.out.zl, below_at HB2.out k3 HRV.out.zl, HBR.out.1, HBR.out.2⟩
        clear hK Kn h3 k3 s3 hS hz2
        try simp only [Act.put, List.setIfInBounds_toArray, List.set_cons_zero, List.set_cons_succ]
        refine wpAnyG_one 13 at13 (by kernel_rfl) (fun Kn hK => ?_)
        go_simp
        refine hK.out _ _ (Or.inl (by kernel_rfl)) ?_
        clear hK Kn
        refine wpAnyG_done (by kernel_rfl) ?_
        try simp only [Act.put, List.setIfInBounds_toArray, List.set_cons_zero, List.set_cons_succ]
        by_cases h0 : eg = 0
        · subst h0
          obtain ⟨cur, hcur, hsz⟩ := own_cells ((HH.out.below (HB.out.trans (HRG.out.below.mono HB.out.size))).row K _ HKX.out.1)
          have hszn : n * 9 + 3 + 5 ≤ cur.size := by have := HNX.out; dsimp only at hsz; rw [this] at hsz; omega
          obtain ⟨b0, b1, b2, b3, b4⟩ := row5c HRG.out.row
          have HCU := Lib.hid hcur
          have HSZ := Lib.hid hszn
          clear hcur hsz hszn
          go_wp2_with (with_reducible refine wp_stop_store_agg (c := #[.string rg.owner, .string rg.file, .int .i64 rg.epoch, .slice A2 rg.rd.length ca2, .slice C2 rg.wr.length cc2]) _ _ _ rfl rfl ?_)
          unfold Stop
          refine wp_store_row rfl _ _ _ rfl rfl rfl _ _ HCU.out info_rt HSZ.out (by simp [Value.oneCell']) ?_
          intro wy h7 k7 s7
          have HEND : Hid (LedRet w role G G.now G.cor (changeP G.pure s) (wy.setCell ⟨g, n * 9 + 8, none⟩ (.int .u64 (IntKind.u64.wrap (x.ver + 1))))) := Lib.hid (by
            obtain ⟨hI, hKP⟩ := HH.out.changed HKX.out.1 HKX.out.2 (HRG.out.lower HB.out) HCU.out h7 k7 (IntKind.u64.wrap (x.ver + 1))
            refine ⟨role, _, hI, rfl, rfl, rfl, rfl, ?_, hKP, fun _ _ => rfl⟩
            rw [HCH.out, HDO.out, if_pos HKD.out, if_pos rfl, set_pure]; rfl)
          have q8 : wy.cell? ⟨g, n * 9 + 8, none⟩ = some (.int .u64 x.ver) := by
            have h8 := (HCL.out _ (HB.out.trans (HRG.out.below.mono HB.out.size)) 8 _ rfl).1
            rw [cell_of_row _ _ _ _ _ _ HCU.out] at h8
            rw [cell_of_row _ _ _ _ _ _ h7, rowPut_out _ _ _ _ HSZ.out (Or.inr (by simp))]
            exact h8
          have f8 := frozen_of_row h7 (n * 9 + 8)
          clear h7 k7 s7 b0 b1 b2 b3 b4
          go_wp2_with fail
          go_returns
          exact ⟨rfl, HEND.out⟩
        · have h0' : (eg == 0) = false := by simpa using h0
          have HST : Hid (LedRet w role G G.now G.cor (changeP G.pure s) x3) := Lib.hid (by
            rw [HCH.out, HDO.out, if_pos HKD.out, if_neg h0]
            exact LedRet.still HH.out (HB.out.trans (HRG.out.below.mono HB.out.size)))
          clear h0
          go_wp2_with fail
          go_returns
          exact ⟨rfl, HST.out⟩
      · have hk1 : (s.kind == 103) = false := by simpa using hkd
        have HKD := Lib.hid hkd
        clear hkd
        by_cases h0 : ev = 0
        · subst h0
          obtain ⟨cur, hcur, hsz⟩ := own_cells ((HH.out.below (HB.out.trans (HRV.out.below.mono HB.out.size))).row K _ HKX.out.1)
          have hszn : n * 9 + 3 + 5 ≤ cur.size := by have := HNX.out; dsimp only at hsz; rw [this] at hsz; omega
          obtain ⟨b0, b1, b2, b3, b4⟩ := row5c HRV.out.row
          have HCU := Lib.hid hcur
          have HSZ := Lib.hid hszn
          clear hcur hsz hszn
          go_wp2_with (with_reducible refine wp_stop_store_agg (c := #[.string rv.owner, .string rv.file, .int .i64 rv.epoch, .slice A rv.rd.length ca, .slice C rv.wr.length cc]) _ _ _ rfl rfl ?_)
          unfold Stop
          refine wp_store_row rfl _ _ _ rfl rfl rfl _ _ HCU.out info_rt HSZ.out (by simp [Value.oneCell']) ?_
          intro wy h7 k7 s7
          have HEND : Hid (LedRet w role G G.now G.cor (changeP G.pure s) (wy.setCell ⟨g, n * 9 + 8, none⟩ (.int .u64 (IntKind.u64.wrap (x.ver + 1))))) := Lib.hid (by
            obtain ⟨hI, hKP⟩ := HH.out.changed HKX.out.1 HKX.out.2 (HRV.out.lower HB.out) HCU.out h7 k7 (IntKind.u64.wrap (x.ver + 1))
            refine ⟨role, _, hI, rfl, rfl, rfl, rfl, ?_, hKP, fun _ _ => rfl⟩
            rw [HCH.out, HDO.out, if_neg HKD.out, if_pos rfl, set_pure]; rfl)
          have q8 : wy.cell? ⟨g, n * 9 + 8, none⟩ = some (.int .u64 x.ver) := by
            have h8 := (HCL.out _ (HB.out.trans (HRV.out.below.mono HB.out.size)) 8 _ rfl).1
            rw [cell_of_row _ _ _ _ _ _ HCU.out] at h8
            rw [cell_of_row _ _ _ _ _ _ h7, rowPut_out _ _ _ _ HSZ.out (Or.inr (by simp))]
            exact h8
          have f8 := frozen_of_row h7 (n * 9 + 8)
          clear h7 k7 s7 b0 b1 b2 b3 b4
          go_wp2_with fail
          go_returns
          exact ⟨rfl, HEND.out⟩
        · have h0' : (ev == 0) = false := by simpa using h0
          have HST : Hid (LedRet w role G G.now G.cor (changeP G.pure s) wx) := Lib.hid (by
            rw [HCH.out, HDO.out, if_neg HKD.out, if_neg h0]
            exact LedRet.still HH.out (HB.out.trans (HRV.out.below.mono HB.out.size)))
          clear h0
          go_wp2_with fail
          go_returns
          exact ⟨rfl, HST.out⟩
end Go.Proofs.YtgacfkenndhcnaaDoor
namespace Go.Proofs.YtgacfkenndhcnaaDoor
open Go.RowKit
set_option linter.unusedVariables false
set_option linter.unusedSimpArgs false

/-- the ledger's own block, and the row of who is corrupted, are others -/
theorem IsLed.head {F : Nat → Prop} {w w' : World} {role role' : Nat → Role} {G : LedM} (h : IsLed w role G) (K : Keep F w w') (hF : ∀ q, F q → q < w.heap.size → q = G.b ∨ role q = .cor) (hr : ∀ q, q < w.heap.size → role' q = role q) (hl : ∀ q, role' q ≠ .none → q < w'.heap.size) {now' : Int} {vc' : Value} {cor' : List ByteArray}
    (hb : w'.heap[G.b]? = some (.cells #[.int .u64 G.bound, .int .u64 now', vc', .map (some G.bm)] 54 (0, 0))) (hc : w'.ownsRow 0 9 1 vc' cor'.length (strV cor')) (hrc : ∀ g, vc'.ownBlock = some g → role' g = .cor) : IsLed w' role' { G with now := now', vc := vc', cor := cor' } := by
  have hbl := (Array.getElem?_eq_some_iff.1 h.blk).1
  have hnf : ∀ q, q < w.heap.size → role q ≠ .led → role q ≠ .cor → ¬ F q := fun q hq a b hf => by
    rcases hF q hf hq with e | e
    · exact a (by rw [e]; exact h.rb)
    · exact b e
  refine ⟨hb, (hr _ hbl).trans h.rb, hc, hrc, K.smap h.map (hnf _ h.map.lt (by rw [h.rmp]; simp) (by rw [h.rmp]; simp)), (hr _ h.map.lt).trans h.rmp, fun k r hk => K.own (h.row k r hk) fun g hg => hnf g (World.ownsRow.lt (h.row k r hk) g hg).2 (by rw [h.rr k r hk g hg]; simp) (by rw [h.rr k r hk g hg]; simp),
    fun k r hk g hg => (hr g (World.ownsRow.lt (h.row k r hk) g hg).2).trans (h.rr k r hk g hg), fun k r hk i x hx => (h.life k r hk i x hx).keep K (fun g a b => ?_) hr, hl⟩
  rcases hF g a b with e | e
  · rw [e, h.rb]; simp
  · rw [e]; simp
theorem IsLed.tick {w : World} {role : Nat → Role} {G : LedM} (h : IsLed w role G) (V : Int) : IsLed (w.setCell ⟨G.b, 1, none⟩ (.int .u64 V)) role { G with now := V } ∧ Keep (fun q => role q ≠ .none) w (w.setCell ⟨G.b, 1, none⟩ (.int .u64 V)) := by
  have K : Keep (fun q => q = G.b) w (w.setCell ⟨G.b, 1, none⟩ (.int .u64 V)) := Keep.setCell (fun q => q = G.b) w (p := ⟨G.b, 1, none⟩) rfl _
  refine ⟨h.head K (fun q e _ => Or.inl e) (fun _ _ => rfl) (fun q hq => Nat.lt_of_lt_of_le (h.low q hq) K.size) (by rw [set_at h.blk]; rfl) (K.own h.cor fun q hq e => ?_) h.rc, K.mono fun q e => ?_⟩
  · have := h.rc q hq; rw [e, h.rb] at this; cases this
  · rw [e, h.rb]; simp
/-- one more is corrupted -/
theorem append_cor {w : World} {v : Value} {l : List ByteArray} (ho : w.ownsRow 0 9 1 v l.length (strV l)) (k : ByteArray) (hl : l.length ≤ 1000000000) :
    ∃ A c w', (Builtin.append_ #[33, 33] 33 #[v, .slice (some ⟨w.heap.size, 0, none⟩) 1 1]).run Tryd.prog (w.alloc (.cells #[.string k] 9)) = .ok (.slice A (l.length + 1) c) w' ∧
      w'.ownsRow 0 9 1 (.slice A (l.length + 1) c) (l ++ [k]).length (strV (l ++ [k])) ∧ Keep (fun i => v.ownBlock = some i) w w' ∧ ((Value.slice A (l.length + 1) c).ownBlock = v.ownBlock ∨ (Value.slice A (l.length + 1) c).ownBlock = some (w.heap.size + 1)) := by
  obtain ⟨i0, hi, hz0, hz1, hz2⟩ := info_parts info9
  obtain ⟨v', w', hr, h2, h3, h4, h5⟩ := run_append_own_at (P := Tryd.prog) (w.alloc (.cells #[.string k] 9)) 0 33 33 9 i0 (.string ⟨#[]⟩) 1 16 Tryd.underlying33 hi hz0 hz1 hz2 rfl (by decide) v l.length (strV l) (ho.alloc _)
    ⟨w.heap.size, 0, none⟩ 1 1 [.string k] rfl (cell_one_new w _ _) (by simp [Value.oneCell']) (by unfold maxLen; omega) (by omega) (by rw [size_alloc]; omega)
  have hex : ∃ A c, v' = .slice A (l.length + 1) c := by
    rcases h2.2 with ⟨rfl, h0⟩ | ⟨g, cap, cur, hv, _⟩
    · omega
    · exact ⟨_, _, hv⟩
  obtain ⟨A, c, rfl⟩ := hex
  exact ⟨A, c, w', hr, by simpa [strV] using h2, (Keep.alloc _ w _).same (Keep.of_grown h3 fun i e => e), by simpa [size_alloc] using h5⟩
theorem IsLed.corrupted {w w1 : World} {role : Nat → Role} {G : LedM} (h : IsLed w role G) {u : Value} {cor' : List ByteArray} (ho : w1.ownsRow 0 9 1 u cor'.length (strV cor')) (K1 : Keep (fun q => G.vc.ownBlock = some q) w w1) (loc : u.ownBlock = G.vc.ownBlock ∨ u.ownBlock = some (w.heap.size + 1)) :
    ∃ role', IsLed (w1.setCell ⟨G.b, 2, none⟩ u) role' { G with vc := u, cor := cor' } ∧ Keep (fun q => role q ≠ .none) w (w1.setCell ⟨G.b, 2, none⟩ u) ∧ ∀ q, q < w.heap.size → role' q = role q := by
  have hbl := (Array.getElem?_eq_some_iff.1 h.blk).1
  have K2 : Keep (fun q => q = G.b) w1 (w1.setCell ⟨G.b, 2, none⟩ u) := Keep.setCell (fun q => q = G.b) w1 (p := ⟨G.b, 2, none⟩) rfl u
  have K : Keep (fun q => G.vc.ownBlock = some q ∨ q = G.b) w (w1.setCell ⟨G.b, 2, none⟩ u) := (K1.mono fun q e => Or.inl e).trans K2 fun q e => Or.inl (Or.inr e)
  have hr : ∀ q, q < w.heap.size → (if u.ownBlock = some q then Role.cor else role q) = role q := fun q hq => by
    by_cases e : u.ownBlock = some q
    · rw [if_pos e]
      rcases loc with e2 | e2
      · exact (h.rc q (e2.symm.trans e)).symm
      · rw [e2] at e; cases e; omega
    · rw [if_neg e]
  have hub : u.ownBlock ≠ some G.b := fun e => by
    rcases loc with e2 | e2
    · have := h.rc G.b (e2.symm.trans e); rw [h.rb] at this; cases this
    · rw [e2] at e; have := Option.some.inj e; omega
  have hblk1 := K1.at h.blk fun e => by have := h.rc G.b e; rw [h.rb] at this; cases this
  refine ⟨fun q => if u.ownBlock = some q then .cor else role q, h.head K (fun q e _ => ?_) hr (fun q hq => ?_) (by rw [set_at hblk1]; rfl) (K2.own ho fun q hq e => by subst e; exact hub hq) (fun q hq => if_pos hq), K.mono fun q e => ?_, hr⟩
  · rcases e with e | e
    · exact Or.inr (h.rc q e)
    · exact Or.inl e
  · by_cases e : u.ownBlock = some q
    · exact Nat.lt_of_lt_of_le (World.ownsRow.lt ho q e).2 K2.size
    · simp only [if_neg e] at hq
      exact Nat.lt_of_lt_of_le (h.low q hq) K.size
  · rcases e with e | e
    · rw [h.rc q e]; simp
    · rw [e, h.rb]; simp

/-! ### a life is gone -/
theorem IsLed.goned {w : World} {role : Nat → Role} {G : LedM} (h : IsLed w role G) {k : ByteArray} {g n c : Nat} {xs : List LifeM} (hk : aget G.rows k = some (.slice (some ⟨g, 0, none⟩) n c, xs)) {i : Nat} {x : LifeM} (hx : xs[i]? = some x) :
    IsLed (w.setCell ⟨g, i * 9 + 2, none⟩ (.bool true)) role { G with rows := aput G.rows k (.slice (some ⟨g, 0, none⟩) n c, xs.set i { x with gone := true }) } ∧ Keep (fun q => role q ≠ .none) w (w.setCell ⟨g, i * 9 + 2, none⟩ (.bool true)) := by
  have hg : role g = .row k := h.rr k _ hk g rfl
  have hn : n = xs.length := by
    obtain ⟨A, c', hv, _, _⟩ := own_slice (h.row k _ hk)
    dsimp only at hv; cases hv; rfl
  subst hn
  have K : Keep (fun q => q = g) w (w.setCell ⟨g, i * 9 + 2, none⟩ (.bool true)) := Keep.setCell (fun q => q = g) w (p := ⟨g, i * 9 + 2, none⟩) rfl _
  have hrow := h.row k _ hk
  dsimp only at hrow
  have hrow2 := (hrow.stored (i * 9 + 2) (.bool true)).1
  rw [← flat_set lifeV_len hx (x' := { x with gone := true }) (by omega) rfl] at hrow2
  have hL := h.life k _ hk i x hx
  have hF : ∀ q, q = g → q < w.heap.size → role q ≠ .none ∧ role q ≠ .mrk k i ∧ role q ≠ .wrd k i := fun q e _ => by subst e; rw [hg]; simp
  have hL' := hL.keep K hF fun _ _ => rfl
  exact ⟨h.set hk hx _ K (fun q e _ => Or.inl (by rw [e]; exact hg)) (fun _ _ => rfl) (fun q hq => Nat.lt_of_lt_of_le (h.low q hq) K.size) hrow2 ⟨hL'.mrk, hL'.wrd, hL'.rm, hL'.rw, hL'.rt, hL'.mls⟩, K.mono fun q e => by rw [e, hg]; simp⟩

/-! ### a word more -/
theorem info_word : (Tryd.prog.info? 61).map (fun i => (i.zero, i.size, i.bytes)) = some (some (.agg #[.string ⟨#[]⟩, .string ⟨#[]⟩, .int .i64 0]), 3, 40) := by kernel_rfl
theorem append_word {w : World} {v : Value} {ms : List Word} (ho : w.ownsRow 0 61 3 v ms.length (ms.flatMap wordV)) (m : Word) (hl : ms.length ≤ 100000) :
    ∃ A c w', (Builtin.append_ #[42, 42] 42 #[v, .slice (some ⟨w.heap.size, 0, none⟩) 1 1]).run Tryd.prog (w.alloc (.cells #[.string m.who, .string m.text, .int .i64 m.epoch] 61)) = .ok (.slice A (ms.length + 1) c) w' ∧
      w'.ownsRow 0 61 3 (.slice A (ms.length + 1) c) (ms ++ [m]).length ((ms ++ [m]).flatMap wordV) ∧ Keep (fun i => v.ownBlock = some i) w w' ∧ ((Value.slice A (ms.length + 1) c).ownBlock = v.ownBlock ∨ (Value.slice A (ms.length + 1) c).ownBlock = some (w.heap.size + 1)) ∧ w.heap.size < w'.heap.size := by
  obtain ⟨i0, hi, hz0, hz1, hz2⟩ := info_parts info_word
  have ho1 : (w.alloc (.cells #[.string m.who, .string m.text, .int .i64 m.epoch] 61)).ownsRow 0 61 3 v ms.length (ms.flatMap wordV) := ho.alloc _
  obtain ⟨v', w', hr, g2, g3, g4, g5⟩ := run_append_own_at (P := Tryd.prog) (w.alloc (.cells #[.string m.who, .string m.text, .int .i64 m.epoch] 61)) 0 42 42 61 i0 _ 3 40 Tryd.underlying42 hi hz0 hz1 hz2 rfl (by decide) v ms.length (ms.flatMap wordV) ho1
    ⟨w.heap.size, 0, none⟩ 1 1 (wordV m) rfl (fun j u hj => by rw [add_at, Nat.zero_add, cell_of_row _ _ _ _ _ _ (MapKept.heap_alloc w _).1, ← Array.getElem?_toList]; exact hj) (by intro u hu; simp only [wordV, List.mem_cons, List.not_mem_nil, or_false] at hu; rcases hu with rfl | rfl | rfl <;> rfl) (by unfold maxLen; omega) (by omega) (by rw [size_alloc]; omega)
  have hex : ∃ A c, v' = .slice A (ms.length + 1) c := by
    rcases g2.2 with ⟨rfl, h0⟩ | ⟨g, cap, cur, hv, _⟩
    · omega
    · exact ⟨_, _, hv⟩
  obtain ⟨A, c, rfl⟩ := hex
  refine ⟨A, c, w', hr, by rw [flat_snoc]; simpa using g2, ?_, by simpa [size_alloc] using g5, by have := g3.size; rw [size_alloc] at this; exact this⟩
  exact (Keep.alloc _ w _).same (Keep.of_grown g3 fun k hk => hk)
def LifeM.worded (x : LifeM) (m : Word) (vd : Value) : LifeM := { x with ws := x.ws ++ [m], vd := vd }
theorem IsLed.worded {w w1 : World} {role : Nat → Role} {G : LedM} (h : IsLed w role G) {k : ByteArray} {g n c : Nat} {xs : List LifeM} (hk : aget G.rows k = some (.slice (some ⟨g, 0, none⟩) n c, xs)) {i : Nat} {x : LifeM} (hx : xs[i]? = some x) {u : Value} (m : Word)
    (h2 : w1.ownsRow 0 61 3 u (x.ws ++ [m]).length ((x.ws ++ [m]).flatMap wordV)) (K1 : Keep (fun q => x.vd.ownBlock = some q) w w1) (loc : u.ownBlock = x.vd.ownBlock ∨ u.ownBlock = some (w.heap.size + 1)) (hsz : w.heap.size < w1.heap.size) :
    ∃ role', IsLed (w1.setCell ⟨g, i * 9 + 1, none⟩ u) role' { G with rows := aput G.rows k (.slice (some ⟨g, 0, none⟩) n c, xs.set i (x.worded m u)) } ∧ Keep (fun q => role q ≠ .none) w (w1.setCell ⟨g, i * 9 + 1, none⟩ u) ∧ ∀ q, q < w.heap.size → role' q = role q := by
  have hL := h.life k _ hk i x hx
  have hg : role g = .row k := h.rr k _ hk g rfl
  have hgl : g < w.heap.size := h.low g (by rw [hg]; simp)
  have hn : n = xs.length := by
    obtain ⟨A, c', hv, _, _⟩ := own_slice (h.row k _ hk)
    dsimp only at hv; cases hv; rfl
  subst hn
  have hug : u.ownBlock ≠ some g := fun e => by
    rcases loc with e2 | e2
    · have := hL.rw g (e2.symm.trans e); rw [hg] at this; cases this
    · rw [e2] at e; cases e; omega
  have K2 : Keep (fun q => q = g) w1 (w1.setCell ⟨g, i * 9 + 1, none⟩ u) := Keep.setCell (fun q => q = g) w1 (p := ⟨g, i * 9 + 1, none⟩) rfl u
  have K : Keep (fun q => x.vd.ownBlock = some q ∨ q = g) w (w1.setCell ⟨g, i * 9 + 1, none⟩ u) := (K1.mono fun q e => Or.inl e).trans K2 fun q e => Or.inl (Or.inr e)
  have hr : ∀ q, q < w.heap.size → (if u.ownBlock = some q then Role.wrd k i else role q) = role q := fun q hq => by
    by_cases e : u.ownBlock = some q
    · rw [if_pos e]
      rcases loc with e2 | e2
      · exact (hL.rw q (e2.symm.trans e)).symm
      · rw [e2] at e; cases e; omega
    · rw [if_neg e]
  have hF : ∀ q, (x.vd.ownBlock = some q ∨ q = g) → q < w.heap.size → role q = .row k ∨ role q = .mrk k i ∨ role q = .wrd k i := fun q e _ => by
    rcases e with e | rfl
    · exact Or.inr (Or.inr (hL.rw q e))
    · exact Or.inl hg
  refine ⟨fun q => if u.ownBlock = some q then .wrd k i else role q, ?_, K.mono fun q e => ?_, hr⟩
  · refine h.set hk hx _ K hF hr (fun q hq => ?_) ?_ ⟨?_, ?_, ?_, ?_, ?_, ?_⟩
    · by_cases e : u.ownBlock = some q
      · exact Nat.lt_of_lt_of_le (World.ownsRow.lt h2 q e).2 K2.size
      · simp only [if_neg e] at hq
        exact Nat.lt_of_lt_of_le (h.low q hq) K.size
    · have h0 := K1.own (h.row k _ hk) fun q hq e => by
        have a := hL.rw q e
        have b := h.rr k _ hk q hq
        rw [a] at b; cases b
      have := (h0.stored (i * 9 + 1) u).1
      dsimp only at this
      rwa [← flat_set lifeV_len hx (x' := x.worded m u) (by omega) rfl] at this
    · refine K.own hL.mrk fun q hq e => ?_
      have a := hL.rm q hq
      rcases e with e | rfl
      · have := hL.rw q e; rw [a] at this; cases this
      · rw [hg] at a; cases a
    · exact K2.own h2 fun q hq e => by subst e; exact hug hq
    · intro q hq
      exact (hr q (World.ownsRow.lt hL.mrk q hq).2).trans (hL.rm q hq)
    · intro q hq; exact if_pos hq
    · exact hL.rt.keep K (fun q e hq => by rcases hF q e hq with b | b | b <;> rw [b] <;> simp) hr
    · intro m hm
      exact (hL.mls m hm).keep K (fun q e hq => by rcases hF q e hq with b | b | b <;> rw [b] <;> simp) hr
  · rcases e with e | rfl
    · rw [hL.rw q e]; simp
    · rw [hg]; simp

/-! ### what is left -/
theorem LedRet.trans {w w1 w2 : World} {role : Nat → Role} {G : LedM} {n1 n2 : Int} {c1 c2 : List ByteArray} {P1 P2 : PLed} (h : LedRet w role G n1 c1 P1 w1) (k : ∀ role1 G1, IsLed w1 role1 G1 → G1.b = G.b → G1.now = n1 → G1.cor = c1 → G1.pure = P1 → LedRet w1 role1 G1 n2 c2 P2 w2) : LedRet w role G n2 c2 P2 w2 := by
  obtain ⟨r1, G1, hI, hb, hbo, hn, hc, hp, hk, ho⟩ := h
  obtain ⟨r2, G2, hI2, hb2, hbo2, hn2, hc2, hp2, hk2, ho2⟩ := k r1 G1 hI hb hn hc hp
  refine ⟨r2, G2, hI2, hb2.trans hb, hbo2.trans hbo, hn2, hc2, hp2, hk.trans hk2 fun q hq => ?_, fun q hq => (ho2 q (Nat.lt_of_lt_of_le hq hk.size)).trans (ho q hq)⟩
  by_cases hql : q < w.heap.size
  · left; rw [ho q hql] at hq; exact hq
  · right; omega
theorem LedRet.lift {w W w' : World} {role : Nat → Role} {G : LedM} {n : Int} {c : List ByteArray} {P : PLed} (hb : Below w.heap.size w W) (h : LedRet W role G n c P w') : LedRet w role G n c P w' := by
  obtain ⟨r2, G2, hI2, hb2, hbo2, hn2, hc2, hp2, hk2, ho2⟩ := h
  exact ⟨r2, G2, hI2, hb2, hbo2, hn2, hc2, hp2, (Keep.of_below hb).same hk2, fun q hq => ho2 q (Nat.lt_of_lt_of_le hq hb.size)⟩
/-- a thing that is the ledger's is none of the tables -/
theorem IsLed.tabs {w w' : World} {role : Nat → Role} (hT : Tabs w) (h3 : role (Tryd.laysValid_ren.g 3) = .none) (h4 : role (Tryd.laysValid_ren.g 4) = .none) (K : Keep (fun q => role q ≠ .none) w w') : Tabs w' := hT.keep K (fun e => e h3) fun e => e h4
end Go.Proofs.YtgacfkenndhcnaaDoor
