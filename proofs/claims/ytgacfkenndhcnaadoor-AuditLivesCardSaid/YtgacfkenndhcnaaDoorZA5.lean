/- Names: name.within, name.letter, name.Right. Rights: rights.Right. A struct into the cells of a row: at the operation. No program in sight. Rights: other, asked, New, Can. A region that draws its order: two may come up. Names are short; rights that are right are small. -/
import Derived.Test.YtgacfkenndhcnaaDoorZA1
import Derived.Test.YtgacfkenndhcnaaDoorProg
import Derived.Test.YtgacfkenndhcnaaDoorLayVS
import Derived.Shelf.Unicode.ValidAny
import Derived.WalkKit
import Derived.OwnWalk
import Derived.Deep.QuietTactic
import Derived.BigQuiet
import Derived.KernelRfl
import Derived.Outline
import Derived.Deep.LoopGhost
import Derived.Lib.OthersKept
import Derived.Lib.TrimUEq
import Derived.Test.YtgacfkenndhcnaaDoorZA2
import Derived.Handy
import Derived.Laws.CopyRow
import Derived.Laws.Rows
namespace Go.Proofs.YtgacfkenndhcnaaDoor
open Go.RowKit Go.Lib
set_option linter.unusedVariables false
set_option linter.unusedSimpArgs false

def spanV (s : Int × Int) : List Value := [.int .i32 s.1, .int .i32 s.2]
def inSpan (r : Int) (s : Int × Int) : Bool := decide (s.1 ≤ r) && decide (r ≤ s.2)
def spans : List (Int × Int) := [(97, 122), (48, 57), (45, 45), (223, 246), (248, 255), (945, 969), (1072, 1103)]
theorem spans_letter (r : Nat) : spans.any (inSpan r) = isLetter r := by
  rw [Bool.eq_iff_iff]
  simp [spans, inSpan, isLetter]
  omega

set_option maxHeartbeats 800000 in
theorem within_calls (r : Int) (w : World) (v : Value) (l : List (Int × Int)) (hv : rowsOf 2 spanV w v l) :
    Calls Tryd.prog 61 #[.int .i32 r, v] w fun e w' => e = .returned (.bool (l.any (inSpan r))) ∧ Below w.heap.size w w' := by
  have HV := Lib.hid hv
  obtain ⟨A, c, rfl, h1, h2, h3⟩ := hv
  clear h3
  go_enter Tryd.func61, Tryd.ntmps61
  go_wp2
  go_loopw [9, 6] (fun i s wr => ∃ k : Nat, k ≤ l.length ∧ i = .int .i64 k ∧ Hid ((l.take k).any (inSpan r) = false ∧ Below w.heap.size w wr)) (fun i _ _ => l.length - (RowKit.intOf i).toNat)
  case atStart => exact ⟨0, Nat.zero_le _, rfl, by simp, Below.refl _ _⟩
  case round =>
    obtain ⟨k, hk, rfl, HO⟩ := hrel
    by_cases hlt : k < l.length
    · obtain ⟨⟨a, b⟩, hx⟩ : ∃ x, l[k]? = some x := ⟨_, List.getElem?_eq_getElem hlt⟩
      obtain ⟨A', c', e, _, _, h3⟩ := HV.out.below HO.out.2
      obtain ⟨bb, off, rfl, hc⟩ := h3 (by omega)
      cases e
      have c0 := hc k _ hx 0 _ rfl
      have c1 := hc k _ hx 1 _ rfl
      have hst : (l.take (k + 1)).any (inSpan r) = ((l.take k).any (inSpan r) || inSpan r (a, b)) := by rw [take_succ_get' hx]; simp
      have hall : inSpan r (a, b) = true → l.any (inSpan r) = true := fun h => List.any_eq_true.2 ⟨_, List.mem_of_getElem? hx, h⟩
      have HS := Lib.hid hst
      have HA := Lib.hid hall
      have hbl : Below w.heap.size w (wr.alloc (.cells #[.int .i32 a, .int .i32 b] 110)) := HO.out.2.trans ((Below.refl _ wr).alloc HO.out.2.size _)
      have HB := Lib.hid hbl
      clear hx hc h3 hst hall hbl
      simp only [Nat.add_zero] at c0
      by_cases hin : a ≤ r
      · by_cases hin2 : r ≤ b
        · have ha : l.any (inSpan r) = true := HA.out (by simp [inSpan, hin, hin2])
          have HR := Lib.hid ha
          clear ha
          go_wp2
          go_ret
          exact ⟨by rw [HR.out]; rfl, HB.out⟩
        · have hf : (l.take (k + 1)).any (inSpan r) = false := by rw [HS.out, HO.out.1]; simp [inSpan, hin2]
          have HF : Hid ((l.take (k + 1)).any (inSpan r) = false ∧ Below w.heap.size w (wr.alloc (.cells #[.int .i32 a, .int .i32 b] 110))) := ⟨hf, HB.out⟩
          clear hf
          go_wp2
          go_roundw
          case rel => exact ⟨k + 1, by omega, by go_num, HF⟩
          case measure => simp [RowKit.intOf]; omega
      · have hf : (l.take (k + 1)).any (inSpan r) = false := by rw [HS.out, HO.out.1]; simp [inSpan, hin]
        have HF : Hid ((l.take (k + 1)).any (inSpan r) = false ∧ Below w.heap.size w (wr.alloc (.cells #[.int .i32 a, .int .i32 b] 110))) := ⟨hf, HB.out⟩
        clear hf
        go_wp2
        go_roundw
        case rel => exact ⟨k + 1, by omega, by go_num, HF⟩
        case measure => simp [RowKit.intOf]; omega
    · have hf : l.any (inSpan r) = false := by have := HO.out.1; rwa [List.take_of_length_le (by omega)] at this
      have HR := Lib.hid hf
      clear hf
      go_wp2
      go_ret
      exact ⟨by rw [HR.out]; rfl, HO.out.2⟩

set_option maxHeartbeats 800000 in
theorem letter_calls (r : Nat) (w : World) : Calls Tryd.prog 55 #[.int .i32 r] w fun e w' => e = .returned (.bool (isLetter r)) ∧ Below w.heap.size w w' := by
  have hrow : rowsOf 2 spanV (w.alloc (.cells #[.int .i32 97, .int .i32 122, .int .i32 48, .int .i32 57, .int .i32 45, .int .i32 45, .int .i32 223, .int .i32 246, .int .i32 248, .int .i32 255, .int .i32 945, .int .i32 969, .int .i32 1072, .int .i32 1103] 110)) (.slice (some ⟨w.heap.size, 0, none⟩) 7 7) spans := by
    refine ⟨_, _, rfl, by decide, by decide, fun _ => ⟨_, _, rfl, fun i a hi j u hu => ?_⟩⟩
    rw [cell_of_row _ _ _ _ _ _ (MapKept.heap_alloc w _).1]
    have hi7 : i < 7 := (List.getElem?_eq_some_iff.1 hi).1
    have hj2 : j < 2 := by have := (List.getElem?_eq_some_iff.1 hu).1; simpa [spanV] using this
    rcases i with _ | _ | _ | _ | _ | _ | _ | i <;> rcases j with _ | _ | j <;> simp_all [spans, spanV] <;> first | omega | (rw [← hi] at hu; simpa using hu)
  have HR := Lib.hid hrow
  have hl := spans_letter r
  have HL := Lib.hid hl
  clear hrow hl
  go_enter Tryd.func55, Tryd.ntmps55
  go_wp2_with fail
  refine (within_calls r _ _ spans HR.out).mono ?_
  rintro e w' ⟨rfl, hb⟩
  rw [HL.out]
  have HB := Lib.hid hb
  clear hb
  go_wp2_with fail
  go_ret
  exact ⟨rfl, ((Below.refl _ w).alloc (Nat.le_refl _) _).trans (HB.out.mono (by simp))⟩

def Tabs (w : World) : Prop := Lib.Utf8Tabs (Tryd.laysValid_ren.g 3) (Tryd.laysValid_ren.g 4) w

theorem name_step {s : ByteArray} {pos n : Nat} (hp : pos < s.size) (h : letters s.data.toList = (letters (s.data.toList.drop pos)).map (· + n)) :
    (isLetter (Utf8.decode s pos).1 = true → letters s.data.toList = (letters (s.data.toList.drop (pos + (Utf8.decode s pos).2))).map (· + (n + 1))) ∧ (isLetter (Utf8.decode s pos).1 = false → nameR s = false) := by
  have hne : s.data.toList.drop pos ≠ [] := by
    intro e; have := congrArg List.length e; simp at this; omega
  have hst := letters_step _ hne
  rw [decodeL_drop] at hst
  refine ⟨fun hl => ?_, fun hl => ?_⟩
  · rw [h, hst, if_pos hl, List.drop_drop, Option.map_map]
    congr 1; funext k; simp only [Function.comp]; omega
  · rw [hl] at hst
    simp only [Bool.false_eq_true, if_false] at hst
    unfold nameR; rw [h, hst]; rfl
theorem name_end {s : ByteArray} {pos n : Nat} (hp : ¬ pos < s.size) (h : letters s.data.toList = (letters (s.data.toList.drop pos)).map (· + n)) : nameR s = (decide (1 ≤ n) && decide (n ≤ 32)) := by
  have he : s.data.toList.drop pos = [] := List.drop_of_length_le (by simp; omega)
  rw [he, letters_nil] at h
  simp at h
  unfold nameR; rw [h]
theorem decode_fits {s : ByteArray} {pos : Nat} (hp : pos < s.size) : 1 ≤ (Utf8.decode s pos).2 ∧ pos + (Utf8.decode s pos).2 ≤ s.size := by
  have hne : s.data.toList.drop pos ≠ [] := by
    intro e; have := congrArg List.length e; simp at this; omega
  have h1 := decodeL_width (s.data.toList.drop pos)
  have h2 := decodeL_le _ hne
  rw [decodeL_drop] at h1 h2
  simp at h2
  omega

theorem ret_bool {a b : Bool} (h : a = b) : Ending.returned (.bool a) = Ending.returned (.bool b) := by rw [h]
theorem below_iterAt {w wr : World} {it pos : Nat} {s : ByteArray} (h : Below w.heap.size w wr) (hi : w.heap.size ≤ it) : Below w.heap.size w (wr.iterAt it s pos) := by
  refine ⟨h.os, h.tape, h.output, ?_, fun k hk => ?_⟩
  · show w.heap.size ≤ (wr.heap.setIfInBounds it _).size
    rw [Array.size_setIfInBounds]; exact h.size
  · show (wr.heap.setIfInBounds it _)[k]? = _
    rw [Array.getElem?_setIfInBounds_ne (by omega)]; exact h.block k hk

set_option maxRecDepth 100000 in
set_option maxHeartbeats 1000000 in
theorem right_calls (s : ByteArray) (w : World) (hs : s.size ≤ 9223372036854775807) (hT : Tabs w) :
    Calls Tryd.prog 44 #[.string s] w fun e w' => e = .returned (.bool (nameR s)) ∧ Below w.heap.size w w' := by
  have cV : Calls Tryd.prog 54 #[.string s] w fun e w' => e = .returned (.bool (validD s.data.toList)) ∧ Below w.heap.size w w' := Any.utf8_ValidString Tryd.laysValid s w hs hT
  have HV := Lib.hid cV
  clear cV hT
  cases hv : validD s.data.toList with
  | false =>
    have HR : Hid (nameR s = false) := Lib.hid (nameR_invalid hv)
    rw [hv] at HV
    clear hv
    go_enter Tryd.func44, Tryd.ntmps44
    go_wp2_with fail
    refine HV.out.mono ?_
    rintro e w1 ⟨rfl, hb⟩
    have HB := Lib.hid hb
    clear hb
    go_wp2_with fail
    go_ret
    exact ⟨by rw [HR.out]; rfl, HB.out⟩
  | true =>
    rw [hv] at HV
    clear hv
    go_enter Tryd.func44, Tryd.ntmps44
    go_wp2_with fail
    refine HV.out.mono ?_
    rintro e w1 ⟨rfl, hb⟩
    have HB : Hid (Below w.heap.size w (w1.iter s 0)) := Lib.hid (hb.trans ((Below.refl _ w1).alloc hb.size _))
    have hk : (w1.iter s 0).heap[w1.heap.size]? = some (.stringIter s 0) := World.iter_heap w1 s 0
    obtain ⟨it, hit⟩ : ∃ it, w1.heap.size = it := ⟨_, rfl⟩
    have HK : Hid ((w1.iter s 0).heap[it]? = some (.stringIter s 0) ∧ w.heap.size ≤ it) := by rw [← hit]; exact ⟨hk, hb.size⟩
    clear hb hk
    go_wp2_with fail
    clear hit
    go_loopg [3, 5] s.size (fun g n r wr => ∃ pos m : Nat, pos ≤ s.size ∧ g = s.size - pos ∧ m ≤ pos ∧ n = .int .i64 m ∧ Hid (wr.heap[it]? = some (.stringIter s pos) ∧ Below w.heap.size w wr ∧ letters s.data.toList = (letters (s.data.toList.drop pos)).map (· + m)))
    case atStart => exact ⟨0, 0, Nat.zero_le _, by omega, Nat.le_refl _, rfl, HK.out.1, HB.out, by simp⟩
    case round =>
      obtain ⟨pos, m, hpos, rfl, hm, rfl, HO⟩ := hrel
      by_cases hlt : pos < s.size
      · have hnx := fun ty => run_next_any_at (P := Tryd.prog) wr it s pos ty HO.out.1 hlt
        obtain ⟨hw1, hw2⟩ := decode_fits hlt
        obtain ⟨hs1, hs2⟩ := name_step hlt HO.out.2.2
        obtain ⟨⟨r, wd⟩, hd⟩ : ∃ p, Utf8.decode s pos = p := ⟨_, rfl⟩
        rw [hd] at hnx hw1 hw2 hs1 hs2
        dsimp only at hnx hw1 hw2 hs1 hs2
        have hi2 : Hid ((wr.iterAt it s (pos + wd)).heap[it]? = some (.stringIter s (pos + wd)) ∧ Below w.heap.size w (wr.iterAt it s (pos + wd))) := ⟨iterAt_heap wr it s pos _ HO.out.1, below_iterAt HO.out.2.1 HK.out.2⟩
        have HS1 := Lib.hid hs1
        have HS2 := Lib.hid hs2
        clear hs1 hs2 hd
        go_wp2_with fail
        refine (letter_calls r _).mono ?_
        rintro e w2 ⟨rfl, hb2⟩
        have HI : Hid (w2.heap[it]? = some (.stringIter s (pos + wd)) ∧ Below w.heap.size w w2) := ⟨(hb2.block it (Array.getElem?_eq_some_iff.1 hi2.out.1).1).trans hi2.out.1, hi2.out.2.trans (hb2.mono hi2.out.2.size)⟩
        clear hb2 hi2 hnx
        cases hl : isLetter r with
        | true =>
          have HL := Lib.hid (HS1.out hl)
          clear hl
          go_wp2_with fail
          go_roundg (s.size - (pos + wd))
          case measure => omega
          case rel => exact ⟨pos + wd, m + 1, by omega, rfl, by omega, by go_num, HI.out.1, HI.out.2, HL.out⟩
        | false =>
          have HL := Lib.hid (HS2.out hl)
          clear hl
          go_wp2_with fail
          go_ret
          exact ⟨by rw [HL.out]; rfl, HI.out.2⟩
      · have hnx := fun ty => run_next_end_at (P := Tryd.prog) wr it s pos ty HO.out.1 hlt
        have HE := Lib.hid (name_end hlt HO.out.2.2)
        by_cases h1 : 1 ≤ m
        · have e1 : decide ((1 : Int) ≤ (m : Int)) = true := by simp; omega
          go_wp2_with fail
          go_ret
          exact ⟨ret_bool (a := decide ((m : Int) ≤ 32)) (by rw [HE.out, decide_eq_true h1, Bool.true_and]; exact decide_eq_decide.2 (by omega)), HO.out.2.1⟩
        · have e1 : decide ((1 : Int) ≤ (m : Int)) = false := by simp; omega
          go_wp2_with fail
          go_ret
          exact ⟨ret_bool (by rw [HE.out, decide_eq_false h1]; rfl), HO.out.2.1⟩
end Go.Proofs.YtgacfkenndhcnaaDoor
namespace Go.Proofs.YtgacfkenndhcnaaDoor
open Go.RowKit Go.Sort
set_option linter.unusedVariables false
set_option linter.unusedSimpArgs false

structure Rt where
  owner : ByteArray
  file : ByteArray
  epoch : Int
  rd : List ByteArray
  wr : List ByteArray
def Rt.fits (r : Rt) (s : ByteArray) : Bool := nameR s && !decide (s = r.owner) && !(memB s r.rd && memB s r.wr)
def Rt.head (r : Rt) : Bool := nameR r.owner && nameR r.file && decide (0 ≤ r.epoch) && decide (r.epoch < 8) && decide (r.rd.length + r.wr.length ≤ 5) && risesB r.rd && risesB r.wr
def Rt.right (r : Rt) : Bool := r.head && (r.rd ++ r.wr).all r.fits
/-- what a slice of bytes, or of texts, can be -/
structure Rt.wf (r : Rt) : Prop where
  owner : r.owner.size ≤ 9223372036854775807
  file : r.file.size ≤ 9223372036854775807
  lo : -9223372036854775808 ≤ r.epoch
  hi : r.epoch ≤ 9223372036854775807
  all : ∀ s ∈ r.rd ++ r.wr, s.size ≤ 9223372036854775807
  len : r.rd.length + r.wr.length ≤ 4611686018427387903
theorem Tabs.keep {F : Nat → Prop} {w w' : World} (h : Tabs w) (k : Keep F w w') (h3 : ¬ F (Tryd.laysValid_ren.g 3)) (h4 : ¬ F (Tryd.laysValid_ren.g 4)) : Tabs w' :=
  ⟨fun c hc => k.cell (h.1 c hc) h3, fun i hi => ⟨k.cell (h.2 i hi).1 h4, k.cell (h.2 i hi).2 h4⟩⟩
theorem Tabs.below {w w' : World} (h : Tabs w) (k : Below w.heap.size w w') : Tabs w' := h.keep (F := fun _ => False) (Keep.of_below k) (fun e => e) fun e => e

/-- the rights' two lists, somewhere -/
structure Lists (w : World) (r : Rt) (vr vw : Value) : Prop where
  rd : strs w vr r.rd
  wr : strs w vw r.wr
theorem Lists.below {w w' : World} {r : Rt} {vr vw : Value} (h : Lists w r vr vw) (k : Below w.heap.size w w') : Lists w' r vr vw := ⟨h.rd.below k, h.wr.below k⟩
def rtCells (r : Rt) (vr vw : Value) : Array Value := #[.string r.owner, .string r.file, .int .i64 r.epoch, vr, vw]
/-- the rights in a block of its own, and all that was there as it was -/
structure RtAt (w w' : World) (b : Nat) (r : Rt) (vr vw : Value) : Prop where
  row : w'.heap[b]? = some (.cells (rtCells r vr vw) 46 (0, 0))
  lists : Lists w' r vr vw
  tabs : Tabs w'
  below : Below w.heap.size w w'
theorem RtAt.next {w w' w2 : World} {b : Nat} {r : Rt} {vr vw : Value} (h : RtAt w w' b r vr vw) (k : Below w'.heap.size w' w2) : RtAt w w2 b r vr vw :=
  ⟨(Keep.of_below k (F := fun _ => False)).at h.row fun e => e, h.lists.below k, h.tabs.below k, h.below.trans (k.mono h.below.size)⟩
theorem RtAt.cells {w w' : World} {b : Nat} {o f : ByteArray} {e : Int} {rd wr : List ByteArray} {vr vw : Value} (h : RtAt w w' b ⟨o, f, e, rd, wr⟩ vr vw) :
    w'.cell? ⟨b, 0, none⟩ = some (.string o) ∧ w'.cell? ⟨b, 1, none⟩ = some (.string f) ∧ w'.cell? ⟨b, 2, none⟩ = some (.int .i64 e) ∧ w'.cell? ⟨b, 3, none⟩ = some vr ∧ w'.cell? ⟨b, 4, none⟩ = some vw := by
  refine ⟨?_, ?_, ?_, ?_, ?_⟩ <;> (rw [cell_of_row _ _ _ _ _ _ h.row]; rfl)
theorem rt_box {w : World} {r : Rt} {vr vw : Value} (hl : Lists w r vr vw) (hT : Tabs w) : RtAt w (w.alloc (.cells (rtCells r vr vw) 46)) w.heap.size r vr vw :=
  ⟨(MapKept.heap_alloc w _).1, hl.below ((Below.refl _ w).alloc (Nat.le_refl _) _), hT.below ((Below.refl _ w).alloc (Nat.le_refl _) _), (Below.refl _ w).alloc (Nat.le_refl _) _⟩

set_option maxRecDepth 100000 in
set_option maxHeartbeats 4000000 in
theorem rright_calls (w : World) (r : Rt) (vr vw : Value) (hl : Lists w r vr vw) (hT : Tabs w) (hw : r.wf) :
    Calls Tryd.prog 41 #[.agg #[.string r.owner, .string r.file, .int .i64 r.epoch, vr, vw]] w fun e w' => e = .returned (.bool r.right) ∧ Below w.heap.size w w' := by
  obtain ⟨ow, fi, ep, rd, wr'⟩ := r
  have HX := Lib.hid (rt_box hl hT)
  obtain ⟨A, ca, rfl, a1, a2, _⟩ := hl.rd
  obtain ⟨C, cb, rfl, b1, b2, _⟩ := hl.wr
  obtain ⟨g1, g2, g3, g4, g5, g6⟩ := hw
  have G5 := Lib.hid g5
  dsimp only at *
  clear hl hT g5
  have HR : Hid (∀ b, Rt.head ⟨ow, fi, ep, rd, wr'⟩ = b → b = false → Rt.right ⟨ow, fi, ep, rd, wr'⟩ = false) := Lib.hid fun b h hb => by unfold Rt.right; rw [h, hb]; rfl
  have HH : Hid (Rt.head ⟨ow, fi, ep, rd, wr'⟩ = (nameR ow && nameR fi && decide (0 ≤ ep) && decide (ep < 8) && decide (rd.length + wr'.length ≤ 5) && risesB rd && risesB wr')) := Lib.hid rfl
  go_enter Tryd.func41, Tryd.ntmps41
  go_wp2_with fail
  refine (right_calls ow _ g1 HX.out.tabs).mono ?_
  rintro e w1 ⟨rfl, hb1⟩
  have X1 := Lib.hid (HX.out.next hb1)
  clear hb1
  cases h1 : nameR ow with
  | false =>
    have H1 := Lib.hid (HR.out _ (by rw [HH.out, h1]; rfl) rfl)
    clear h1
    go_wp2_with fail
    go_ret
    exact ⟨ret_bool H1.out.symm, X1.out.below⟩
  | true =>
  have H1 := Lib.hid h1
  clear h1
  obtain ⟨c0, c1, c2, c3, c4⟩ := X1.out.cells
  go_wp2_with fail
  refine (right_calls fi _ g2 X1.out.tabs).mono ?_
  rintro e w2 ⟨rfl, hb2⟩
  have X2 := Lib.hid (X1.out.next hb2)
  clear hb2 c0 c1 c2 c3 c4
  cases h2 : nameR fi with
  | false =>
    have H2 := Lib.hid (HR.out _ (by rw [HH.out, H1.out, h2]; rfl) rfl)
    clear h2
    go_wp2_with fail
    go_ret
    exact ⟨ret_bool H2.out.symm, X2.out.below⟩
  | true =>
  have H2 := Lib.hid h2
  clear h2
  obtain ⟨c0, c1, c2, c3, c4⟩ := X2.out.cells
  by_cases h3 : ep < 0
  · have H3 := Lib.hid (HR.out _ (by rw [HH.out, H1.out, H2.out, decide_eq_false (show ¬ 0 ≤ ep by omega)]; rfl) rfl)
    go_wp2_with fail
    go_ret
    exact ⟨ret_bool H3.out.symm, X2.out.below⟩
  by_cases h4 : 8 ≤ ep
  · have H3 := Lib.hid (HR.out _ (by rw [HH.out, H1.out, H2.out, decide_eq_true (show 0 ≤ ep by omega), decide_eq_false (show ¬ ep < 8 by omega)]; rfl) rfl)
    go_wp2_with fail
    go_ret
    exact ⟨ret_bool H3.out.symm, X2.out.below⟩
  by_cases h5 : (5 : Int) < rd.length + wr'.length
  · have H3 := Lib.hid (HR.out _ (by rw [HH.out, H1.out, H2.out, decide_eq_true (show 0 ≤ ep by omega), decide_eq_true (show ep < 8 by omega), decide_eq_false (show ¬ rd.length + wr'.length ≤ 5 by omega)]; rfl) rfl)
    go_wp2_with fail
    go_ret
    exact ⟨ret_bool H3.out.symm, X2.out.below⟩
  have HE : Hid (Rt.head ⟨ow, fi, ep, rd, wr'⟩ = (risesB rd && risesB wr')) := Lib.hid (by
    rw [HH.out, H1.out, H2.out, decide_eq_true (show 0 ≤ ep by omega), decide_eq_true (show ep < 8 by omega), decide_eq_true (show rd.length + wr'.length ≤ 5 by omega)]; simp)
  have hlen : rd.length + wr'.length ≤ 5 := by omega
  go_wp2_with fail
  refine (rises_calls _ _ rd X2.out.lists.rd).mono ?_
  rintro e w3 ⟨rfl, hd3⟩
  have X3 := Lib.hid (X2.out.next hd3.below)
  clear hd3 c0 c1 c2 c3 c4
  cases h6 : risesB rd with
  | false =>
    have H3 := Lib.hid (HR.out _ (by rw [HE.out, h6]; rfl) rfl)
    clear h6
    go_wp2_with fail
    go_ret
    exact ⟨ret_bool H3.out.symm, X3.out.below⟩
  | true =>
  have H6 := Lib.hid h6
  clear h6
  obtain ⟨c0, c1, c2, c3, c4⟩ := X3.out.cells
  go_wp2_with fail
  refine (rises_calls _ _ wr' X3.out.lists.wr).mono ?_
  rintro e w4 ⟨rfl, hd4⟩
  have X4 := Lib.hid (X3.out.next hd4.below)
  clear hd4 c0 c1 c2 c3 c4
  cases h7 : risesB wr' with
  | false =>
    have H3 := Lib.hid (HR.out _ (by rw [HE.out, H6.out, h7]; rfl) rfl)
    clear h7
    go_wp2_with fail
    go_ret
    exact ⟨ret_bool H3.out.symm, X4.out.below⟩
  | true =>
  have H7 := Lib.hid h7
  clear h7
  have HT : Hid (Rt.right ⟨ow, fi, ep, rd, wr'⟩ = (rd ++ wr').all (Rt.fits ⟨ow, fi, ep, rd, wr'⟩)) := Lib.hid (by unfold Rt.right; rw [HE.out, H6.out, H7.out]; simp)
  have RR : Hid (Rising rd) := Lib.hid (of_decide_eq_true H6.out)
  have RW : Hid (Rising wr') := Lib.hid (of_decide_eq_true H7.out)
  obtain ⟨c0, c1, c2, c3, c4⟩ := X4.out.cells
  go_wp2_with fail
  have hba : Below w4.heap.size w4 (w4.alloc (.cells #[.slice A rd.length ca, .slice C wr'.length cb] 33)) := (Below.refl _ w4).alloc (Nat.le_refl _) _
  have XA := Lib.hid (X4.out.next hba)
  refine (concat_calls _ w4.heap.size _ _ rd wr' (MapKept.heap_alloc w4 _).1 (X4.out.lists.rd.below hba) (X4.out.lists.wr.below hba) (by omega)).mono ?_
  rintro e w5 ⟨v5, rfl, ho5, hb5⟩
  have X5 := Lib.hid (XA.out.next hb5)
  obtain ⟨L, hL⟩ : ∃ L, rd ++ wr' = L := ⟨_, rfl⟩
  rw [hL] at ho5
  have hLl : L.length ≤ 5 := by rw [← hL, List.length_append]; exact hlen
  have hLz : ∀ s ∈ L, s.size ≤ 9223372036854775807 := by rw [← hL]; exact G5.out
  have HT2 : Hid (Rt.right ⟨ow, fi, ep, rd, wr'⟩ = L.all (Rt.fits ⟨ow, fi, ep, rd, wr'⟩)) := Lib.hid (by rw [HT.out, hL])
  obtain ⟨A5, c5, rfl, hc5, _⟩ := own_slice ho5
  have V5 := Lib.hid (strs_own ho5)
  have LZ := Lib.hid hLz
  clear hba ho5 hb5 hL hLz XA X4 X3 X2 X1 HX c0 c1 c2 c3 c4 h3 h4 h5
  go_wp2_with fail
  go_loopw [4, 54] (fun s i wr => ∃ k : Nat, k ≤ L.length ∧ i = .int .i64 k ∧ Hid (RtAt w wr w.heap.size ⟨ow, fi, ep, rd, wr'⟩ (.slice A rd.length ca) (.slice C wr'.length cb) ∧ strs wr (.slice A5 L.length c5) L ∧ (L.take k).all (Rt.fits ⟨ow, fi, ep, rd, wr'⟩) = true)) (fun _ i _ => L.length - (intOf i).toNat)
  case atStart => exact ⟨0, Nat.zero_le _, rfl, X5.out, V5.out, rfl⟩
  case round =>
    clear X5 V5
    obtain ⟨k, hk, rfl, HO⟩ := hrel
    by_cases hlt : k < L.length
    · obtain ⟨s, hs⟩ : ∃ s, L[k]? = some s := ⟨_, List.getElem?_eq_getElem hlt⟩
      obtain ⟨A', c', e', _, _, h3⟩ := HO.out.2.1
      obtain ⟨b5, off5, rfl, hc⟩ := h3 (by omega)
      cases e'
      have cs := hc k s hs
      have hsz := LZ.out s (List.mem_of_getElem? hs)
      have HF : Hid (Rt.fits ⟨ow, fi, ep, rd, wr'⟩ s = false → Rt.right ⟨ow, fi, ep, rd, wr'⟩ = false) := Lib.hid fun h => by
        rw [HT2.out]
        cases e : L.all (Rt.fits ⟨ow, fi, ep, rd, wr'⟩) with
        | false => rfl
        | true => have := List.all_eq_true.1 e s (List.mem_of_getElem? hs); rw [h] at this; cases this
      have HG : Hid (Rt.fits ⟨ow, fi, ep, rd, wr'⟩ s = true → (L.take (k + 1)).all (Rt.fits ⟨ow, fi, ep, rd, wr'⟩) = true) := Lib.hid fun h => by
        rw [take_succ_get2 hs, List.all_append, HO.out.2.2]; simp [h]
      have HD : Hid (Rt.fits ⟨ow, fi, ep, rd, wr'⟩ s = (nameR s && !decide (s = ow) && !(memB s rd && memB s wr'))) := Lib.hid rfl
      clear hs hc h3
      go_wp2_with fail
      refine (right_calls s _ hsz HO.out.1.tabs).mono ?_
      rintro e w6 ⟨rfl, hb6⟩
      have X6 : Hid (RtAt w w6 w.heap.size ⟨ow, fi, ep, rd, wr'⟩ (.slice A rd.length ca) (.slice C wr'.length cb) ∧ strs w6 (.slice (some ⟨b5, off5, none⟩) L.length c5) L) := ⟨HO.out.1.next hb6, HO.out.2.1.below hb6⟩
      clear hb6 cs
      cases h1 : nameR s with
      | false =>
        have H1 := Lib.hid (HF.out (by rw [HD.out, h1]; rfl))
        clear h1
        go_wp2_with fail
        go_ret
        exact ⟨ret_bool H1.out.symm, X6.out.1.below⟩
      | true =>
      have H1 := Lib.hid h1
      clear h1
      obtain ⟨c0, c1, c2, c3, c4⟩ := X6.out.1.cells
      by_cases h2 : s = ow
      · have H2 := Lib.hid (HF.out (by rw [HD.out, h2]; simp))
        have e1 : (s.toList == ow.toList) = true := by rw [h2]; simp
        clear h2
        go_wp2_with fail
        go_ret
        exact ⟨ret_bool H2.out.symm, X6.out.1.below⟩
      have e1 : (s.toList == ow.toList) = false := by rw [beq_eq_false_iff_ne]; exact fun e => h2 (blist_inj e)
      have HE : Hid (Rt.fits ⟨ow, fi, ep, rd, wr'⟩ s = !(memB s rd && memB s wr')) := Lib.hid (by rw [HD.out, H1.out, decide_eq_false h2]; simp)
      clear h2
      go_wp2_with fail
      refine (has_calls _ _ rd s X6.out.1.lists.rd RR.out (by omega)).mono ?_
      rintro e w7 ⟨rfl, hd7⟩
      have X7 : Hid (RtAt w w7 w.heap.size ⟨ow, fi, ep, rd, wr'⟩ (.slice A rd.length ca) (.slice C wr'.length cb) ∧ strs w7 (.slice (some ⟨b5, off5, none⟩) L.length c5) L) := ⟨X6.out.1.next hd7.below, X6.out.2.below hd7.below⟩
      clear hd7 c0 c1 c2 c3 c4
      cases h3 : memB s rd with
      | false =>
        have H3 := Lib.hid (HG.out (by rw [HE.out, h3]; rfl))
        clear h3
        go_wp2_with fail
        go_roundw
        case rel => exact ⟨k + 1, by omega, by go_num, X7.out.1, X7.out.2, H3.out⟩
        case measure => simp [intOf]; omega
      | true =>
      have H3 := Lib.hid h3
      clear h3
      obtain ⟨c0, c1, c2, c3, c4⟩ := X7.out.1.cells
      go_wp2_with fail
      refine (has_calls _ _ wr' s X7.out.1.lists.wr RW.out (by omega)).mono ?_
      rintro e w8 ⟨rfl, hd8⟩
      have X8 : Hid (RtAt w w8 w.heap.size ⟨ow, fi, ep, rd, wr'⟩ (.slice A rd.length ca) (.slice C wr'.length cb) ∧ strs w8 (.slice (some ⟨b5, off5, none⟩) L.length c5) L) := ⟨X7.out.1.next hd8.below, X7.out.2.below hd8.below⟩
      clear hd8 c0 c1 c2 c3 c4
      cases h4 : memB s wr' with
      | false =>
        have H4 := Lib.hid (HG.out (by rw [HE.out, H3.out, h4]; rfl))
        clear h4
        go_wp2_with fail
        go_roundw
        case rel => exact ⟨k + 1, by omega, by go_num, X8.out.1, X8.out.2, H4.out⟩
        case measure => simp [intOf]; omega
      | true =>
        have H4 := Lib.hid (HF.out (by rw [HE.out, H3.out, h4]; rfl))
        clear h4
        go_wp2_with fail
        go_ret
        exact ⟨ret_bool H4.out.symm, X8.out.1.below⟩
    · have HE := Lib.hid (show Rt.right ⟨ow, fi, ep, rd, wr'⟩ = true by
        rw [HT2.out]; have := HO.out.2.2; rwa [List.take_of_length_le (by omega)] at this)
      go_wp2_with fail
      go_ret
      exact ⟨ret_bool HE.out.symm, HO.out.1.below⟩
end Go.Proofs.YtgacfkenndhcnaaDoor
namespace Go.Proofs.YtgacfkenndhcnaaDoor
open Go.RowKit
set_option linter.unusedVariables false
set_option linter.unusedSimpArgs false

def rowPut (cur : Array Value) (off : Nat) (c : Array Value) : Array Value := (cur.toList.take off ++ c.toList ++ cur.toList.drop (off + c.size)).toArray
theorem rowPut_size (cur c : Array Value) (off : Nat) (h : off + c.size ≤ cur.size) : (rowPut cur off c).size = cur.size := by
  unfold rowPut; simp; omega
theorem rowPut_in (cur c : Array Value) (off j : Nat) (h : off + c.size ≤ cur.size) (hj : j < c.size) : (rowPut cur off c)[off + j]? = c[j]? := by
  unfold rowPut
  rw [List.getElem?_toArray, List.append_assoc, List.getElem?_append_right (by simp; omega), List.getElem?_append_left (by simp; omega)]
  simp
  congr 1; omega
theorem rowPut_out (cur c : Array Value) (off j : Nat) (h : off + c.size ≤ cur.size) (hj : j < off ∨ off + c.size ≤ j) : (rowPut cur off c)[j]? = cur[j]? := by
  unfold rowPut
  rw [List.getElem?_toArray]
  rcases hj with hj | hj
  · rw [List.append_assoc, List.getElem?_append_left (by simp; omega), List.getElem?_take, if_pos hj]; simp
  · rw [List.getElem?_append_right (by simp; omega), List.getElem?_drop]
    simp
    congr 1; omega
theorem rowPut_all (cur c : Array Value) (h : c.size = cur.size) : rowPut cur 0 c = c := by
  unfold rowPut; rw [List.drop_of_length_le (by simp; omega)]; simp

theorem Keep.setRow (w : World) (g : Nat) (cs : Array Value) : Keep (fun k => k = g) w (w.setRow g cs) :=
  ⟨rfl, rfl, rfl, by simp, fun k _ hk => setRow_other w g k cs hk⟩
theorem run_storeAt_row {P : Program} (w : World) (t t' : TypeId) (g off : Nat) (cur c : Array Value) (hb : w.heap[g]? = some (.cells cur t' (0, 0))) (hi : (P.info? t).map (·.size) = some c.size) (hl : off + c.size ≤ cur.size) (h1 : c.all (·.oneCell') = true) :
    (Instr.storeAt t (.pointer (some ⟨g, off, none⟩)) (.agg c)).run P w = .ok () (w.setRow g (rowPut cur off c)) := by
  simp only [Instr.storeAt, Instr.sureAddr, Sem.run_bind, Sem.run_pure, Result.andThen]
  cases hq : P.info? t with
  | none => simp [hq] at hi
  | some i =>
    have hs : c.size = i.size := by simp [hq] at hi; omega
    have := run_storeCells_at (P := P) g off t' c.toList 0 cur w hb (by simpa using hl) (fun v hv => by rw [Array.all_eq_true'] at h1; exact h1 v (by simpa using hv))
    simpa [storeVar, sizeOf, typeInfo, hq, Value.cells, hs, rowPut, Result.andThen] using this

section
variable {P : Program} {w : World} {ops : Array Oper} {rest : List Oper} {o : Oper} {a : Act} {Q : Exit → Act → World → Prop}
def Stop (p : Prop) : Prop := p
theorem wp_stop_store (p v : Operand) (t : TypeId) (hop : o.op = Op.store t p v) (h : Stop (wpList P ops Q (o :: rest) a w)) : wpList P ops Q (o :: rest) a w := h
theorem wp_stop_store_agg {c : Array Value} (p v : Operand) (t : TypeId) (hop : o.op = Op.store t p v) (hv : a.eval v = .agg c) (h : Stop (wpList P ops Q (o :: rest) a w)) : wpList P ops Q (o :: rest) a w := h
theorem wp_store_row (hg : o.guard = none) (p v : Operand) (t : TypeId) (hop : o.op = Op.store t p v) {g off : Nat} {c : Array Value} (hp : a.eval p = .pointer (some ⟨g, off, none⟩)) (hv : a.eval v = .agg c) (cur : Array Value) (t' : TypeId) (hb : w.heap[g]? = some (.cells cur t' (0, 0)))
    (hi : (P.info? t).map (·.size) = some c.size) (hl : off + c.size ≤ cur.size) (h1 : c.all (·.oneCell') = true)
    (hK : ∀ w2, w2.heap[g]? = some (.cells (rowPut cur off c) t' (0, 0)) → Keep (fun k => k = g) w w2 → w2.heap.size = w.heap.size → wpList P ops Q rest (a.put o.dst undef) w2) : wpList P ops Q (o :: rest) a w := by
  refine wpList_plain hg fun K' hK' => ?_
  have hrun := run_storeAt_row (P := P) w t t' g off cur c hb hi hl h1
  unfold Oper.wp
  simp [execOp, hop, hp, hv, hrun, Result.andThen]
  exact hK' _ _ (hK _ (setRow_heap w g cur _ t' _ hb) (Keep.setRow w g _) (by simp))
theorem wp_store_all (hg : o.guard = none) (p v : Operand) (t : TypeId) (hop : o.op = Op.store t p v) {g : Nat} {c : Array Value} (hp : a.eval p = .pointer (some ⟨g, 0, none⟩)) (hv : a.eval v = .agg c) (cur : Array Value) (t' : TypeId) (hb : w.heap[g]? = some (.cells cur t' (0, 0)))
    (hi : (P.info? t).map (·.size) = some c.size) (hl : c.size = cur.size) (h1 : c.all (·.oneCell') = true)
    (hK : ∀ w2, w2.heap[g]? = some (.cells c t' (0, 0)) → Keep (fun k => k = g) w w2 → w2.heap.size = w.heap.size → wpList P ops Q rest (a.put o.dst undef) w2) : wpList P ops Q (o :: rest) a w :=
  wp_store_row hg p v t hop hp hv cur t' hb hi (by omega) h1 (by rw [rowPut_all cur c hl]; exact hK)
end
theorem below_at {w w1 w2 : World} {g : Nat} (h : Below w.heap.size w w1) (k : Keep (fun i => i = g) w1 w2) (hg : w.heap.size ≤ g) : Below w.heap.size w w2 :=
  ((Keep.of_below h (F := fun k => w.heap.size ≤ k)).trans k fun i hi => Or.inr (by omega)).new
end Go.Proofs.YtgacfkenndhcnaaDoor
namespace Go.Proofs.YtgacfkenndhcnaaDoor
open Go.RowKit Go.Sort
set_option linter.unusedVariables false
set_option linter.unusedSimpArgs false

theorem Rt.right_head {r : Rt} (h : r.right = true) : Rising r.rd ∧ Rising r.wr ∧ r.rd.length + r.wr.length ≤ 5 ∧ 0 ≤ r.epoch ∧ r.epoch < 8 ∧ nameR r.owner = true ∧ nameR r.file = true := by
  unfold Rt.right Rt.head at h
  simp only [Bool.and_eq_true, decide_eq_true_eq, risesB] at h
  exact ⟨h.1.1.2, h.1.2, h.1.1.1.2, h.1.1.1.1.1.2, h.1.1.1.1.2, h.1.1.1.1.1.1.1, h.1.1.1.1.1.1.2⟩

def Rt.other (r : Rt) (u : ByteArray) : Bool := memB u r.rd || memB u r.wr
def Rt.asked (r : Rt) (u : ByteArray) : Int := if r.right = false then 1 else if nameR u = false then 3 else 0
def Rt.can (r : Rt) (u : ByteArray) (write : Bool) : Bool := r.right && (decide (u = r.owner) || memB u r.wr || (!write && memB u r.rd))

theorem other_calls (w : World) (r : Rt) (vr vw : Value) (u : ByteArray) (hl : Lists w r vr vw) (hT : Tabs w) (hR : r.right = true) :
    Calls Tryd.prog 46 #[.agg #[.string r.owner, .string r.file, .int .i64 r.epoch, vr, vw], .string u] w fun e w' => e = .returned (.bool (r.other u)) ∧ Below w.heap.size w w' := by
  obtain ⟨h1, h2, h3, h4⟩ := Rt.right_head hR
  obtain ⟨ow, fi, ep, rd, wr'⟩ := r
  have RR := Lib.hid h1
  have RW := Lib.hid h2
  have HX := Lib.hid (rt_box hl hT)
  obtain ⟨A, ca, rfl, a1, a2, _⟩ := hl.rd
  obtain ⟨C, cb, rfl, b1, b2, _⟩ := hl.wr
  dsimp only at *
  clear hl hT hR h1 h2
  have HO : Hid (Rt.other ⟨ow, fi, ep, rd, wr'⟩ u = (memB u rd || memB u wr')) := Lib.hid rfl
  go_enter Tryd.func46, Tryd.ntmps46
  go_wp2_with fail
  refine (has_calls _ _ rd u HX.out.lists.rd RR.out (by omega)).mono ?_
  rintro e w1 ⟨rfl, hd1⟩
  have X1 := Lib.hid (HX.out.next hd1.below)
  clear hd1
  cases h1 : memB u rd with
  | true =>
    have H1 : Hid (Rt.other ⟨ow, fi, ep, rd, wr'⟩ u = true) := Lib.hid (by rw [HO.out, h1]; rfl)
    clear h1
    go_wp2_with fail
    go_ret
    exact ⟨ret_bool H1.out.symm, X1.out.below⟩
  | false =>
  have H1 : Hid (Rt.other ⟨ow, fi, ep, rd, wr'⟩ u = memB u wr') := Lib.hid (by rw [HO.out, h1]; rfl)
  clear h1
  obtain ⟨c0, c1, c2, c3, c4⟩ := X1.out.cells
  go_wp2_with fail
  refine (has_calls _ _ wr' u X1.out.lists.wr RW.out (by omega)).mono ?_
  rintro e w2 ⟨rfl, hd2⟩
  have X2 := Lib.hid (X1.out.next hd2.below)
  clear hd2 c0 c1 c2 c3 c4
  go_wp2_with fail
  go_ret
  exact ⟨ret_bool H1.out.symm, X2.out.below⟩

theorem ret_int {a b : Int} {k : IntKind} (h : a = b) : Ending.returned (.int k a) = Ending.returned (.int k b) := by rw [h]

theorem asked_calls (w : World) (r : Rt) (vr vw : Value) (u : ByteArray) (hl : Lists w r vr vw) (hT : Tabs w) (hw : r.wf) (hu : u.size ≤ 9223372036854775807) :
    Calls Tryd.prog 45 #[.agg #[.string r.owner, .string r.file, .int .i64 r.epoch, vr, vw], .string u] w fun e w' => e = .returned (.int .i64 (r.asked u)) ∧ Below w.heap.size w w' := by
  have HX := Lib.hid (rt_box hl hT)
  have HW := Lib.hid hw
  clear hl hT hw
  go_enter Tryd.func45, Tryd.ntmps45
  go_wp2_with fail
  refine (rright_calls _ r vr vw HX.out.lists HX.out.tabs HW.out).mono ?_
  rintro e w1 ⟨rfl, hb1⟩
  have X1 := Lib.hid (HX.out.next hb1)
  clear hb1
  cases h1 : r.right with
  | false =>
    have H1 : Hid (r.asked u = 1) := Lib.hid (by unfold Rt.asked; rw [h1]; rfl)
    clear h1
    go_wp2_with fail
    go_ret
    exact ⟨ret_int H1.out.symm, X1.out.below⟩
  | true =>
  have H1 : Hid (r.asked u = if nameR u = false then 3 else 0) := Lib.hid (by unfold Rt.asked; rw [h1]; rfl)
  clear h1
  go_wp2_with fail
  refine (right_calls u _ hu X1.out.tabs).mono ?_
  rintro e w2 ⟨rfl, hb2⟩
  have X2 := Lib.hid (X1.out.next hb2)
  clear hb2
  cases h2 : nameR u with
  | false =>
    have H2 : Hid (r.asked u = 3) := Lib.hid (by rw [H1.out, h2]; rfl)
    clear h2
    go_wp2_with fail
    go_ret
    exact ⟨ret_int H2.out.symm, X2.out.below⟩
  | true =>
    have H2 : Hid (r.asked u = 0) := Lib.hid (by rw [H1.out, h2]; rfl)
    clear h2
    go_wp2_with fail
    go_ret
    exact ⟨ret_int H2.out.symm, X2.out.below⟩

/-- rights in words -/
def rtV (r : Rt) (vr vw : Value) : Value := .agg (rtCells r vr vw)
def newR (ow fi : ByteArray) : Rt × Int := if nameR ow && nameR fi then (⟨ow, fi, 0, [], []⟩, 0) else (⟨ByteArray.empty, ByteArray.empty, 0, [], []⟩, 3)
theorem info_rt : (Tryd.prog.info? 46).map (·.size) = some 5 := by kernel_rfl
theorem below_keep {w w1 w2 : World} (h : Below w.heap.size w w1) (k : Keep (fun k => k = w.heap.size) w1 w2) : Below w.heap.size w w2 :=
  ((Keep.of_below h (F := fun k => w.heap.size ≤ k)).trans k fun i hi => Or.inr (by omega)).new
theorem row5 {w : World} {b : Nat} {v0 v1 v2 v3 v4 : Value} {t : TypeId} (h : w.heap[b]? = some (.cells #[v0, v1, v2, v3, v4] t (0, 0))) : w.cell? ⟨b, 0, none⟩ = some v0 ∧ w.cell? ⟨b, 1, none⟩ = some v1 ∧ w.cell? ⟨b, 2, none⟩ = some v2 ∧ w.cell? ⟨b, 3, none⟩ = some v3 ∧ w.cell? ⟨b, 4, none⟩ = some v4 := by
  refine ⟨?_, ?_, ?_, ?_, ?_⟩ <;> (rw [cell_of_row _ _ _ _ _ _ h]; rfl)
theorem new_calls (w : World) (ow fi : ByteArray) (h1 : ow.size ≤ 9223372036854775807) (h2 : fi.size ≤ 9223372036854775807) (hT : Tabs w) :
    Calls Tryd.prog 35 #[.string ow, .string fi] w fun e w' => e = .returned (.tuple #[.agg #[.string (newR ow fi).1.owner, .string (newR ow fi).1.file, .int .i64 0, .slice none 0 0, .slice none 0 0], .int .i64 (newR ow fi).2]) ∧ Below w.heap.size w w' := by
  have HT := Lib.hid hT
  clear hT
  obtain ⟨N, hN⟩ : ∃ N, newR ow fi = N := ⟨_, rfl⟩
  have HN := Lib.hid hN
  rw [hN]
  clear hN
  have hk0 := (MapKept.heap_alloc w (.cells #[.string ⟨#[]⟩, .string ⟨#[]⟩, .int .i64 0, .slice none 0 0, .slice none 0 0] 46)).1
  have HK0 := Lib.hid hk0
  clear hk0
  go_enter Tryd.func35, Tryd.ntmps35
  go_wp2_with fail
  refine (right_calls ow _ h1 (HT.out.below ((Below.refl _ w).alloc (Nat.le_refl _) _))).mono ?_
  rintro e w1 ⟨rfl, hb1⟩
  have B1 : Hid (Below w.heap.size w w1) := Lib.hid (((Below.refl _ w).alloc (Nat.le_refl _) _).trans (hb1.mono (by rw [size_alloc]; omega)))
  have K1 : Hid (w1.heap[w.heap.size]? = _) := Lib.hid ((hb1.block _ (by rw [size_alloc]; omega)).trans HK0.out)
  clear hb1
  cases g1 : nameR ow with
  | false =>
    have H1 : Hid (N = (⟨ByteArray.empty, ByteArray.empty, 0, [], []⟩, 3)) := Lib.hid (by rw [← HN.out]; unfold newR; rw [g1]; rfl)
    clear g1
    go_wp2_with (with_reducible refine wp_stop_store _ _ _ rfl ?_)
    unfold Stop
    refine wp_store_all rfl _ _ _ rfl rfl rfl _ _ K1.out info_rt rfl (by simp [Value.oneCell']) ?_
    intro w3 h3 k3 s3
    have B3 : Hid (Below w.heap.size w w3) := Lib.hid (below_keep B1.out k3)
    have h4 := row5 h3
    clear h3 k3 s3
    obtain ⟨c0, c1, c2, c3, c4⟩ := h4
    go_wp2_with fail
    refine bodyPost_ret (v := .tuple #[.agg #[.string ⟨#[]⟩, .string ⟨#[]⟩, .int .i64 0, .slice none 0 0, .slice none 0 0], .int .i64 3]) (by simp [results, Tryd.results35, go_sem, c0, c1, c2, c3, c4]) rfl ⟨by rw [H1.out]; rfl, B3.out⟩
  | true =>
  have H1 : Hid (N = if nameR fi then (⟨ow, fi, 0, [], []⟩, 0) else (⟨ByteArray.empty, ByteArray.empty, 0, [], []⟩, 3)) := Lib.hid (by rw [← HN.out]; unfold newR; rw [g1]; rfl)
  clear g1
  go_wp2_with fail
  refine (right_calls fi _ h2 (HT.out.below B1.out)).mono ?_
  rintro e w2 ⟨rfl, hb2⟩
  have B2 : Hid (Below w.heap.size w w2) := Lib.hid (B1.out.trans (hb2.mono B1.out.size))
  have K2 : Hid (w2.heap[w.heap.size]? = _) := Lib.hid ((hb2.block _ (by have := B1.out.size; have := (Array.getElem?_eq_some_iff.1 K1.out).1; omega)).trans K1.out)
  clear hb2
  cases g2 : nameR fi with
  | false =>
    have H2 : Hid (N = (⟨ByteArray.empty, ByteArray.empty, 0, [], []⟩, 3)) := Lib.hid (by rw [H1.out, g2]; rfl)
    clear g2
    go_wp2_with (with_reducible refine wp_stop_store _ _ _ rfl ?_)
    unfold Stop
    refine wp_store_all rfl _ _ _ rfl rfl rfl _ _ K2.out info_rt rfl (by simp [Value.oneCell']) ?_
    intro w3 h3 k3 s3
    have B3 : Hid (Below w.heap.size w w3) := Lib.hid (below_keep B2.out k3)
    have h4 := row5 h3
    clear h3 k3 s3
    obtain ⟨c0, c1, c2, c3, c4⟩ := h4
    go_wp2_with fail
    refine bodyPost_ret (v := .tuple #[.agg #[.string ⟨#[]⟩, .string ⟨#[]⟩, .int .i64 0, .slice none 0 0, .slice none 0 0], .int .i64 3]) (by simp [results, Tryd.results35, go_sem, c0, c1, c2, c3, c4]) rfl ⟨by rw [H2.out]; rfl, B3.out⟩
  | true =>
    have H2 : Hid (N = (⟨ow, fi, 0, [], []⟩, 0)) := Lib.hid (by rw [H1.out, g2]; rfl)
    clear g2
    go_wp2_with (with_reducible refine wp_stop_store _ _ _ rfl ?_)
    unfold Stop
    refine wp_store_all rfl _ _ _ rfl rfl rfl _ _ K2.out info_rt rfl (by simp [Value.oneCell']) ?_
    intro w3 h3 k3 s3
    have B3 : Hid (Below w.heap.size w w3) := Lib.hid (below_keep B2.out k3)
    have h4 := row5 h3
    clear h3 k3 s3
    obtain ⟨c0, c1, c2, c3, c4⟩ := h4
    go_wp2_with fail
    refine bodyPost_ret (v := .tuple #[.agg #[.string ow, .string fi, .int .i64 0, .slice none 0 0, .slice none 0 0], .int .i64 0]) (by simp [results, Tryd.results35, go_sem, c0, c1, c2, c3, c4]) rfl ⟨by rw [H2.out], B3.out⟩

theorem can_calls (w : World) (r : Rt) (vr vw : Value) (u : ByteArray) (write : Bool) (hl : Lists w r vr vw) (hT : Tabs w) (hw : r.wf) :
    Calls Tryd.prog 26 #[.agg #[.string r.owner, .string r.file, .int .i64 r.epoch, vr, vw], .string u, .bool write] w fun e w' => e = .returned (.bool (r.can u write)) ∧ Below w.heap.size w w' := by
  have HX := Lib.hid (rt_box hl hT)
  have HW := Lib.hid hw
  have HD : Hid (r.can u write = (r.right && (decide (u = r.owner) || memB u r.wr || (!write && memB u r.rd)))) := Lib.hid rfl
  have HH := Lib.hid (@Rt.right_head r)
  obtain ⟨ow, fi, ep, rd, wr'⟩ := r
  obtain ⟨A, ca, rfl, a1, a2, _⟩ := hl.rd
  obtain ⟨C, cb, rfl, b1, b2, _⟩ := hl.wr
  dsimp only at *
  clear hl hT hw
  go_enter Tryd.func26, Tryd.ntmps26
  go_wp2_with fail
  refine (rright_calls _ ⟨ow, fi, ep, rd, wr'⟩ _ _ HX.out.lists HX.out.tabs HW.out).mono ?_
  rintro e w1 ⟨rfl, hb1⟩
  have X1 := Lib.hid (HX.out.next hb1)
  clear hb1
  cases h1 : Rt.right ⟨ow, fi, ep, rd, wr'⟩ with
  | false =>
    have H1 : Hid (Rt.can ⟨ow, fi, ep, rd, wr'⟩ u write = false) := Lib.hid (by rw [HD.out, h1]; rfl)
    clear h1
    go_wp2_with fail
    go_ret
    exact ⟨ret_bool H1.out.symm, X1.out.below⟩
  | true =>
  obtain ⟨r1, r2, r3, _⟩ := HH.out h1
  dsimp only at *
  have RR := Lib.hid r1
  have RW := Lib.hid r2
  have H1 : Hid (Rt.can ⟨ow, fi, ep, rd, wr'⟩ u write = (decide (u = ow) || memB u wr' || (!write && memB u rd))) := Lib.hid (by rw [HD.out, h1]; rfl)
  clear h1 r1 r2
  obtain ⟨c0, c1, c2, c3, c4⟩ := X1.out.cells
  by_cases h2 : u = ow
  · have H2 : Hid (Rt.can ⟨ow, fi, ep, rd, wr'⟩ u write = true) := Lib.hid (by rw [H1.out, h2]; simp)
    have e1 : (u.toList == ow.toList) = true := by rw [h2]; simp
    clear h2
    go_wp2_with fail
    go_ret
    exact ⟨ret_bool H2.out.symm, X1.out.below⟩
  have H2 : Hid (Rt.can ⟨ow, fi, ep, rd, wr'⟩ u write = (memB u wr' || (!write && memB u rd))) := Lib.hid (by rw [H1.out, decide_eq_false h2]; simp)
  have e1 : (u.toList == ow.toList) = false := by rw [beq_eq_false_iff_ne]; exact fun e => h2 (blist_inj e)
  clear h2
  go_wp2_with fail
  refine (has_calls _ _ wr' u X1.out.lists.wr RW.out (by omega)).mono ?_
  rintro e w2 ⟨rfl, hd2⟩
  have X2 := Lib.hid (X1.out.next hd2.below)
  clear hd2 c0 c1 c2 c3 c4
  cases h3 : memB u wr' with
  | true =>
    have H3 : Hid (Rt.can ⟨ow, fi, ep, rd, wr'⟩ u write = true) := Lib.hid (by rw [H2.out, h3]; rfl)
    clear h3
    go_wp2_with fail
    go_ret
    exact ⟨ret_bool H3.out.symm, X2.out.below⟩
  | false =>
  have H3 : Hid (Rt.can ⟨ow, fi, ep, rd, wr'⟩ u write = (!write && memB u rd)) := Lib.hid (by rw [H2.out, h3]; rfl)
  clear h3
  obtain ⟨c0, c1, c2, c3, c4⟩ := X2.out.cells
  cases write with
  | true =>
    have H4 : Hid (Rt.can ⟨ow, fi, ep, rd, wr'⟩ u true = false) := Lib.hid H3.out
    go_wp2_with fail
    go_ret
    exact ⟨ret_bool H4.out.symm, X2.out.below⟩
  | false =>
    have H4 : Hid (Rt.can ⟨ow, fi, ep, rd, wr'⟩ u false = memB u rd) := Lib.hid H3.out
    go_wp2_with fail
    refine (has_calls _ _ rd u X2.out.lists.rd RR.out (by omega)).mono ?_
    rintro e w3 ⟨rfl, hd3⟩
    have X3 := Lib.hid (X2.out.next hd3.below)
    clear hd3 c0 c1 c2 c3 c4
    go_wp2_with fail
    go_ret
    exact ⟨ret_bool H4.out.symm, X3.out.below⟩
end Go.Proofs.YtgacfkenndhcnaaDoor
namespace Go.Proofs.YtgacfkenndhcnaaDoor
open Go Go.RowKit
section
variable {P : Program} {ops : Array Oper} {md : Region.Mode} {Q : Exit → Act → World → Prop} {S : World → Prop} {ts : List Nat}
/-- either of two may come up -/
theorem wpAnyG_two (i j : Nat) {oi oj : Oper} {fuel : Nat} {listed : Array Bool} {a : Act} {w : World} (hi : ops[i]? = some oi) (hj : ops[j]? = some oj) (hr : Region.ready md ops listed = [i, j])
    (h1 : ∀ K : Act → World → Prop, Hid (∀ a' w', (tailed ts (listed.setIfInBounds i true) = true ∨ S w') → wpAnyG P md ops Q S ts fuel (listed.setIfInBounds i true) a' w' → K a' w') →
      if Region.wanted oi (yielded ops a.tmps) = true then Oper.wp P oi a w K Q else K (a.put oi.dst undef) w)
    (h2 : ∀ K : Act → World → Prop, Hid (∀ a' w', (tailed ts (listed.setIfInBounds j true) = true ∨ S w') → wpAnyG P md ops Q S ts fuel (listed.setIfInBounds j true) a' w' → K a' w') →
      if Region.wanted oj (yielded ops a.tmps) = true then Oper.wp P oj a w K Q else K (a.put oj.dst undef) w) : wpAnyG P md ops Q S ts (fuel + 1) listed a w := by
  refine ⟨fun h0 => (by rw [hr] at h0; cases h0), fun k hk => ?_⟩
  rw [hr] at hk
  have hkk : k = i ∨ k = j := by simpa using hk
  rcases hkk with rfl | rfl
  · have := h1 (fun a' w' => (tailed ts (listed.setIfInBounds k true) = true ∨ S w') ∧ wpAnyG P md ops Q S ts fuel (listed.setIfInBounds k true) a' w') (Lib.hid fun a' w' h1 h2 => ⟨h1, h2⟩)
    unfold wpOp
    simp only [hi]
    split
    · rename_i hw; rw [if_pos hw] at this; exact .inl this
    · rename_i hw; rw [if_neg hw] at this; exact this
  · have := h2 (fun a' w' => (tailed ts (listed.setIfInBounds k true) = true ∨ S w') ∧ wpAnyG P md ops Q S ts fuel (listed.setIfInBounds k true) a' w') (Lib.hid fun a' w' h1 h2 => ⟨h1, h2⟩)
    unfold wpOp
    simp only [hj]
    split
    · rename_i hw; rw [if_pos hw] at this; exact .inl this
    · rename_i hw; rw [if_neg hw] at this; exact this
theorem step_store_all {o : Oper} {a : Act} {w : World} {K : Act → World → Prop} {E : Prop} (hg : o.guard = none) (p v : Operand) (t : TypeId) (hop : o.op = Op.store t p v) {g : Nat} {c : Array Value} (hp : a.eval p = .pointer (some ⟨g, 0, none⟩)) (hv : a.eval v = .agg c) (cur : Array Value) (t' : TypeId) (hb : w.heap[g]? = some (.cells cur t' (0, 0)))
    (hi : (P.info? t).map (·.size) = some c.size) (hl : c.size = cur.size) (h1 : c.all (·.oneCell') = true)
    (hK : ∀ w2, w2.heap[g]? = some (.cells c t' (0, 0)) → Keep (fun k => k = g) w w2 → w2.heap.size = w.heap.size → K (a.put o.dst undef) w2) :
    if Region.wanted o (yielded ops a.tmps) = true then Oper.wp P o a w K Q else E := by
  have hw : Region.wanted o (yielded ops a.tmps) = true := by simp [Region.wanted, hg]
  rw [if_pos hw]
  have hrun := run_storeAt_row (P := P) w t t' g 0 cur c hb hi (by omega) h1
  rw [rowPut_all cur c hl] at hrun
  unfold Oper.wp
  simp [execOp, hop, hp, hv, hrun, Result.andThen]
  exact hK _ (setRow_heap w g cur _ t' _ hb) (Keep.setRow w g _) (by simp)
theorem step_upd {κ : Type} [DecidableEq κ] {mk : κ → Value} {kt : TypeId} {o : Oper} {a : Act} {w : World} {Kc : Act → World → Prop} {E : Prop} (hg : o.guard = none) (m x v : Operand) (t : TypeId) (hop : o.op = Op.mapUpdate t m x v) (K : MK P kt mk) (et : TypeId) (ht : P.underlying t = some (.map kt et)) (b : Nat) (l : List (κ × Value))
    (hm : a.eval m = .map (some b)) (h : smap w mk b l) (k : κ) (hx : a.eval x = mk k) (val : Value) (hv : a.eval v = val)
    (hK : ∀ w', smap w' mk b (aput l k val) → w.grownBy w' (some b) → w'.heap.size = w.heap.size → Kc (a.put o.dst undef) w') :
    if Region.wanted o (yielded ops a.tmps) = true then Oper.wp P o a w Kc Q else E := by
  have hw : Region.wanted o (yielded ops a.tmps) = true := by simp [Region.wanted, hg]
  rw [if_pos hw]
  obtain ⟨w', hrun, r1, r2, r3⟩ := h.upd K ht k val
  unfold Oper.wp
  simp [execOp, hop, hm, hx, hv, hrun, Result.andThen]
  exact hK w' r1 r2 r3
end
end Go.Proofs.YtgacfkenndhcnaaDoor
namespace Go.Proofs.YtgacfkenndhcnaaDoor
open Go.Lib
set_option linter.unusedVariables false
set_option linter.unusedSimpArgs false

theorem decodeL_width4 (l : List UInt8) : (decodeL l).2 ≤ 4 := by
  rw [decodeL_N]
  unfold decodeN
  repeat' split
  all_goals simp
theorem letters_size : ∀ (n : Nat) (l : List UInt8), l.length ≤ n → ∀ c, letters l = some c → l.length ≤ 4 * c
  | 0, l, h, c, _ => by omega
  | n + 1, l, h, c, hc => by
    by_cases hl : l = []
    · subst hl; simp
    · have h0 : 0 < l.length := List.length_pos_iff.2 hl
      have hw := decodeL_width l
      have hw4 := decodeL_width4 l
      rw [letters_step l hl] at hc
      split at hc
      · cases hr : letters (l.drop (decodeL l).2) with
        | none => rw [hr] at hc; cases hc
        | some d =>
          rw [hr] at hc
          simp at hc
          have := letters_size n _ (by rw [List.length_drop]; omega) d hr
          rw [List.length_drop] at this
          omega
      · cases hc
theorem nameR_size {s : ByteArray} (h : nameR s = true) : s.size ≤ 128 := by
  unfold nameR at h
  cases hl : letters s.data.toList with
  | none => rw [hl] at h; cases h
  | some n =>
    rw [hl] at h
    simp at h
    have := letters_size _ _ (Nat.le_refl _) n hl
    have h2 : s.data.toList.length = s.size := Array.length_toList
    omega
theorem nameR_pos {s : ByteArray} (h : nameR s = true) : s ≠ ⟨#[]⟩ := by
  rintro rfl
  have : nameR ⟨#[]⟩ = false := by decide +kernel
  rw [this] at h; cases h

structure Rt.good (r : Rt) : Prop where
  owner : r.owner.size ≤ 128
  file : r.file.size ≤ 128
  lo : 0 ≤ r.epoch
  hi : r.epoch ≤ 7
  rd : ∀ s ∈ r.rd, s.size ≤ 128
  wr : ∀ s ∈ r.wr, s.size ≤ 128
  len : r.rd.length + r.wr.length ≤ 5
theorem Rt.right_good {r : Rt} (h : r.right = true) : r.good := by
  obtain ⟨_, _, h3, h4, h5, h6, h7⟩ := Rt.right_head h
  unfold Rt.right at h
  rw [Bool.and_eq_true] at h
  have hall := List.all_eq_true.1 h.2
  have hn : ∀ s ∈ r.rd ++ r.wr, s.size ≤ 128 := fun s hs => by
    have := hall s hs
    unfold Rt.fits at this
    rw [Bool.and_eq_true, Bool.and_eq_true] at this
    exact nameR_size this.1.1
  exact ⟨nameR_size h6, nameR_size h7, h4, by omega, fun s hs => hn s (List.mem_append_left _ hs), fun s hs => hn s (List.mem_append_right _ hs), h3⟩
theorem Rt.good.wf {r : Rt} (h : r.good) : r.wf := by
  refine ⟨by have := h.owner; omega, by have := h.file; omega, by have := h.lo; omega, by have := h.hi; omega, fun s hs => ?_, by have := h.len; omega⟩
  rcases List.mem_append.1 hs with hs | hs
  · have := h.rd s hs; omega
  · have := h.wr s hs; omega
end Go.Proofs.YtgacfkenndhcnaaDoor
