/- AuditLives walked. Arguments of a law, opened: a slice whose elements are so many cells each. Steps that came in, opened. (Printed by tools/gst.py.) -/
import Derived.Test.YtgacfkenndhcnaaDoorZL8
import Derived.Test.YtgacfkenndhcnaaDoorZA1
import Derived.Deep.Slices
import Derived.ProofKit
import Derived.OpenShut
import Derived.SizedLaws
import Derived.ChangeOld
namespace Go.Proofs.YtgacfkenndhcnaaDoor
open Go.RowKit
set_option linter.unusedVariables false
set_option linter.unusedSimpArgs false

/-- between the steps -/
structure LpRel (w wr : World) (b k : Nat) (T : Int) (role : Nat → Role) (G : LedM) : Prop where
  led : IsLed wr role G
  at' : G.b = b
  ok : NoteOk ⟨G.now, G.cor, G.pure⟩ k T
  pok : POk (2 * k) G.pure
  cor : G.cor.length ≤ k
  low : 0 ≤ T
  top : T ≤ k * 1099511627776
  below : Below w.heap.size w wr
  old : ∀ q, q < w.heap.size → role q = .none
theorem LpRel.lift {w wr wr' : World} {b k : Nat} {T : Int} {role : Nat → Role} {G : LedM} (h : LpRel w wr b k T role G) (hb : Below wr.heap.size wr wr') : LpRel w wr' b k T role G :=
  ⟨h.led.below hb, h.at', h.ok, h.pok, h.cor, h.low, h.top, h.below.trans (hb.mono h.below.size), h.old⟩
theorem LpRel.step {w wr wr' : World} {b k : Nat} {T : Int} {role : Nat → Role} {G : LedM} (h : LpRel w wr b k T role G) (s : StA) (hk : k < 60) (hn : s.n ≤ 1099511627776) (hr : LedRet wr role G (noteP ⟨G.now, G.cor, G.pure⟩ s).now (noteP ⟨G.now, G.cor, G.pure⟩ s).cor (noteP ⟨G.now, G.cor, G.pure⟩ s).P wr') : ∃ role' G', LpRel w wr' b (k + 1) (T + s.n) role' G' := by
  obtain ⟨role', G', hI, hb, hbo, hnow, hcor, hp, hkeep, hold⟩ := hr
  have ht := h.top
  have h0 := h.low
  refine ⟨role', G', hI, hb.trans h.at', ?_, ?_, ?_, by omega, by omega, ?_, fun q hq => (hold q (Nat.lt_of_lt_of_le hq h.below.size)).trans (h.old q hq)⟩
  · rw [hnow, hcor, hp]
    exact h.ok.step s (by omega) (by omega)
  · rw [hp]
    exact (h.pok.note s).mono (by omega)
  · rw [hcor]
    have := cor_note (S := ⟨G.now, G.cor, G.pure⟩) s
    have := h.cor
    dsimp only at *
    omega
  · refine ((Keep.of_below h.below : Keep (fun q => w.heap.size ≤ q) w wr).trans hkeep fun q hq => Or.inl ?_).new
    by_cases hql : q < w.heap.size
    · exact absurd (h.old q hql) hq
    · omega
theorem stepC_len (s : StA) : (stepC s).length = 23 := rfl
theorem told_get {ys : List LifeM} {xs : List LifeM} (h : ys.map LifeM.told = xs.map LifeM.told) {i : Nat} {y : LifeM} (hy : ys[i]? = some y) : ∃ x, (xs.map LifeM.life)[i]? = some x ∧ x.marks = y.ms.map (·.m) ∧ x.gone = y.gone := by
  have h1 : (ys.map LifeM.told)[i]? = some y.told := by rw [List.getElem?_map, hy]; rfl
  rw [h, List.getElem?_map] at h1
  cases hx : xs[i]? with
  | none => rw [hx] at h1; cases h1
  | some x =>
    rw [hx] at h1
    have h2 : x.told = y.told := by simpa using h1
    refine ⟨x.life, by rw [List.getElem?_map, hx]; rfl, congrArg (·.1) h2, congrArg (·.2.2) h2⟩
theorem Fl_take_succ {ls : List Life} {i : Nat} {x : Life} (h : ls[i]? = some x) : Fl (ls.take (i + 1)) = Fl (ls.take i) ++ x.marks := by
  rw [List.take_add_one, h, Fl_app]
  show _ ++ Fl [x] = _
  rw [Fl_one]
theorem mark_at {o f : ByteArray} {ls : List Life} (h : marksAll o f (Fl ls)) {i : Nat} {x : Life} (hx : ls[i]? = some x) {k : Nat} {m : Mark} (hm : x.marks[k]? = some m) : markGood o f (endT 0 (Fl (ls.take i) ++ x.marks.take k)) (endV 0 (Fl (ls.take i) ++ x.marks.take k)) m := by
  have hsplit : Fl ls = Fl (ls.take i) ++ (x.marks ++ Fl (ls.drop (i + 1))) := by
    conv => lhs; rw [← List.take_append_drop (i + 1) ls, Fl_app, Fl_take_succ hx]
    rw [List.append_assoc]
  have hk := (List.getElem?_eq_some_iff.1 hm).1
  have := h ((Fl (ls.take i)).length + k) m (by rw [hsplit, List.getElem?_append_right (by omega), Nat.add_sub_cancel_left, List.getElem?_append_left hk]; exact hm)
  rw [hsplit, take_app rfl, List.take_append_of_le_length (by omega)] at this
  exact this
theorem marks_up {o f : ByteArray} {ms : List Mark} (h : marksAll o f ms) (k d : Nat) : endV 0 (ms.take k) ≤ endV 0 (ms.take (k + d)) := by
  induction d with
  | zero => exact Int.le_refl _
  | succ d ih =>
    refine Int.le_trans ih ?_
    rw [← Nat.add_assoc, List.take_add_one]
    cases hm : ms[k + d]? with
    | none => simp
    | some m =>
      have := (h (k + d) m hm).2.1
      show _ ≤ endV 0 (ms.take (k + d) ++ [m])
      rw [endV_snoc]; exact this
theorem marks_in {o f : ByteArray} {ms : List Mark} (h : marksAll o f ms) (k : Nat) : 0 ≤ endV 0 (ms.take k) ∧ endV 0 (ms.take k) ≤ endV 0 ms := by
  refine ⟨by have := marks_up h 0 k; rwa [Nat.zero_add] at this, ?_⟩
  by_cases hk : k ≤ ms.length
  · have := marks_up h k (ms.length - k)
    rwa [Nat.add_sub_cancel' hk, List.take_length] at this
  · rw [List.take_of_length_le (by omega)]; exact Int.le_refl _
theorem pre_in {o f : ByteArray} {ls : List Life} (h : marksAll o f (Fl ls)) {i : Nat} {x : Life} (hx : ls[i]? = some x) (k : Nat) (hk : k ≤ x.marks.length) : 0 ≤ endV 0 (Fl (ls.take i) ++ x.marks.take k) ∧ endV 0 (Fl (ls.take i) ++ x.marks.take k) ≤ endV 0 (Fl ls) := by
  have hsplit : Fl ls = Fl (ls.take i) ++ (x.marks ++ Fl (ls.drop (i + 1))) := by
    conv => lhs; rw [← List.take_append_drop (i + 1) ls, Fl_app, Fl_take_succ hx]
    rw [List.append_assoc]
  have := marks_in h ((Fl (ls.take i)).length + k)
  have e : (Fl ls).take ((Fl (ls.take i)).length + k) = Fl (ls.take i) ++ x.marks.take k := by
    rw [hsplit, take_app rfl, List.take_append_of_le_length hk]
  rw [e] at this; exact this
set_option maxRecDepth 100000 in
set_option maxHeartbeats 8000000 in
theorem auditLives_calls (w : World) (vl : Value) (l : List StA) (o f : ByteArray) (hv : rowsOf 23 stepC w vl l) (hl : ∀ s ∈ l, sizesOk s ∧ s.vn.oneCell' = true) (ho : o.size ≤ 140737488355328) (hf : f.size ≤ 140737488355328) (hT : Tabs w) :
    Calls Tryd.prog 3 #[vl, .string o, .string f] w fun e w' => e = .returned (.bool true) ∧ Below w.heap.size w w' := by
  have HROW := Lib.hid hv
  have HLS := Lib.hid hl
  have HT := Lib.hid hT
  have HOF := Lib.hid (And.intro ho hf)
  obtain ⟨A, c, rfl, hnc, hnb, _⟩ := hv
  obtain ⟨n, hn⟩ : ∃ n, l.length = n := ⟨_, rfl⟩
  have HN := Lib.hid hn
  rw [hn] at HROW hnb ⊢
  have HSH := Lib.hid (shown20_calls w hT)
  clear hl ho hf hT hn hnc
  go_enter Tryd.func3, Tryd.ntmps3
  go_wp2_with fail
  refine HSH.out.mono ?_
  rintro e w1 ⟨rfl, hb1⟩
  have HB1 := Lib.hid hb1
  have HNW := Lib.hid (newled_calls w1 1)
  clear hb1
  go_wp2_with fail
  refine HNW.out.mono ?_
  rintro e w2 ⟨role0, rfl, hI2, hb2, hlo2⟩
  obtain ⟨b, hb⟩ : ∃ b, w1.heap.size + 1 = b := ⟨_, rfl⟩
  have HR0 : Hid (∃ role G, LpRel w w2 b 0 0 role G) := Lib.hid ⟨role0, _, hI2, hb, noteOk_new, pok_nil, Nat.le_refl _, Int.le_refl _, Int.le_refl _, HB1.out.trans (hb2.mono HB1.out.size), fun q hq => hlo2 q (Nat.lt_of_lt_of_le hq HB1.out.size)⟩
  rw [hb]
  clear hI2 hb2 hlo2 hb
  by_cases hbig : n ≤ 60
  · have HBIG := Lib.hid hbig
    go_wp2_with fail
    go_loopw [9, 10] (fun t i wr => ∃ (k : Nat) (T : Int), k ≤ n ∧ i = .int .i64 k ∧ t = .int .u64 T ∧ Hid (∃ role G, LpRel w wr b k T role G)) (fun _ i _ => n - (intOf i).toNat)
    case atStart => exact ⟨0, 0, Nat.zero_le _, rfl, rfl, HR0⟩
    case round =>
      obtain ⟨k, T, hk, rfl, rfl, HO⟩ := hrel
      obtain ⟨role, G, hL⟩ := HO.out
      have HL := Lib.hid hL
      clear HO hL
      by_cases hlt : k < n
      · obtain ⟨s, hs⟩ : ∃ s, l[k]? = some s := ⟨_, List.getElem?_eq_getElem (by rw [HN.out]; exact hlt)⟩
        have HS := Lib.hid hs
        have HSO := Lib.hid (HLS.out s (List.mem_of_getElem? hs))
        obtain ⟨A', c', hv', _, _, h3⟩ := HROW.out
        obtain ⟨rfl, rfl⟩ : A = A' ∧ c = c' := by cases hv'; exact ⟨rfl, rfl⟩
        obtain ⟨g0, off, rfl, hc⟩ := h3 (by rw [HN.out]; omega)
        have HRG : Hid (∀ U, Below w.heap.size w U → U.rangeAt g0 (off + k * 23) (stepC s)) := Lib.hid fun U hU j u hj => (Keep.of_below hU : Keep (fun _ => False) w U).cell (hc k s hs j u hj) fun e => e
        have n7 : wr.cell? ⟨g0, off + k * 23 + 7, none⟩ = some (.int .u64 s.n) := HRG.out wr HL.out.below 7 _ rfl
        have HLG := Lib.hid (light_calls wr s HSO.out.1)
        obtain ⟨SA, hSA⟩ : ∃ A, (stepC s).toArray = A := ⟨_, rfl⟩
        have HSA := Lib.hid hSA
        rw [hSA] at HLG
        clear hc h3 hv' hs hSA
        go_wp2_with (with_reducible refine wp_stop_load (o := ⟨some 44, .load _ (.tmp 43), _, _, _, _⟩) _ _ rfl ?_)
        unfold Stop
        refine wpList_load_mid rfl _ _ rfl g0 (off + k * 23) rfl (stepC s) _ (HRG.out _ HL.out.below) Tryd.underlying37 rfl info_step ?_
        rw [HSA.out]
        go_wp2_with fail
        refine HLG.out.mono ?_
        rintro e w3 ⟨rfl, hb3⟩
        have HB3 := Lib.hid hb3
        have HL3 := Lib.hid (HL.out.lift hb3)
        clear hb3 n7
        cases hlb : lightB s with
        | false =>
          clear hlb
          go_wp2_with fail
          go_ret
          exact ⟨rfl, HL3.out.below⟩
        | true =>
          have n7 : w3.cell? ⟨g0, off + k * 23 + 7, none⟩ = some (.int .u64 s.n) := HRG.out w3 HL3.out.below 7 _ rfl
          have HLB := Lib.hid hlb
          clear hlb
          by_cases hbn : s.n ≤ 1099511627776
          · have hbn1 : ¬ (1099511627776 : Int) < s.n := by omega
            have hwr : IntKind.u64.wrap (T + s.n) = T + s.n := by have := HL3.out.top; have := HL3.out.low; have := HBIG.out; rw [IntKind.wrap_u64]; omega
            have HBN := Lib.hid hbn
            have hnt := note_calls HL3.out.led s HSO.out.2 (by
              have hq := of_decide_eq_true HLB.out
              omega) HL3.out.pok (by have := HBIG.out; omega) (by have := HL3.out.cor; have := HBIG.out; omega) (HT.out.below HL3.out.below)
            rw [HL3.out.at', HSA.out] at hnt
            have HNT := Lib.hid hnt
            clear hnt hbn
            go_wp2_with (with_reducible refine wp_stop_load (o := ⟨some 68, .load _ (.tmp 67), _, _, _, _⟩) _ _ rfl ?_)
            unfold Stop
            refine wpList_load_mid rfl _ _ rfl g0 (off + k * 23) rfl (stepC s) _ (HRG.out _ HL3.out.below) Tryd.underlying37 rfl info_step ?_
            rw [HSA.out]
            go_wp2_with fail
            refine HNT.out.mono ?_
            rintro e w4 ⟨rfl, hr4⟩
            have HST := Lib.hid (HL3.out.step s (by have := HBIG.out; omega) HBN.out hr4)
            clear hr4 hbn1 hwr n7
            go_wp2_with fail
            go_roundw
            case rel => exact ⟨k + 1, _, by omega, by go_num, rfl, HST⟩
            case measure => simp [intOf]; omega
          · have hbn1 : (1099511627776 : Int) < s.n := by omega
            clear hbn
            go_wp2_with fail
            go_ret
            exact ⟨rfl, HL3.out.below⟩
      · obtain rfl : k = n := by omega
        have hlv := lives_calls HL.out.led o f HOF.out.1 HOF.out.2 HL.out.pok (by have := HBIG.out; omega)
        rw [HL.out.at'] at hlv
        have HLV := Lib.hid hlv
        clear hlv
        go_wp2_with fail
        refine HLV.out.mono ?_
        rintro e w5 ⟨A5, c5, ys, rfl, oys, hya, htold, hb5⟩
        obtain ⟨ls, hls⟩ : ∃ ls, (G.lives (pathB o f)).map LifeM.life = ls := ⟨_, rfl⟩
        have hlaw := lives_law HL.out.ok o f
        dsimp only at hlaw
        rw [pure_at_k, hls] at hlaw
        have hlen : ys.length = ls.length := by
          have := congrArg List.length htold
          rw [List.length_map, List.length_map] at this
          rw [← hls, List.length_map, this]
        have hlenb : ls.length ≤ 120 := by
          have := (HL.out.pok.at (pathB o f)).1
          rw [pure_at_k, hls] at this
          have := HBIG.out
          omega
        have HLAW := Lib.hid hlaw
        have HTG : Hid (∀ (i : Nat) (y : LifeM), ys[i]? = some y → ∃ x : Life, ls[i]? = some x ∧ x.marks = y.ms.map (·.m) ∧ x.gone = y.gone) := Lib.hid fun i y hy => by
          have := told_get htold hy
          rwa [hls] at this
        have HOY := Lib.hid oys
        have HYA := Lib.hid hya
        obtain ⟨ny, hny⟩ : ∃ m, ys.length = m := ⟨_, rfl⟩
        have HNY : Hid (ys.length = ny ∧ ls.length = ny) := Lib.hid ⟨hny, by omega⟩
        have hnyb : ny ≤ 120 := by omega
        have HB5 := Lib.hid (HL.out.below.trans (hb5.mono HL.out.below.size))
        have HI5 := Lib.hid (HL.out.led.below hb5)
        rw [hny] at HOY ⊢
        clear oys hya htold hls hlaw hlen hlenb hny hb5
        go_wp2_with fail
        go_loopw [12, 13, 14] (fun t v i wr => ∃ (i0 : Nat), i0 ≤ ny ∧ i = .int .i64 i0 ∧ t = .int .u64 (endT 0 (Fl (ls.take i0))) ∧ v = .int .u64 (endV 0 (Fl (ls.take i0))) ∧ wr = w5) (fun _ _ i _ => ny - (intOf i).toNat)
        case atStart => exact ⟨0, Nat.zero_le _, rfl, rfl, rfl, rfl⟩
        case round =>
          obtain ⟨i0, hi0, rfl, rfl, rfl, hw5⟩ := hrel
          obtain rfl : w5 = wr := hw5.symm
          clear hw5
          by_cases hlt2 : i0 < ny
          · obtain ⟨y, hy⟩ : ∃ y, ys[i0]? = some y := ⟨_, List.getElem?_eq_getElem (by rw [HNY.out.1]; exact hlt2)⟩
            obtain ⟨x, hx, hmk, hgn⟩ := HTG.out i0 y hy
            obtain ⟨hne, hhd, hgone⟩ := HLAW.out.2.2.1 i0 x hx
            obtain ⟨gy, cy, hvy, _, hcy⟩ := own_block HOY.out (by omega)
            obtain ⟨rfl, rfl⟩ : A5 = some ⟨gy, 0, none⟩ ∧ c5 = cy := by cases hvy; exact ⟨rfl, rfl⟩
            have hlfy := HYA.out y (List.mem_of_getElem? hy)
            obtain ⟨Am, cm, hvm, _, _⟩ := own_slice hlfy.mrk
            have hnm1 : 0 < y.ms.length := by
              cases hm0 : y.ms with
              | nil => rw [hm0] at hmk; exact absurd hmk hne
              | cons a b => simp
            obtain ⟨gm, cm', hvm', _, hcm⟩ := own_block hlfy.mrk hnm1
            obtain ⟨nm, hnm⟩ : ∃ q, y.ms.length = q := ⟨_, rfl⟩
            rw [hnm] at hvm hvm' hnm1
            have y0 : w5.cell? ⟨gy, i0 * 3, none⟩ = some (.slice (some ⟨gm, 0, none⟩) nm cm') := by rw [← hvm']; exact (hcy (i0 * 3 + 0) _ (by rw [flat_get outC_len hy (by omega)]; rfl)).1
            have y2 : w5.cell? ⟨gy, i0 * 3 + 2, none⟩ = some (.bool x.gone) := by rw [hgn]; exact (hcy (i0 * 3 + 2) _ (by rw [flat_get outC_len hy (by omega)]; rfl)).1
            obtain ⟨m0, hm0⟩ : ∃ m, y.ms[0]? = some m := ⟨_, List.getElem?_eq_getElem (by omega)⟩
            have hv0 : m0.m.v = endV 0 (Fl (ls.take i0)) + 1 := hhd m0.m (by rw [hmk, List.head?_map, List.head?_eq_getElem?, hm0]; rfl)
            have hm1 : w5.cell? ⟨gm, 1, none⟩ = some (.int .u64 (endV 0 (Fl (ls.take i0)) + 1)) := by
              rw [← hv0]
              have := (hcm (0 * 7 + 1) _ (by rw [flat_get markV_len hm0 (by omega)]; rfl)).1
              simpa using this
            have HIN : Hid (∀ q, q ≤ nm → 0 ≤ endV 0 (Fl (ls.take i0) ++ x.marks.take q) ∧ endV 0 (Fl (ls.take i0) ++ x.marks.take q) ≤ 60) := Lib.hid fun q hq => by
              have h1 := pre_in HLAW.out.1 hx q (by rw [hmk, List.length_map, hnm]; exact hq)
              have h2 := HLAW.out.2.2.2.2
              have h3 := HBIG.out
              exact ⟨h1.1, by omega⟩
            have hp0 : Fl (ls.take i0) ++ x.marks.take 0 = Fl (ls.take i0) := by simp
            have hVb := HIN.out 0 (Nat.zero_le _)
            rw [hp0] at hVb
            have HHX := Lib.hid (And.intro hx hmk)
            have HCM := Lib.hid hcm
            have HNM := Lib.hid hnm
            have HST0 : Hid (endT 0 (Fl (ls.take i0) ++ x.marks.take 0) = endT 0 (Fl (ls.take i0)) ∧ endV 0 (Fl (ls.take i0) ++ x.marks.take 0) = endV 0 (Fl (ls.take i0))) := Lib.hid ⟨by rw [hp0], by rw [hp0]⟩
            have HGO : Hid (i0 + 1 < ny → x.gone = true) := Lib.hid fun h => hgone (by rw [HNY.out.2]; exact h)
            have HNE : Hid (x.marks.length = nm) := Lib.hid (by rw [hmk, List.length_map, hnm])
            have hnm9 : nm ≤ 9223372036854775807 := by
              have := rows_flat markV_len hlfy.mrk
              obtain ⟨_, _, e9, _, h9, _⟩ := this
              rw [hnm] at h9; exact h9
            obtain ⟨V, hV⟩ : ∃ V, endV 0 (Fl (ls.take i0)) = V := ⟨_, rfl⟩
            obtain ⟨T2, hT2⟩ : ∃ V, endT 0 (Fl (ls.take i0)) = V := ⟨_, rfl⟩
            rw [hV] at hm1 hVb HST0 ⊢
            rw [hT2] at HST0 ⊢
            have hwV : IntKind.u64.wrap (V + 1) = V + 1 := by rw [IntKind.wrap_u64]; omega
            clear hx hmk hgn hne hhd hgone hvy hcy hlfy hvm hvm' hcm hnm hm0 hv0 hp0 hVb hV hT2
            have INNER : ∀ (b : Bool), b = b → True := fun _ _ => trivial
            clear INNER
            by_cases hl1 : i0 + 1 < ny
            · have hg := HGO.out hl1
              rw [hg] at y2
              clear hg
              go_wp2_with fail
              go_loopw [12, 13, 16] (fun t v j wr => ∃ (k0 : Nat), k0 ≤ nm ∧ j = .int .i64 k0 ∧ t = .int .u64 (endT 0 (Fl (ls.take i0) ++ x.marks.take k0)) ∧ v = .int .u64 (endV 0 (Fl (ls.take i0) ++ x.marks.take k0)) ∧ wr = w5) (fun _ _ j _ => nm - (intOf j).toNat)
              case atStart => exact ⟨0, Nat.zero_le _, rfl, by rw [HST0.out.1], by rw [HST0.out.2], rfl⟩
              case round =>
                obtain ⟨k0, hk0, rfl, rfl, rfl, hw5⟩ := hrel
                obtain rfl : w5 = wr := hw5.symm
                clear hw5
                by_cases hlt3 : k0 < nm
                · obtain ⟨m, hm⟩ : ∃ m, y.ms[k0]? = some m := ⟨_, List.getElem?_eq_getElem (by rw [HNM.out]; exact hlt3)⟩
                  have hxm : x.marks[k0]? = some m.m := by rw [HHX.out.2, List.getElem?_map, hm]; rfl
                  obtain ⟨g1, g2, g3, g4, g5, g6⟩ := mark_at HLAW.out.1 HHX.out.1 hxm
                  obtain ⟨v1, v2⟩ := HIN.out k0 hk0
                  have hnx : endT 0 (Fl (ls.take i0) ++ x.marks.take (k0 + 1)) = m.m.t ∧ endV 0 (Fl (ls.take i0) ++ x.marks.take (k0 + 1)) = m.m.v := by
                    rw [List.take_add_one, hxm, ← List.append_assoc]
                    exact ⟨endT_snoc _ _ _, endV_snoc _ _ _⟩
                  have HNX := Lib.hid hnx
                  have q0 : w5.cell? ⟨gm, k0 * 7, none⟩ = some (.int .u64 m.m.t) := (HCM.out (k0 * 7 + 0) _ (by rw [flat_get markV_len hm (by omega)]; rfl)).1
                  have q1 : w5.cell? ⟨gm, k0 * 7 + 1, none⟩ = some (.int .u64 m.m.v) := (HCM.out (k0 * 7 + 1) _ (by rw [flat_get markV_len hm (by omega)]; rfl)).1
                  have q2 : w5.cell? ⟨gm, k0 * 7 + 2, none⟩ = some (.string o) := by rw [← g4]; exact (HCM.out (k0 * 7 + 2) _ (by rw [flat_get markV_len hm (by omega)]; rfl)).1
                  have q3 : w5.cell? ⟨gm, k0 * 7 + 3, none⟩ = some (.string f) := by rw [← g5]; exact (HCM.out (k0 * 7 + 3) _ (by rw [flat_get markV_len hm (by omega)]; rfl)).1
                  have q4 : w5.cell? ⟨gm, k0 * 7 + 4, none⟩ = some (.int .i64 m.m.r.epoch) := (HCM.out (k0 * 7 + 4) _ (by rw [flat_get markV_len hm (by omega)]; rfl)).1
                  obtain ⟨Vk, hVk⟩ : ∃ V, endV 0 (Fl (ls.take i0) ++ x.marks.take k0) = V := ⟨_, rfl⟩
                  obtain ⟨Tk, hTk⟩ : ∃ V, endT 0 (Fl (ls.take i0) ++ x.marks.take k0) = V := ⟨_, rfl⟩
                  rw [hVk] at g2 g3 v1 v2 ⊢
                  rw [hTk] at g1 ⊢
                  have hwk : IntKind.u64.wrap (Vk + 1) = Vk + 1 := by rw [IntKind.wrap_u64]; omega
                  have b1 : ¬ m.m.t < Tk := by omega
                  have b2 : ¬ m.m.v < Vk := by omega
                  have b3 : ¬ Vk + 1 < m.m.v := by omega
                  have b4 : ¬ (7 : Int) < m.m.r.epoch := by omega
                  clear hm hxm g1 g2 g3 g4 g5 g6 v1 v2 hnx hVk hTk
                  go_wp2_with fail
                  go_roundw
                  case rel => exact ⟨k0 + 1, by omega, by go_num, by rw [HNX.out.1], by rw [HNX.out.2], trivial⟩
                  case measure => simp [intOf]; omega
                · obtain rfl : k0 = nm := by omega
                  have HNT : Hid (Fl (ls.take i0) ++ x.marks.take k0 = Fl (ls.take (i0 + 1))) := Lib.hid (by rw [Fl_take_succ HHX.out.1, List.take_of_length_le (l := x.marks) (by rw [HNE.out]; exact Nat.le_refl _)])
                  go_wp2_with fail
                  go_roundw
                  case rel => exact ⟨i0 + 1, by omega, by go_num, by rw [HNT.out], by rw [HNT.out], trivial⟩
                  case measure => simp [intOf]; omega
            · clear y2
              go_wp2_with fail
              go_loopw [12, 13, 16] (fun t v j wr => ∃ (k0 : Nat), k0 ≤ nm ∧ j = .int .i64 k0 ∧ t = .int .u64 (endT 0 (Fl (ls.take i0) ++ x.marks.take k0)) ∧ v = .int .u64 (endV 0 (Fl (ls.take i0) ++ x.marks.take k0)) ∧ wr = w5) (fun _ _ j _ => nm - (intOf j).toNat)
              case atStart => exact ⟨0, Nat.zero_le _, rfl, by rw [HST0.out.1], by rw [HST0.out.2], rfl⟩
              case round =>
                obtain ⟨k0, hk0, rfl, rfl, rfl, hw5⟩ := hrel
                obtain rfl : w5 = wr := hw5.symm
                clear hw5
                by_cases hlt3 : k0 < nm
                · obtain ⟨m, hm⟩ : ∃ m, y.ms[k0]? = some m := ⟨_, List.getElem?_eq_getElem (by rw [HNM.out]; exact hlt3)⟩
                  have hxm : x.marks[k0]? = some m.m := by rw [HHX.out.2, List.getElem?_map, hm]; rfl
                  obtain ⟨g1, g2, g3, g4, g5, g6⟩ := mark_at HLAW.out.1 HHX.out.1 hxm
                  obtain ⟨v1, v2⟩ := HIN.out k0 hk0
                  have hnx : endT 0 (Fl (ls.take i0) ++ x.marks.take (k0 + 1)) = m.m.t ∧ endV 0 (Fl (ls.take i0) ++ x.marks.take (k0 + 1)) = m.m.v := by
                    rw [List.take_add_one, hxm, ← List.append_assoc]
                    exact ⟨endT_snoc _ _ _, endV_snoc _ _ _⟩
                  have HNX := Lib.hid hnx
                  have q0 : w5.cell? ⟨gm, k0 * 7, none⟩ = some (.int .u64 m.m.t) := (HCM.out (k0 * 7 + 0) _ (by rw [flat_get markV_len hm (by omega)]; rfl)).1
                  have q1 : w5.cell? ⟨gm, k0 * 7 + 1, none⟩ = some (.int .u64 m.m.v) := (HCM.out (k0 * 7 + 1) _ (by rw [flat_get markV_len hm (by omega)]; rfl)).1
                  have q2 : w5.cell? ⟨gm, k0 * 7 + 2, none⟩ = some (.string o) := by rw [← g4]; exact (HCM.out (k0 * 7 + 2) _ (by rw [flat_get markV_len hm (by omega)]; rfl)).1
                  have q3 : w5.cell? ⟨gm, k0 * 7 + 3, none⟩ = some (.string f) := by rw [← g5]; exact (HCM.out (k0 * 7 + 3) _ (by rw [flat_get markV_len hm (by omega)]; rfl)).1
                  have q4 : w5.cell? ⟨gm, k0 * 7 + 4, none⟩ = some (.int .i64 m.m.r.epoch) := (HCM.out (k0 * 7 + 4) _ (by rw [flat_get markV_len hm (by omega)]; rfl)).1
                  obtain ⟨Vk, hVk⟩ : ∃ V, endV 0 (Fl (ls.take i0) ++ x.marks.take k0) = V := ⟨_, rfl⟩
                  obtain ⟨Tk, hTk⟩ : ∃ V, endT 0 (Fl (ls.take i0) ++ x.marks.take k0) = V := ⟨_, rfl⟩
                  rw [hVk] at g2 g3 v1 v2 ⊢
                  rw [hTk] at g1 ⊢
                  have hwk : IntKind.u64.wrap (Vk + 1) = Vk + 1 := by rw [IntKind.wrap_u64]; omega
                  have b1 : ¬ m.m.t < Tk := by omega
                  have b2 : ¬ m.m.v < Vk := by omega
                  have b3 : ¬ Vk + 1 < m.m.v := by omega
                  have b4 : ¬ (7 : Int) < m.m.r.epoch := by omega
                  clear hm hxm g1 g2 g3 g4 g5 g6 v1 v2 hnx hVk hTk
                  go_wp2_with fail
                  go_roundw
                  case rel => exact ⟨k0 + 1, by omega, by go_num, by rw [HNX.out.1], by rw [HNX.out.2], trivial⟩
                  case measure => simp [intOf]; omega
                · obtain rfl : k0 = nm := by omega
                  have HNT : Hid (Fl (ls.take i0) ++ x.marks.take k0 = Fl (ls.take (i0 + 1))) := Lib.hid (by rw [Fl_take_succ HHX.out.1, List.take_of_length_le (l := x.marks) (by rw [HNE.out]; exact Nat.le_refl _)])
                  go_wp2_with fail
                  go_roundw
                  case rel => exact ⟨i0 + 1, by omega, by go_num, by rw [HNT.out], by rw [HNT.out], trivial⟩
                  case measure => simp [intOf]; omega
          · obtain rfl : i0 = ny := by omega
            have HEND : Hid (endT 0 (Fl (ls.take i0)) ≤ G.now ∧ G.now ≤ T) := Lib.hid ⟨by rw [List.take_of_length_le (by rw [HNY.out.2]; exact Nat.le_refl _)]; exact HLAW.out.2.1, HL.out.ok.top⟩
            obtain ⟨T3, hT3⟩ : ∃ V, endT 0 (Fl (ls.take i0)) = V := ⟨_, rfl⟩
            rw [hT3] at HEND ⊢
            have hck := clock_calls HI5.out
            rw [HL.out.at'] at hck
            have HCK := Lib.hid hck
            clear hT3 hck
            obtain ⟨t1, t2⟩ := HEND.out
            go_wp2_with fail
            refine HCK.out.mono ?_
            rintro e w6 ⟨rfl, hw6⟩
            obtain rfl : w6 = w5 := hw6
            go_wp2_with fail
            refine HCK.out.mono ?_
            rintro e w7 ⟨rfl, hw7⟩
            obtain rfl : w7 = w6 := hw7
            go_wp2_with fail
            go_ret
            exact ⟨rfl, HB5.out⟩
  · go_wp2_with fail
    go_ret
    obtain ⟨_, _, h⟩ := HR0.out
    exact ⟨rfl, h.below⟩
end Go.Proofs.YtgacfkenndhcnaaDoor
namespace Go.Proofs.YtgacfkenndhcnaaDoor
open Go.RowKit Go.ChangeShapes Go.WideShapes Go.Deep
set_option linter.unusedVariables false
set_option linter.unusedSimpArgs false

section
variable {H : Type} {enc : TypeId × Value → H} {P : Program} {w : World}

theorem list_choose {α β : Type} {p : Nat → α → β → Prop} : ∀ (l : List α), (∀ i a, l[i]? = some a → ∃ b, p i a b) → ∃ m : List β, m.length = l.length ∧ ∀ i a b, l[i]? = some a → m[i]? = some b → p i a b
  | [], _ => ⟨[], rfl, fun i a b h => by simp at h⟩
  | x :: l, h => by
    obtain ⟨b, hb⟩ := h 0 x rfl
    obtain ⟨m, hm, hp⟩ := list_choose (p := fun i a b => p (i + 1) a b) l fun i a ha => h (i + 1) a (by simpa using ha)
    refine ⟨b :: m, by simp [hm], fun i a b' ha hb' => ?_⟩
    cases i with
    | zero => simp at ha hb'; subst ha; subst hb'; exact hb
    | succ i => exact hp i a b' (by simpa using ha) (by simpa using hb')

theorem spot_none {a : Addr} {v : Value} (h : w.cell? a = some v) : a.spot = none := by
  unfold World.cell? at h
  split at h
  · split at h
    · cases h
    · rename_i hs; cases e : a.spot <;> simp_all
  · cases h

/-- A slice that came in, of elements of so many cells each: the list that it reads as. -/
theorem open_rows {α : Type} {size : Nat} {f : α → List Value} {g : α → DataW H} {Wf : α → Prop} {t e : TypeId} (hsize : 0 < size) (ht : P.underlying t = some (.slice e)) (hC : P.cellsOf e = size) (hfl : ∀ a, (f a).length = size)
    (hel : ∀ n cs d p, DataW.trod enc P w 0 (fun _ => true) true n e cs = some (d, p) → ∃ a, cs = f a ∧ d = g a ∧ Wf a) {A : Option Addr} {len cap : Nat} {d : DataW H} {p : List MemPlace}
    (h : DataW.Trod enc P w 0 (fun _ => true) true t (.slice A len cap) d p) :
    ∃ l : List α, len = l.length ∧ rowsOf size f w (.slice A len cap) l ∧ (∀ a ∈ l, Wf a) ∧ (d = .nil ∧ l = [] ∨ ∃ sp, d = .slice (l.map g) sp) := by
  obtain ⟨fuel, hf⟩ := h
  rcases open_slice ht hf with ⟨hcs, hx⟩ | ⟨a, len', cap', m, n, D, Pl, hcs, hb, hl, hm, hmm, hx, hi⟩
  · simp [Value.cells] at hcs
    obtain ⟨rfl, rfl, rfl⟩ := hcs
    simp only [Prod.mk.injEq] at hx
    exact ⟨[], rfl, ⟨none, 0, rfl, Nat.le_refl _, by simp, fun h => absurd h (Nat.lt_irrefl 0)⟩, by simp, Or.inl ⟨hx.1, rfl⟩⟩
  · simp [Value.cells] at hcs
    obtain ⟨rfl, rfl, rfl⟩ := hcs
    rw [if_pos rfl] at hmm
    subst hmm
    rw [hC] at hi
    have hall : ∀ i, i < len → ∃ a', w.cells? 0 (a.add (i * size)) size = some (f a') ∧ D i = g a' ∧ Wf a' := fun i hl' => by
      obtain ⟨cs', h1, h2⟩ := hi i (by omega)
      obtain ⟨a', rfl, hd, hw⟩ := hel n cs' _ _ h2
      exact ⟨a', h1, hd, hw⟩
    obtain ⟨l, hll, hp⟩ := list_choose (p := fun i (_ : Nat) a' => w.cells? 0 (a.add (i * size)) size = some (f a') ∧ D i = g a' ∧ Wf a') (List.range len) (fun i j hj => by
      have := (List.getElem?_eq_some_iff.1 hj).1
      exact hall i (by simpa using this))
    rw [List.length_range] at hll
    have hget : ∀ i a', l[i]? = some a' → w.cells? 0 (a.add (i * size)) size = some (f a') ∧ D i = g a' ∧ Wf a' := fun i a' ha => by
      have hlt := (List.getElem?_eq_some_iff.1 ha).1
      exact hp i i a' (by rw [List.getElem?_range (by omega)]) ha
    refine ⟨l, hll.symm, ⟨some a, m, by rw [hll], by omega, by unfold maxLen at hm; omega, fun h0 => ?_⟩, fun a' ha' => ?_, Or.inr ?_⟩
    · have hsp : a.spot = none := by
        obtain ⟨a0, ha0⟩ : ∃ a0, l[0]? = some a0 := ⟨_, List.getElem?_eq_getElem h0⟩
        obtain ⟨_, _, hat⟩ := World.cells?_some (hget 0 a0 ha0).1
        have h0' := hat 0 hsize
        rw [List.getElem?_eq_getElem (by rw [hfl]; exact hsize)] at h0'
        have := spot_none h0'
        simpa [Addr.add] using this
      refine ⟨a.block, a.off, by cases a; simp at hsp; subst hsp; rfl, fun i a' ha j u hu => ?_⟩
      obtain ⟨_, _, hat⟩ := World.cells?_some (hget i a' ha).1
      have hj : j < size := by rw [← hfl a']; exact (List.getElem?_eq_some_iff.1 hu).1
      have h1 := (hat j hj).trans hu
      rw [Go.Deep.add_add] at h1
      have e1 : a.add (i * size + j) = ⟨a.block, a.off + i * size + j, none⟩ := by
        cases a; simp at hsp; subst hsp; rw [add_at, Nat.add_assoc]
      rw [e1] at h1; exact h1
    · obtain ⟨i, hi'⟩ := List.getElem?_of_mem ha'
      exact (hget i a' hi').2.2
    · simp only [Prod.mk.injEq] at hx
      refine ⟨(List.range (m - len)).map fun j => D (len + j), ?_⟩
      rw [hx.1]
      congr 1
      apply List.ext_getElem?
      intro i
      by_cases hi' : i < len
      · obtain ⟨a', ha'⟩ : ∃ a', l[i]? = some a' := ⟨_, List.getElem?_eq_getElem (by omega)⟩
        rw [List.getElem?_map, List.getElem?_map, ha', List.getElem?_range hi']
        simp [(hget i a' ha').2.1]
      · rw [List.getElem?_map, List.getElem?_map, List.getElem?_eq_none (by simp; omega), List.getElem?_eq_none (by omega)]; rfl

theorem weightsAll_mem {e : TypeId} {n : Nat} : ∀ {l : List (DataW H)} {d : DataW H}, d ∈ l → n ∈ d.weights P e → n ∈ DataW.weightsAll P e l
  | x :: l, d, hd, hn => by
    rw [DataW.weightsAll, List.mem_append]
    rcases List.mem_cons.1 hd with rfl | h
    · exact Or.inl hn
    · exact Or.inr (weightsAll_mem h hn)
  | [], d, hd, _ => by cases hd

/-- what is known of the sizes of an argument is known of each element -/
theorem sized_elem {ts : List TypeId} {ds : List (DataW H)} (h : (DataW.weightsEach P ts ds).all (· ≤ reachBytes) = true) {j : Nat} {t e : TypeId} {elems spare : List (DataW H)} (ht : ts[j]? = some t) (hd : ds[j]? = some (.slice elems spare)) (hu : P.underlying t = some (.slice e))
    {d : DataW H} (hm : d ∈ elems) {n : Nat} (hn : n ∈ d.weights P e) : n ≤ 140737488351232 := by
  have := List.all_eq_true.1 h n (DataW.weights_mem_each ht hd n (by rw [DataW.weights, hu]; simp only [List.mem_cons, List.mem_append]; exact Or.inr (Or.inl (weightsAll_mem hm hn))))
  exact of_decide_eq_true this
theorem sized_arg {ts : List TypeId} {ds : List (DataW H)} (h : (DataW.weightsEach P ts ds).all (· ≤ reachBytes) = true) {j : Nat} {t : TypeId} {d : DataW H} (ht : ts[j]? = some t) (hd : ds[j]? = some d) {n : Nat} (hn : n ∈ d.weights P t) : n ≤ 140737488351232 := by
  have := List.all_eq_true.1 h n (DataW.weights_mem_each ht hd n hn)
  exact of_decide_eq_true this

/-- a struct that came in, field by field, each of one cell -/
theorem trod_fields {t : TypeId} {fs : Array Field} {n : Nat} {cs : List Value} {x : DataW H × List MemPlace} (ht : P.underlying t = some (.struct fs)) (h : DataW.trod enc P w 0 (fun _ => true) true n t cs = some x) :
    ∃ (xs : List (DataW H × List MemPlace)) (m : Nat), x.1 = .agg (xs.map (·.1)) ∧ cs.length = P.cellsOf t ∧ xs.length = fs.size ∧
      ∀ (i : Nat) (f : Field) (v : Value), fs[i]? = some f → P.cellsOf f.type = 1 → cs[f.offset]? = some v → ∃ y, xs[i]? = some y ∧ DataW.trod enc P w 0 (fun _ => true) true m f.type [v] = some y := by
  obtain ⟨xs, m, _, hx, hl, hxl, hf⟩ := DataW.trod_struct ht h
  refine ⟨xs, m, by rw [hx], hl, hxl, fun i f v hi h1 hv => ?_⟩
  have h2 := hf i f hi
  have hlt := (List.getElem?_eq_some_iff.1 hv).1
  have h3 : (cs.drop f.offset).take 1 = [v] := by
    rw [List.drop_eq_getElem_cons hlt]
    have := (List.getElem?_eq_some_iff.1 hv).2
    simp [this]
  rw [h1, h3] at h2
  have hil : i < xs.length := by rw [hxl]; exact (Array.getElem?_eq_some_iff.1 hi).1
  exact ⟨xs[i], List.getElem?_eq_getElem hil, by rw [h2, List.getElem?_eq_getElem hil]⟩
theorem four_of {α : Type} {l : List α} (h : l.length = 4) : ∃ a b c d, l = [a, b, c, d] := by
  match l, h with
  | [a, b, c, d], _ => exact ⟨a, b, c, d, rfl⟩
theorem three_of {α : Type} {l : List α} (h : l.length = 3) : ∃ a b c, l = [a, b, c] := by
  match l, h with
  | [a, b, c], _ => exact ⟨a, b, c, rfl⟩
theorem two_of {α : Type} {l : List α} (h : l.length = 2) : ∃ a b, l = [a, b] := by
  match l, h with
  | [a, b], _ => exact ⟨a, b, rfl⟩
end
end Go.Proofs.YtgacfkenndhcnaaDoor
namespace Go.Proofs.YtgacfkenndhcnaaDoor
open Go.RowKit Go.ChangeShapes Go.WideShapes Go.Deep
set_option linter.unusedVariables false
set_option linter.unusedSimpArgs false

theorem trod_fields2 {H : Type} {enc : TypeId × Value → H} {P : Program} {w : World} {t : TypeId} {fs : Array Field} {n : Nat} {cs : List Value} {x : DataW H × List MemPlace} (ht : P.underlying t = some (.struct fs)) (h : DataW.trod enc P w 0 (fun _ => true) true n t cs = some x) :
    ∃ (xs : List (DataW H × List MemPlace)) (m : Nat), x.1 = .agg (xs.map (·.1)) ∧ cs.length = P.cellsOf t ∧ xs.length = fs.size ∧
      ∀ (i : Nat) (f : Field) (k : Nat), fs[i]? = some f → P.cellsOf f.type = k → ∃ y, xs[i]? = some y ∧ DataW.trod enc P w 0 (fun _ => true) true m f.type ((cs.drop f.offset).take k) = some y := by
  obtain ⟨xs, m, _, hx, hl, hxl, hf⟩ := DataW.trod_struct ht h
  refine ⟨xs, m, by rw [hx], hl, hxl, fun i f k hi hk => ?_⟩
  have h2 := hf i f hi
  rw [hk] at h2
  have hil : i < xs.length := by rw [hxl]; exact (Array.getElem?_eq_some_iff.1 hi).1
  exact ⟨xs[i], List.getElem?_eq_getElem hil, by rw [h2, List.getElem?_eq_getElem hil]⟩
theorem five_of {α : Type} {l : List α} (h : l.length = 5) : ∃ a b c d e, l = [a, b, c, d, e] := by
  match l, h with
  | [a, b, c, d, e], _ => exact ⟨a, b, c, d, e, rfl⟩
theorem twelve_of {α : Type} {l : List α} (h : l.length = 12) : ∃ c0 c1 c2 c3 c4 c5 c6 c7 c8 c9 c10 c11, l = [c0, c1, c2, c3, c4, c5, c6, c7, c8, c9, c10, c11] := by
  match l, h with
  | [c0, c1, c2, c3, c4, c5, c6, c7, c8, c9, c10, c11], _ => exact ⟨c0, c1, c2, c3, c4, c5, c6, c7, c8, c9, c10, c11, rfl⟩
theorem many_of {α : Type} {l : List α} (h : l.length = 23) : ∃ c0 c1 c2 c3 c4 c5 c6 c7 c8 c9 c10 c11 c12 c13 c14 c15 c16 c17 c18 c19 c20 c21 c22, l = [c0, c1, c2, c3, c4, c5, c6, c7, c8, c9, c10, c11, c12, c13, c14, c15, c16, c17, c18, c19, c20, c21, c22] := by
  match l, h with
  | [c0, c1, c2, c3, c4, c5, c6, c7, c8, c9, c10, c11, c12, c13, c14, c15, c16, c17, c18, c19, c20, c21, c22], _ => exact ⟨c0, c1, c2, c3, c4, c5, c6, c7, c8, c9, c10, c11, c12, c13, c14, c15, c16, c17, c18, c19, c20, c21, c22, rfl⟩
def chD {H : Type} (c : ChA) : DataW H := .agg [.lit (.int .u8 c.kind), .lit (.int .i64 c.back), .lit (.string c.key.data.toList), .lit (.string c.bytes.data.toList)]
def cmdD {H : Type} (s : StA) : DataW H := .agg [.lit (.int .u8 s.kind), .lit (.string s.who.data.toList), .lit (.string s.owner.data.toList), .lit (.string s.file.data.toList), .lit (.string s.user.data.toList), .lit (.bool s.wt), .lit (.string s.text.data.toList), .lit (.int .u64 s.n), chD s.env, chD s.data, .lit (.bool s.short), .lit (.int .i64 s.cut)]
def resD {H : Type} (s : StA) (dn : DataW H) : DataW H := .agg [.lit (.int .i64 s.err), .lit (.string s.rtext.data.toList), dn, .lit (.int .u64 s.ver), .lit (.int .i64 s.epoch)]
def stepD {H : Type} (a : StA × DataW H) : DataW H := .agg [cmdD a.1, resD a.1 a.2]
section
variable {H : Type} {enc : TypeId × Value → H} {w : World}
theorem ch_elem {n : Nat} {c0 c1 c2 c3 : Value} {x : DataW H × List MemPlace} (h : DataW.trod enc Tryd.prog w 0 (fun _ => true) true n 29 [c0, c1, c2, c3] = some x) : ∃ a : ChA, [c0, c1, c2, c3] = [.int .u8 a.kind, .int .i64 a.back, .string a.key, .string a.bytes] ∧ x.1 = chD a := by
  obtain ⟨xs, m, hx, hl, hxl, hf⟩ := trod_fields Tryd.underlying29 h
  obtain ⟨y0, e0, f0⟩ := hf 0 _ c0 rfl (by kernel_rfl) rfl
  obtain ⟨y1, e1, f1⟩ := hf 1 _ c1 rfl (by kernel_rfl) rfl
  obtain ⟨y2, e2, f2⟩ := hf 2 _ c2 rfl (by kernel_rfl) rfl
  obtain ⟨y3, e3, f3⟩ := hf 3 _ c3 rfl (by kernel_rfl) rfl
  obtain ⟨z0, z1, z2, z3, rfl⟩ := four_of (hxl.trans (by kernel_rfl))
  simp at e0 e1 e2 e3
  subst e0 e1 e2 e3
  obtain ⟨n0, h0, rfl, _⟩ := DataW.trod_int Tryd.underlying5 f0
  obtain ⟨n1, h1, rfl, _⟩ := DataW.trod_int Tryd.underlying3 f1
  obtain ⟨s2, h2, rfl, _⟩ := DataW.trod_string Tryd.underlying9 f2
  obtain ⟨s3, h3, rfl, _⟩ := DataW.trod_string Tryd.underlying9 f3
  cases h0; cases h1; cases h2; cases h3
  exact ⟨⟨n0, n1, s2, s3⟩, rfl, hx⟩
theorem names_elem {n : Nat} {c : Value} {x : DataW H × List MemPlace} (h : DataW.trod enc Tryd.prog w 0 (fun _ => true) true n 33 [c] = some x) : c.oneCell' = true := by
  rcases open_slice Tryd.underlying33 h with ⟨hcs, _⟩ | ⟨a, len, cap, m, k, D, Pl, hcs, _⟩
  · simp at hcs; rw [hcs]; rfl
  · simp at hcs; rw [hcs]; rfl
theorem nat_of_u64 {n : Int} (h : (Lit.int .u64 n).wf = true) : ∃ m : Nat, n = m := by
  have : 0 ≤ n := by simp [Lit.wf, IntKind.min, IntKind.max, IntKind.bits, IntKind.signed] at h; omega
  exact Int.eq_ofNat_of_zero_le this
set_option maxRecDepth 100000 in
theorem step_elem {n : Nat} {cs : List Value} {d : DataW H} {p : List MemPlace} (h : DataW.trod enc Tryd.prog w 0 (fun _ => true) true n 37 cs = some (d, p)) :
    ∃ a : StA × DataW H, cs = stepC a.1 ∧ d = stepD a ∧ a.1.vn.oneCell' = true := by
  obtain ⟨xs, m, hx, hl, hxl, hf⟩ := trod_fields2 Tryd.underlying37 h
  obtain ⟨c0, c1, c2, c3, c4, c5, c6, c7, c8, c9, c10, c11, c12, c13, c14, c15, c16, c17, c18, c19, c20, c21, c22, rfl⟩ := many_of (hl.trans (by kernel_rfl))
  obtain ⟨yc, ec, fc⟩ := hf 0 _ 18 rfl (by kernel_rfl)
  obtain ⟨yr, er, fr⟩ := hf 1 _ 5 rfl (by kernel_rfl)
  obtain ⟨zc, zr, rfl⟩ := two_of (hxl.trans (by kernel_rfl))
  simp at ec er
  subst ec er
  have fc' : DataW.trod enc Tryd.prog w 0 (fun _ => true) true m 31 [c0, c1, c2, c3, c4, c5, c6, c7, c8, c9, c10, c11, c12, c13, c14, c15, c16, c17] = some zc := fc
  have fr' : DataW.trod enc Tryd.prog w 0 (fun _ => true) true m 35 [c18, c19, c20, c21, c22] = some zr := fr
  clear fc fr hf
  obtain ⟨us, k, hu, _, hul, hg⟩ := trod_fields2 Tryd.underlying31 fc'
  obtain ⟨v0, ev0, g0⟩ := hg 0 _ 1 rfl (by kernel_rfl)
  obtain ⟨v1, ev1, g1⟩ := hg 1 _ 1 rfl (by kernel_rfl)
  obtain ⟨v2, ev2, g2⟩ := hg 2 _ 1 rfl (by kernel_rfl)
  obtain ⟨v3, ev3, g3⟩ := hg 3 _ 1 rfl (by kernel_rfl)
  obtain ⟨v4, ev4, g4⟩ := hg 4 _ 1 rfl (by kernel_rfl)
  obtain ⟨v5, ev5, g5⟩ := hg 5 _ 1 rfl (by kernel_rfl)
  obtain ⟨v6, ev6, g6⟩ := hg 6 _ 1 rfl (by kernel_rfl)
  obtain ⟨v7, ev7, g7⟩ := hg 7 _ 1 rfl (by kernel_rfl)
  obtain ⟨v8, ev8, g8⟩ := hg 8 _ 4 rfl (by kernel_rfl)
  obtain ⟨v9, ev9, g9⟩ := hg 9 _ 4 rfl (by kernel_rfl)
  obtain ⟨v10, ev10, g10⟩ := hg 10 _ 1 rfl (by kernel_rfl)
  obtain ⟨v11, ev11, g11⟩ := hg 11 _ 1 rfl (by kernel_rfl)
  obtain ⟨z0, z1, z2, z3, z4, z5, z6, z7, z8, z9, z10, z11, rfl⟩ := twelve_of (hul.trans (by kernel_rfl))
  simp at ev0 ev1 ev2 ev3 ev4 ev5 ev6 ev7 ev8 ev9 ev10 ev11
  subst ev0 ev1 ev2 ev3 ev4 ev5 ev6 ev7 ev8 ev9 ev10 ev11
  obtain ⟨ts, j, ht, _, htl, hr⟩ := trod_fields Tryd.underlying35 fr'
  obtain ⟨r0, er0, q0⟩ := hr 0 _ c18 rfl (by kernel_rfl) rfl
  obtain ⟨r1, er1, q1⟩ := hr 1 _ c19 rfl (by kernel_rfl) rfl
  obtain ⟨r2, er2, q2⟩ := hr 2 _ c20 rfl (by kernel_rfl) rfl
  obtain ⟨r3, er3, q3⟩ := hr 3 _ c21 rfl (by kernel_rfl) rfl
  obtain ⟨r4, er4, q4⟩ := hr 4 _ c22 rfl (by kernel_rfl) rfl
  obtain ⟨x0, x1, x2, x3, x4, rfl⟩ := five_of (htl.trans (by kernel_rfl))
  simp at er0 er1 er2 er3 er4
  subst er0 er1 er2 er3 er4
  replace g0 : DataW.trod enc Tryd.prog w 0 (fun _ => true) true k 5 [c0] = some z0 := g0
  replace g1 : DataW.trod enc Tryd.prog w 0 (fun _ => true) true k 9 [c1] = some z1 := g1
  replace g2 : DataW.trod enc Tryd.prog w 0 (fun _ => true) true k 9 [c2] = some z2 := g2
  replace g3 : DataW.trod enc Tryd.prog w 0 (fun _ => true) true k 9 [c3] = some z3 := g3
  replace g4 : DataW.trod enc Tryd.prog w 0 (fun _ => true) true k 9 [c4] = some z4 := g4
  replace g5 : DataW.trod enc Tryd.prog w 0 (fun _ => true) true k 4 [c5] = some z5 := g5
  replace g6 : DataW.trod enc Tryd.prog w 0 (fun _ => true) true k 9 [c6] = some z6 := g6
  replace g7 : DataW.trod enc Tryd.prog w 0 (fun _ => true) true k 26 [c7] = some z7 := g7
  replace g8 : DataW.trod enc Tryd.prog w 0 (fun _ => true) true k 29 [c8, c9, c10, c11] = some z8 := g8
  replace g9 : DataW.trod enc Tryd.prog w 0 (fun _ => true) true k 29 [c12, c13, c14, c15] = some z9 := g9
  replace g10 : DataW.trod enc Tryd.prog w 0 (fun _ => true) true k 4 [c16] = some z10 := g10
  replace g11 : DataW.trod enc Tryd.prog w 0 (fun _ => true) true k 3 [c17] = some z11 := g11
  obtain ⟨u0, h0, rfl, _⟩ := DataW.trod_int Tryd.underlying5 g0
  cases h0
  obtain ⟨u1, h1, rfl, _⟩ := DataW.trod_string Tryd.underlying9 g1
  cases h1
  obtain ⟨u2, h2, rfl, _⟩ := DataW.trod_string Tryd.underlying9 g2
  cases h2
  obtain ⟨u3, h3, rfl, _⟩ := DataW.trod_string Tryd.underlying9 g3
  cases h3
  obtain ⟨u4, h4, rfl, _⟩ := DataW.trod_string Tryd.underlying9 g4
  cases h4
  obtain ⟨u5, h5, rfl⟩ := DataW.trod_bool Tryd.underlying4 g5
  cases h5
  obtain ⟨u6, h6, rfl, _⟩ := DataW.trod_string Tryd.underlying9 g6
  cases h6
  obtain ⟨u7, h7, rfl, wn7⟩ := DataW.trod_int Tryd.underlying26 g7
  cases h7
  obtain ⟨u10, h10, rfl⟩ := DataW.trod_bool Tryd.underlying4 g10
  cases h10
  obtain ⟨u11, h11, rfl, _⟩ := DataW.trod_int Tryd.underlying3 g11
  cases h11
  obtain ⟨env, ee, de⟩ := ch_elem g8
  obtain ⟨dat, ed, dd⟩ := ch_elem g9
  obtain ⟨u18, h18, rfl, _⟩ := DataW.trod_int Tryd.underlying32 q0
  obtain ⟨u19, h19, rfl, _⟩ := DataW.trod_string Tryd.underlying9 q1
  have hvn := names_elem q2
  obtain ⟨u21, h21, rfl, w21⟩ := DataW.trod_int Tryd.underlying26 q3
  obtain ⟨u22, h22, rfl, _⟩ := DataW.trod_int Tryd.underlying3 q4
  cases h18; cases h19; cases h21; cases h22
  simp only [List.cons.injEq, and_true] at ee ed
  obtain ⟨rfl, rfl, rfl, rfl⟩ := ee
  obtain ⟨rfl, rfl, rfl, rfl⟩ := ed
  obtain ⟨nn, rfl⟩ := nat_of_u64 wn7
  refine ⟨(⟨u0, u1, u2, u3, u4, u5, u6, nn, env, dat, u10, u11, u18, u19, c20, u21, u22⟩, x2.1), rfl, ?_, hvn⟩
  show d = _
  rw [show d = _ from hx]
  simp only [List.map_cons, List.map_nil, hu, ht, de, dd]
  rfl
end
theorem rows_map {α β : Type} {size : Nat} {f : β → List Value} {g : α → β} {w : World} {v : Value} {l : List α} (h : rowsOf size (fun a => f (g a)) w v l) : rowsOf size f w v (l.map g) := by
  obtain ⟨A, c, rfl, h1, h2, h3⟩ := h
  refine ⟨A, c, by rw [List.length_map], by rwa [List.length_map], by rwa [List.length_map], fun h0 => ?_⟩
  rw [List.length_map] at h0
  obtain ⟨b, off, e, hc⟩ := h3 h0
  refine ⟨b, off, e, fun i y hy j u hu => ?_⟩
  rw [List.getElem?_map] at hy
  cases hx : l[i]? with
  | none => rw [hx] at hy; cases hy
  | some x => rw [hx] at hy; cases hy; exact hc i x hx j u hu
end Go.Proofs.YtgacfkenndhcnaaDoor
