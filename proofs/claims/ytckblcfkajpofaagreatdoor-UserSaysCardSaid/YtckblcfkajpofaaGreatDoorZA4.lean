/- term: bytes of a node, leaf. term: read. term: whole, Kind, of, and what makes terms. term: of, OfText, OfAtom, OfPair, OfHash, OfPublic, Sign, Box. draw: Mix, draws of a seed, Secret. regress: Back, State. term: Parts, under, Unbox, Verify. -/
import Derived.Test.YtckblcfkajpofaaGreatDoorZA3
import Derived.Test.YtckblcfkajpofaaGreatDoorZA1
import Derived.Laws.Bits64
namespace Go.Proofs.YtckblcfkajpofaaGreatDoor
open Go.RowKit
set_option linter.unusedVariables false
set_option linter.unusedSimpArgs false

/-- a node, as a value; vl: its parts -/
def nodeV (raw : ByteArray) (t : Tm) (vl : Value) : Value := match t with
  | .atom n => .iface 343 (.agg #[.string raw, .int .u64 n])
  | .text s => .iface 345 (.agg #[.string raw, .string (mkB s)])
  | _ => .iface 267 (.agg #[.string raw, vl])
theorem numbytes_calls (raw : ByteArray) (n : Int) (w : World) : Calls Tryz.prog 359 #[.agg #[.string raw, .int .u64 n]] w fun e w' => e = .returned (.string raw) ∧ Below w.heap.size w w' := by
  go_enter Tryz.func359, Tryz.ntmps359
  go_wp2
  go_ret
  exact ⟨rfl, (Below.refl _ w).alloc (Nat.le_refl _) _⟩
theorem wordbytes_calls (raw s : ByteArray) (w : World) : Calls Tryz.prog 360 #[.agg #[.string raw, .string s]] w fun e w' => e = .returned (.string raw) ∧ Below w.heap.size w w' := by
  go_enter Tryz.func360, Tryz.ntmps360
  go_wp2
  go_ret
  exact ⟨rfl, (Below.refl _ w).alloc (Nat.le_refl _) _⟩
theorem partbytes_calls (raw : ByteArray) (A : Option Addr) (n c : Nat) (w : World) : Calls Tryz.prog 357 #[.agg #[.string raw, .slice A n c]] w fun e w' => e = .returned (.string raw) ∧ Below w.heap.size w w' := by
  go_enter Tryz.func357, Tryz.ntmps357
  go_wp2
  go_ret
  exact ⟨rfl, (Below.refl _ w).alloc (Nat.le_refl _) _⟩

theorem first_of {s : ByteArray} {c : UInt8} {r : List UInt8} (hl : s.data.toList = c :: r) (h0 : 0 < s.size) : s[0]'h0 = c := by
  have : (s.data.toList)[0]? = some (s[0]'h0) := by
    rw [Array.getElem?_toList]; exact Array.getElem?_eq_getElem h0
  rw [hl] at this; cases this; rfl
theorem tail_of {s : ByteArray} {c : UInt8} {r : List UInt8} (hl : s.data.toList = c :: r) : s.extract 1 s.size = mkB r := by
  have hsz : s.size = r.length + 1 := by have := list_size s; rw [hl] at this; exact this.symm
  rw [← list_mkB (s.extract 1 s.size), Lib.extract_data, hl]
  congr 1
  simp [hsz]
theorem front_of {s : ByteArray} {a b : List UInt8} (hl : s.data.toList = a ++ b) : s.extract 0 a.length = mkB a := by
  rw [← list_mkB (s.extract 0 a.length), Lib.extract_data, hl]
  congr 1
  simp
theorem back_of {s : ByteArray} {a b : List UInt8} (hl : s.data.toList = a ++ b) : s.extract a.length s.size = mkB b := by
  have hsz : s.size = a.length + b.length := by have := list_size s; rw [hl] at this; simpa using this.symm
  rw [← list_mkB (s.extract a.length s.size), Lib.extract_data, hl]
  congr 1
  rw [List.drop_left, hsz]
  exact List.take_of_length_le (by omega)
def leafV (c : UInt8) (r : List UInt8) : Value := if c = 97 then (match wtake r with
    | some (n, _) => nodeV (mkB (97 :: wput n)) (.atom n) undef
    | none => .nilIface) else match wtakeText r 4000 with
    | .ok (t, _) => nodeV (mkB (116 :: wtext t)) (.text t) undef
    | .error _ => .nilIface
theorem leafV_none {r : List UInt8} (h : wtake r = none) : leafV 97 r = .nilIface := by unfold leafV; rw [if_pos rfl, h]
theorem leafV_atom {r q : List UInt8} {n : Nat} (h : wtake r = some (n, q)) : leafV 97 r = .iface 343 (.agg #[.string (mkB (97 :: wput n)), .int .u64 n]) := by unfold leafV; rw [if_pos rfl, h]; rfl
theorem leafV_err {r : List UInt8} {e : Int} (h : wtakeText r 4000 = .error e) : leafV 116 r = .nilIface := by unfold leafV; rw [if_neg (by decide), h]
theorem leafV_text {r q t : List UInt8} (h : wtakeText r 4000 = .ok (t, q)) : leafV 116 r = .iface 345 (.agg #[.string (mkB (116 :: wtext t)), .string (mkB t)]) := by unfold leafV; rw [if_neg (by decide), h]; rfl
set_option maxRecDepth 100000 in
set_option maxHeartbeats 1000000 in
theorem leaf_atom_calls (s : ByteArray) (r : List UInt8) (w : World) (hl : s.data.toList = 97 :: r) (hs : s.size ≤ 1000000000) :
    Calls Tryz.prog 322 #[.string s] w fun e w' => e = .returned (leafV 97 r) ∧ Below w.heap.size w w' := by
  have hsz : s.size = r.length + 1 := by have := list_size s; rw [hl] at this; exact this.symm
  have h0 : 0 < s.size := by omega
  have hc0 := first_of hl h0
  have hx := tail_of hl
  obtain ⟨R, hR⟩ : ∃ R, mkB r = R := ⟨_, rfl⟩
  have hRs : R.size = r.length := by rw [← hR]; exact mkB_size r
  have h1 := wtake_calls R w (by omega)
  rw [show toL R = r from by rw [← hR]; exact mkB_list r] at h1
  unfold takeV at h1
  rw [hR, hsz] at hx
  cases ht : wtake r with
  | none =>
    rw [ht] at h1
    have HC := Lib.hid h1
    have HV := Lib.hid (leafV_none ht)
    clear h1 ht hR hl
    go_enter Tryz.func322, Tryz.ntmps322
    go_wp2_with fail
    refine HC.out.mono ?_
    rintro e w1 ⟨rfl, hb⟩
    have HB := Lib.hid hb
    clear hb
    go_wp2_with fail
    go_ret
    exact ⟨by rw [HV.out]; rfl, HB.out⟩
  | some p =>
    obtain ⟨n, q⟩ := p
    rw [ht] at h1
    have hq := (wtake_some ht).1
    have hqs := mkB_size q
    have hlen : r.length = (wput n).length + q.length := by rw [hq]; simp
    have hf := front_of (s := s) (a := 97 :: wput n) (b := q) (by rw [hl, hq]; rfl)
    have HC := Lib.hid h1
    rw [List.length_cons] at hf
    obtain ⟨D, hD⟩ : ∃ D, mkB q = D := ⟨_, rfl⟩
    obtain ⟨E, hE⟩ : ∃ E, mkB (97 :: wput n) = E := ⟨_, rfl⟩
    have HV := Lib.hid (leafV_atom ht)
    simp only [hD] at HC hqs
    rw [hE] at hf HV
    obtain ⟨k, hk⟩ : ∃ k, (wput n).length = k := ⟨_, rfl⟩
    rw [hk] at hlen hf
    have hs1 : (r.length : Int) + 1 - (q.length : Int) = (k : Int) + 1 := by omega
    have hs2 : (k : Int) ≤ (r.length : Int) := by omega
    have hs3 : ((k : Int) + 1).toNat = k + 1 := by omega
    have hs4 : k ≤ r.length := by omega
    clear hlen
    clear h1 ht hR hl hq hD hE hk
    go_enter Tryz.func322, Tryz.ntmps322
    go_wp2_with fail
    refine HC.out.mono ?_
    rintro e w1 ⟨rfl, hb⟩
    have HB := Lib.hid hb
    clear hb
    go_wp2_with fail
    go_ret
    exact ⟨by rw [HV.out]; rfl, HB.out⟩
set_option maxRecDepth 100000 in
set_option maxHeartbeats 1000000 in
theorem leaf_text_calls (s : ByteArray) (r : List UInt8) (w : World) (hl : s.data.toList = 116 :: r) (hs : s.size ≤ 1000000000) :
    Calls Tryz.prog 322 #[.string s] w fun e w' => e = .returned (leafV 116 r) ∧ Below w.heap.size w w' := by
  have hsz : s.size = r.length + 1 := by have := list_size s; rw [hl] at this; exact this.symm
  have h0 : 0 < s.size := by omega
  have hc0 := first_of hl h0
  have hx := tail_of hl
  obtain ⟨R, hR⟩ : ∃ R, mkB r = R := ⟨_, rfl⟩
  have hRs : R.size = r.length := by rw [← hR]; exact mkB_size r
  have h1 := taketext_calls R 4000 w (by omega) (by omega)
  rw [show toL R = r from by rw [← hR]; exact mkB_list r] at h1
  unfold textV at h1
  rw [hR, hsz] at hx
  cases ht : wtakeText r 4000 with
  | error er =>
    rw [ht] at h1
    have HC := Lib.hid h1
    have HV := Lib.hid (leafV_err ht)
    have f1 : (er == 0) = false := by rcases wtakeText_err ht with rfl | rfl <;> rfl
    clear h1 ht hR hl
    go_enter Tryz.func322, Tryz.ntmps322
    go_wp2_with fail
    refine HC.out.mono ?_
    rintro e w1 ⟨rfl, hb⟩
    have HB := Lib.hid hb
    clear hb
    go_wp2_with fail
    go_ret
    exact ⟨by rw [HV.out]; rfl, HB.out⟩
  | ok p =>
    obtain ⟨t, q⟩ := p
    rw [ht] at h1
    have hq := (wtakeText_ok ht).1
    have hqs := mkB_size q
    have hlen : r.length = (wtext t).length + q.length := by rw [hq]; simp
    have hf := front_of (s := s) (a := 116 :: wtext t) (b := q) (by rw [hl, hq]; rfl)
    have HC := Lib.hid h1
    rw [List.length_cons] at hf
    obtain ⟨D, hD⟩ : ∃ D, mkB q = D := ⟨_, rfl⟩
    obtain ⟨E, hE⟩ : ∃ E, mkB (116 :: wtext t) = E := ⟨_, rfl⟩
    obtain ⟨T, hT⟩ : ∃ T, mkB t = T := ⟨_, rfl⟩
    have HV := Lib.hid (leafV_text ht)
    simp only [hD, hT] at HC hqs
    rw [hE, hT] at HV
    rw [hE] at hf
    obtain ⟨k, hk⟩ : ∃ k, (wtext t).length = k := ⟨_, rfl⟩
    rw [hk] at hlen hf
    have hs1 : (r.length : Int) + 1 - (q.length : Int) = (k : Int) + 1 := by omega
    have hs2 : (k : Int) ≤ (r.length : Int) := by omega
    have hs3 : ((k : Int) + 1).toNat = k + 1 := by omega
    have hs4 : k ≤ r.length := by omega
    clear hlen
    clear h1 ht hR hl hq hD hE hk hT
    go_enter Tryz.func322, Tryz.ntmps322
    go_wp2_with fail
    refine HC.out.mono ?_
    rintro e w1 ⟨rfl, hb⟩
    have HB := Lib.hid hb
    clear hb
    go_wp2_with fail
    go_ret
    exact ⟨by rw [HV.out]; rfl, HB.out⟩
end Go.Proofs.YtckblcfkajpofaaGreatDoor
namespace Go.Proofs.YtckblcfkajpofaaGreatDoor
open Go.RowKit
set_option linter.unusedVariables false
set_option linter.unusedSimpArgs false

/-- what read hands back -/
def ReadOut (w : World) (s : List UInt8) (d : Nat) (e : Ending) (w' : World) : Prop :=
  (match parse d s with
    | none => e = .returned .nilIface
    | some (t, _) => ∃ vl, e = .returned (nodeV (mkB t.enc) t vl) ∧ strs w' vl (t.parts.map mkB)) ∧ Below w.heap.size w w'
def parseN (d : Nat) : Nat → List UInt8 → Option (List Tm × List UInt8)
  | 0, s => some ([], s)
  | n + 1, s => match parse d s with
    | none => none
    | some (a, r) => match parseN d n r with
      | none => none
      | some (l, q) => some (a :: l, q)
def manyOf (c : UInt8) : Nat := if isOne c then 1 else 2
theorem parseN_succ (d n : Nat) (s : List UInt8) : parseN d (n + 1) s = match parse d s with
    | none => none
    | some (a, r) => match parseN d n r with
      | none => none
      | some (l, q) => some (a :: l, q) := rfl
theorem parseN_snoc {d : Nat} : ∀ {k : Nat} {s q r : List UInt8} {l : List Tm} {a : Tm}, parseN d k s = some (l, q) → parse d q = some (a, r) → parseN d (k + 1) s = some (l ++ [a], r)
  | 0, s, q, r, l, a, h, ha => by cases h; rw [parseN_succ, ha]; rfl
  | k + 1, s, q, r, l, a, h, ha => by
    rw [parseN_succ] at h ⊢
    cases hs : parse d s with
    | none => rw [hs] at h; cases h
    | some p =>
      obtain ⟨b, s'⟩ := p
      rw [hs] at h
      simp only at h ⊢
      cases hk : parseN d k s' with
      | none => rw [hk] at h; cases h
      | some p2 =>
        obtain ⟨m, q'⟩ := p2
        rw [hk] at h; cases h
        rw [parseN_snoc hk ha]; rfl
theorem parseN_stop {d : Nat} : ∀ {k n : Nat} {s q : List UInt8} {l : List Tm}, parseN d k s = some (l, q) → parse d q = none → k < n → parseN d n s = none
  | 0, n, s, q, l, h, ha, hn => by
    cases h
    obtain ⟨m, rfl⟩ : ∃ m, n = m + 1 := ⟨n - 1, by omega⟩
    rw [parseN_succ, ha]
  | k + 1, n, s, q, l, h, ha, hn => by
    obtain ⟨m, rfl⟩ : ∃ m, n = m + 1 := ⟨n - 1, by omega⟩
    rw [parseN_succ] at h ⊢
    cases hs : parse d s with
    | none => rfl
    | some p =>
      obtain ⟨b, s'⟩ := p
      rw [hs] at h
      simp only at h ⊢
      cases hk : parseN d k s' with
      | none => rw [hk] at h; cases h
      | some p2 =>
        obtain ⟨m', q'⟩ := p2
        rw [hk] at h; cases h
        rw [parseN_stop hk ha (by omega)]
theorem parseN_some {d : Nat} : ∀ {k : Nat} {s q : List UInt8} {l : List Tm}, parseN d k s = some (l, q) → s = l.flatMap Tm.enc ++ q ∧ l.length = k
  | 0, s, q, l, h => by cases h; simp
  | k + 1, s, q, l, h => by
    rw [parseN_succ] at h
    cases hs : parse d s with
    | none => rw [hs] at h; cases h
    | some p =>
      obtain ⟨b, s'⟩ := p
      rw [hs] at h
      simp only at h
      cases hk : parseN d k s' with
      | none => rw [hk] at h; cases h
      | some p2 =>
        obtain ⟨m', q'⟩ := p2
        rw [hk] at h; cases h
        obtain ⟨e1, e2⟩ := parseN_some hk
        have e3 := (parse_some hs).1
        exact ⟨by rw [e3, e1]; simp, by simp [e2]⟩
/-- parts are read one by one -/
theorem parse_parts {d : Nat} {c : UInt8} {r : List UInt8} (h : isOne c = true ∨ isTwo c = true) : parse (d + 1) (c :: r) = match parseN d (manyOf c) r with
    | some ([a], q) => some (.one c a, q)
    | some ([a, b], q) => if c = 98 ∧ a.kind ≠ 117 then none else some (.two c a b, q)
    | _ => none := by
  have h1 : c ≠ 97 := by rcases h with h | h; exact (one_ne h).1; exact (two_ne h).1
  have h2 : c ≠ 116 := by rcases h with h | h; exact (one_ne h).2; exact (two_ne h).2.1
  conv => lhs; unfold parse
  rw [if_neg h1, if_neg h2]
  rcases h with h | h
  · rw [if_pos h]
    unfold manyOf
    rw [if_pos h, parseN_succ]
    cases parse d r with
    | none => rfl
    | some p => obtain ⟨a, q⟩ := p; rfl
  · have h3 := (two_ne h).2.2
    rw [h3, if_neg (by simp), if_pos h]
    unfold manyOf
    rw [h3, if_neg (by simp), parseN_succ]
    cases parse d r with
    | none => rfl
    | some p =>
      obtain ⟨a, q⟩ := p
      simp only
      rw [parseN_succ]
      cases parse d q with
      | none => rfl
      | some p2 => obtain ⟨b, q2⟩ := p2; rfl
/-- a node is an interface value; its bytes are its own -/
theorem node_iface (raw : ByteArray) (t : Tm) {w : World} {vl : Value} (hv : strs w vl (t.parts.map mkB)) : ∃ T g, nodeV raw t vl = .iface T g ∧ (∀ w, (binOp .eql 256 (.iface T g) .nilIface).run Tryz.prog w = .ok (.bool false) w) ∧
    ∃ K : FuncId, (∀ f w, (method (f + 1) T g "letterlock/term.bytes").run Tryz.prog w = .ok (K, g) w) ∧ (∀ w, (callFunc K #[g]).run Tryz.prog w = .ok (.enter K #[g]) w) ∧ ∀ w, Calls Tryz.prog K #[g] w fun e w' => e = .returned (.string raw) ∧ Below w.heap.size w w' := by
  obtain ⟨A, c, rfl, _, _⟩ := hv.form
  cases t with
  | atom n => exact ⟨_, _, rfl, fun _ => by kernel_rfl, _, fun _ _ => by kernel_rfl, fun _ => by kernel_rfl, fun w => numbytes_calls raw n w⟩
  | text s => exact ⟨_, _, rfl, fun _ => by kernel_rfl, _, fun _ _ => by kernel_rfl, fun _ => by kernel_rfl, fun w => wordbytes_calls raw (mkB s) w⟩
  | one k a => exact ⟨_, _, rfl, fun _ => by kernel_rfl, _, fun _ _ => by kernel_rfl, fun _ => by kernel_rfl, fun w => partbytes_calls raw A _ c w⟩
  | two k a b => exact ⟨_, _, rfl, fun _ => by kernel_rfl, _, fun _ _ => by kernel_rfl, fun _ => by kernel_rfl, fun w => partbytes_calls raw A _ c w⟩
set_option maxRecDepth 100000 in
set_option maxHeartbeats 4000000 in
theorem read_104_calls (d : Nat) (IH : Hid (∀ (s : ByteArray) (w : World), s.size ≤ 1000000000 → d ≤ 40 → Calls Tryz.prog 290 #[.string s, .int .i64 d] w (ReadOut w (toL s) d))) (s : ByteArray) (r : List UInt8) (w : World) (hl : s.data.toList = 104 :: r) (hs : s.size ≤ 1000000000) (hd : d + 1 ≤ 40) :
    Calls Tryz.prog 290 #[.string s, .int .i64 ((d + 1 : Nat) : Int)] w (ReadOut w (104 :: r) (d + 1)) := by
  have hsz : s.size = r.length + 1 := by have := list_size s; rw [hl] at this; exact this.symm
  have h0 : 0 < s.size := by omega
  have hc0 := first_of hl h0
  have hne : s.toList.isEmpty = false := by rw [ByteArray.toList_eq, hl]; rfl
  have hPP := Lib.hid (parse_parts (d := d) (c := 104) (r := r) (Or.inl rfl))
  rw [show ((d + 1 : Nat) : Int) = (d : Int) + 1 from rfl]
  have hd1 : ((d : Int) + 1 == 0) = false := by simp; omega
  go_enter Tryz.func290, Tryz.ntmps290
  go_wp2_with fail
  obtain ⟨B, hB⟩ : ∃ B, w.heap.size = B := ⟨_, rfl⟩
  have HB := Lib.hid hB
  rw [hB]
  clear hB
  go_loopw [7, 8, 32] (fun at_ x i wr => ∃ (k : Nat) (ts : List Tm) (rest : List UInt8) (vl : Value), k ≤ 1 ∧ i = .int .i64 k ∧ at_ = .int .i64 (1 + ((ts.flatMap Tm.enc).length : Int)) ∧ Hid (parseN d k r = some (ts, rest)) ∧ Hid (wr.heap[B]? = some (.cells #[.string ⟨#[]⟩, vl] 267 (0, 0)) ∧ wr.ownsRow (B + 1) 9 1 vl (ts.map fun x => mkB x.enc).length (strV (ts.map fun x => mkB x.enc)) ∧ Below w.heap.size w wr)) (fun _ _ i _ => 1 - (intOf i).toNat)
  case atStart => exact ⟨0, [], r, .slice none 0 0, Nat.zero_le _, rfl, rfl, rfl, by rw [get_alloc, if_pos HB.out.symm], own_nil _ _ _ _, (Below.refl _ w).alloc (Nat.le_refl _) _⟩
  case round =>
    obtain ⟨k, ts, rest, vl, hk, rfl, rfl, HP, HO⟩ := hrel
    have hps := (parseN_some HP.out).1
    by_cases hlt : k < 1
    · have hat : s.extract ((104 :: ts.flatMap Tm.enc).length) s.size = mkB rest := back_of (by rw [hl, hps]; rfl)
      have hle : (ts.flatMap Tm.enc).length ≤ r.length := by rw [hps]; simp
      rw [List.length_cons, hsz] at hat
      obtain ⟨n, hn⟩ : ∃ n, (ts.flatMap Tm.enc).length = n := ⟨_, rfl⟩
      rw [hn] at hat hle ⊢
      have hRs : (mkB rest).size ≤ 1000000000 := by
        rw [mkB_size]; have : r.length = n + rest.length := by rw [hps]; simp [hn]
        omega
      have h3 := IH.out (mkB rest) wr hRs (by omega)
      rw [show toL (mkB rest) = rest from mkB_list rest] at h3
      obtain ⟨R, hR⟩ : ∃ R, mkB rest = R := ⟨_, rfl⟩
      rw [hR] at h3 hat
      have hs3 : (1 + (n : Int)).toNat = n + 1 := by omega
      have hs5 : (d : Int) + 1 - 1 = (d : Int) := by omega
      have HL := Lib.hid hl
      have HPS := Lib.hid hps
      cases hpd : parse d rest with
      | none =>
        unfold ReadOut at h3
        rw [hpd] at h3
        have HC := Lib.hid h3
        have HNO := Lib.hid (parseN_stop HP.out hpd hlt)
        clear h3 hl hps hR hRs hn hpd
        have HX : Hid (∀ e w', (e = .returned .nilIface ∧ Below w.heap.size w w') → ReadOut w (104 :: r) (d + 1) e w') := Lib.hid (by
          rintro e w' ⟨rfl, hb⟩
          unfold ReadOut
          rw [hPP.out, show manyOf 104 = 1 from rfl, HNO.out]
          exact ⟨rfl, hb⟩)
        go_wp2_with fail
        refine HC.out.mono ?_
        rintro e w1 ⟨rfl, hb⟩
        have HB2 := Lib.hid (HO.out.2.2.trans (hb.mono HO.out.2.2.size))
        clear hb
        go_wp2_with fail
        go_ret
        exact HX.out _ _ ⟨rfl, HB2.out⟩
      | some p =>
        obtain ⟨a, q⟩ := p
        unfold ReadOut at h3
        rw [hpd] at h3
        have HC := Lib.hid h3
        have HN := Lib.hid (parseN_snoc HP.out hpd)
        have HPD := Lib.hid hpd
        clear h3 hR hRs
        have HLL := Lib.hid hl
        have HPS2 := Lib.hid hps
        have HNN := Lib.hid hn
        clear hpd hl hps hn
        go_wp2_with fail
        refine HC.out.mono ?_
        rintro e w1 ⟨⟨vl2, rfl, hv2⟩, hb⟩
        obtain ⟨T, g, hT, hEq, K, hM, hCF, hCC⟩ := node_iface (mkB a.enc) a hv2
        rw [hT]
        have HBB := Lib.hid hb
        have HCC := Lib.hid hCC
        have hc1 : w1.cell? ⟨B, 1, none⟩ = some vl := (Keep.of_below hb : Keep (fun _ => False) wr w1).cell (by rw [cell_of_row _ _ _ _ _ _ HO.out.1]; rfl) fun e => e
        clear hb hT hv2 hCC
        go_wp2_with fail
        refine wp_region_G (fun w' => w'.cell? ⟨B, 1, none⟩ = some vl) [7] (by kernel_rfl) ?_
        have hS : (fun w' : World => w'.cell? ⟨B, 1, none⟩ = some vl) w1.drew := by dsimp only; go_simp
        refine wpAnyG_pure (i := 0) (v := ?va0) at0 (by kernel_rfl) (fun _ _ _ h => h) (Or.inl ⟨by rfl, ?ha0⟩) (Or.inr (by assumption)) ?ra0
        case ha0 => (intro w hSw; (try dsimp only at hSw); go_simp; try with_reducible rfl)
        case' ra0 => skip
        try simp only [Act.put, List.setIfInBounds_toArray, List.set_cons_zero, List.set_cons_succ]
        refine wpAnyG_take (ws := [0,1,2,3,4,5]) (i := 1) (v := ?va1) at1 (by kernel_rfl) (fun _ _ _ h => h) (Or.inl ⟨by rfl, ?ha1⟩) (by assumption) ?ra1
        case ha1 => (intro w hSw; (try dsimp only at hSw); go_simp; try with_reducible rfl)
        case' ra1 => skip
        try simp only [Act.put, List.setIfInBounds_toArray, List.set_cons_zero, List.set_cons_succ]
        refine wpAnyG_pure (i := 2) (v := ?va2) at2 (by kernel_rfl) (fun _ _ _ h => h) (Or.inl ⟨by rfl, ?ha2⟩) (Or.inr (by assumption)) ?ra2
        case ha2 => (intro w hSw; (try dsimp only at hSw); go_simp; try with_reducible rfl)
        case' ra2 => skip
        try simp only [Act.put, List.setIfInBounds_toArray, List.set_cons_zero, List.set_cons_succ]
        refine wpAnyG_one 3 at3 (by kernel_rfl) (fun Kn hK => ?_)
        go_simp
        refine (HCC.out _).mono ?_
        rintro e w2 ⟨rfl, hb2⟩
        have hS2 : w2.cell? ⟨B, 1, none⟩ = some vl := (Keep.of_below hb2 : Keep (fun _ => False) _ w2).cell hS fun e => e
        have hb12 : Below wr.heap.size wr w2 := HBB.out.drew.trans (hb2.mono HBB.out.drew.size)
        have hown := own_below HO.out.2.1 hb12
        have hbel2 : Below w.heap.size w w2 := HO.out.2.2.trans (hb12.mono HO.out.2.2.size)
        have hheap : w2.heap[B]? = some (.cells #[.string ⟨#[]⟩, vl] 267 (0, 0)) := (Keep.of_below hb12 : Keep (fun _ => False) wr w2).at HO.out.1 fun e => e
        have hBlt : B < w2.heap.size := (Array.getElem?_eq_some_iff.1 hheap).1
        obtain ⟨p', w3, hrun, ho3, hk3⟩ := append_str hown (mkB a.enc) (by rw [List.length_map, (parseN_some HP.out).2]; omega) hBlt
        obtain ⟨A', c', rfl, _, _⟩ := own_slice ho3
        have hvB : ¬ (vl.ownBlock = some B) := fun e => by have := own_new hown B e; omega
        have hheap3 := hk3.at hheap hvB
        have hS3 : w3.cell? ⟨B, 1, none⟩ = some vl := by
          rw [cell_of_row _ _ _ _ _ _ hheap3]; rfl
        have hfz3 := frozen_of_row hheap3 1
        have hHX : Hid ((w3.setCell ⟨B, 1, none⟩ (.slice A' (List.map (fun x => mkB x.enc) ts ++ [mkB a.enc]).length c')).heap[B]? = some (.cells #[.string ⟨#[]⟩, .slice A' (List.map (fun x => mkB x.enc) ts ++ [mkB a.enc]).length c'] 267 (0, 0)) ∧ (w3.setCell ⟨B, 1, none⟩ (.slice A' (List.map (fun x => mkB x.enc) ts ++ [mkB a.enc]).length c')).ownsRow (B + 1) 9 1 (.slice A' (List.map (fun x => mkB x.enc) ts ++ [mkB a.enc]).length c') ((ts ++ [a]).map fun x => mkB x.enc).length (strV ((ts ++ [a]).map fun x => mkB x.enc)) ∧ Below w.heap.size w (w3.setCell ⟨B, 1, none⟩ (.slice A' (List.map (fun x => mkB x.enc) ts ++ [mkB a.enc]).length c'))) := by
          rw [List.map_append]
          refine ⟨set_at hheap3 1 _, ?_, ?_⟩
          · exact Keep.own (F := fun i => i = B) (Keep.setCell (fun i => i = B) w3 (p := ⟨B, 1, none⟩) rfl _) ho3 fun q e1 e2 => by have := own_new ho3 q e1; omega
          · exact (((Keep.of_below hbel2 : Keep (fun q => w.heap.size ≤ q) w w2).same (hk3.mono fun q e1 => by have := own_new hown q e1; have := HB.out; omega)).same (Keep.setCell (fun q => w.heap.size ≤ q) w3 (p := ⟨B, 1, none⟩) (Nat.le_of_eq HB.out) _)).new
        obtain ⟨pl, hpl⟩ : ∃ pl, (List.map (fun x => mkB x.enc) ts ++ [mkB a.enc]).length = pl := ⟨_, rfl⟩
        rw [hpl] at hrun hHX
        clear hb2 hb12 hown hbel2 hheap hBlt hvB hheap3 ho3 hk3 hpl
        refine hK.out _ _ (Or.inr hS2) ?_
        clear hK Kn
        try simp only [Act.put, List.setIfInBounds_toArray, List.set_cons_zero, List.set_cons_succ]
        refine wpAnyG_one 4 at4 (by kernel_rfl) (fun Kn hK => ?_)
        go_simp
        refine hK.out _ _ (Or.inr ((Keep.alloc (fun _ => False) w2 _).cell hS2 fun e => e)) ?_
        clear hK Kn
        try simp only [Act.put, List.setIfInBounds_toArray, List.set_cons_zero, List.set_cons_succ]
        refine wpAnyG_one 5 at5 (by kernel_rfl) (fun Kn hK => ?_)
        refine step_append_run rfl _ _ _ rfl rfl rfl hrun ?_
        refine hK.out _ _ (Or.inr hS3) ?_
        clear hK Kn hrun
        try simp only [Act.put, List.setIfInBounds_toArray, List.set_cons_zero, List.set_cons_succ]
        refine wpAnyG_pure (i := 6) (v := ?vb6) at6 (by kernel_rfl) (fun _ _ _ h => h) (Or.inl ⟨by rfl, ?hb6⟩) (Or.inr (by assumption)) ?rb6
        case hb6 => (intro w hSw; (try dsimp only at hSw); go_simp; try with_reducible rfl)
        case' rb6 => skip
        try simp only [Act.put, List.setIfInBounds_toArray, List.set_cons_zero, List.set_cons_succ]
        refine wpAnyG_one 7 at7 (by kernel_rfl) (fun Kn hK => ?_)
        go_simp
        refine hK.out _ _ (Or.inl (by kernel_rfl)) ?_
        clear hK Kn
        refine wpAnyG_done (by kernel_rfl) ?_
        have hsz2 := mkB_size a.enc
        obtain ⟨la, hla⟩ : ∃ la, a.enc.length = la := ⟨_, rfl⟩
        have HLA := Lib.hid hla
        rw [hla] at hsz2
        have hla2 : la ≤ 1000000000 := by
          have e2 := (parse_some HPD.out).1
          have : r.length = n + rest.length := by rw [HPS2.out]; simp [HNN.out]
          rw [e2, List.length_append, hla] at this
          omega
        clear hS hS2 hS3 hfz3 hc1 hla
        go_wp2_with fail
        refine (HCC.out _).mono ?_
        rintro e w4 ⟨rfl, hb4⟩
        have HH4 : Hid (w4.heap[B]? = some (.cells #[.string ⟨#[]⟩, .slice A' pl c'] 267 (0, 0)) ∧ w4.ownsRow (B + 1) 9 1 (.slice A' pl c') ((ts ++ [a]).map fun x => mkB x.enc).length (strV ((ts ++ [a]).map fun x => mkB x.enc)) ∧ Below w.heap.size w w4) :=
          Lib.hid ⟨(Keep.of_below hb4 : Keep (fun _ => False) _ w4).at hHX.out.1 fun e => e, own_below hHX.out.2.1 hb4, hHX.out.2.2.trans (hb4.mono hHX.out.2.2.size)⟩
        clear hb4 hHX
        go_wp2_with fail
        go_roundw
        case rel =>
          refine ⟨k + 1, ts ++ [a], q, .slice A' pl c', by omega, by go_num, ?_, HN, HH4⟩
          rw [List.flatMap_append, List.length_append, HNN.out]
          simp [HLA.out]
          omega
        case measure => simp [intOf]; omega
    · obtain rfl : k = 1 := by omega
      have hlen : ts.length = 1 := (parseN_some HP.out).2
      obtain ⟨a, rfl⟩ : ∃ a, ts = [a] := List.length_eq_one_iff.1 hlen
      have hfl : ([a].flatMap Tm.enc) = a.enc := by simp
      have hat : s.extract 0 ((104 :: a.enc).length) = mkB (104 :: a.enc) := front_of (b := rest) (by rw [hl, hps]; simp)
      have hle : a.enc.length ≤ r.length := by rw [hps]; simp
      rw [List.length_cons] at hat
      rw [hfl]
      obtain ⟨n, hn⟩ : ∃ n, a.enc.length = n := ⟨_, rfl⟩
      rw [hn] at hat hle ⊢
      obtain ⟨E, hE⟩ : ∃ E, mkB (104 :: a.enc) = E := ⟨_, rfl⟩
      rw [hE] at hat
      have hs3 : (1 + (n : Int)).toNat = n + 1 := by omega
      obtain ⟨A', c', rfl, _, _⟩ := own_slice HO.out.2.1
      obtain ⟨pl, hpl⟩ : ∃ pl, (List.map (fun x => mkB x.enc) [a]).length = pl := ⟨_, rfl⟩
      have hX : ∀ e, e = .returned (.iface 267 (.agg #[.string E, .slice A' (List.map (fun x => mkB x.enc) [a]).length c'])) → ReadOut w (104 :: r) (d + 1) e (wr.setCell ⟨B, 0, none⟩ (.string E)) := by
        rintro e rfl
        unfold ReadOut
        rw [hPP.out, show manyOf 104 = 1 from rfl, HP.out]
        refine ⟨⟨.slice A' (List.map (fun x => mkB x.enc) [a]).length c', ?_, ?_⟩, ?_⟩
        · rw [← hE]; rfl
        · exact strs_own (Keep.own (F := fun i => i = B) (Keep.setCell (fun i => i = B) wr (p := ⟨B, 0, none⟩) rfl _) HO.out.2.1 fun q e1 e2 => by have := own_new HO.out.2.1 q e1; omega)
        · exact ((Keep.of_below HO.out.2.2 : Keep (fun q => w.heap.size ≤ q) w wr).same (Keep.setCell (fun q => w.heap.size ≤ q) wr (p := ⟨B, 0, none⟩) (Nat.le_of_eq HB.out) _)).new
      have hc0' : wr.cell? ⟨B, 0, none⟩ = some (.string ⟨#[]⟩) := by rw [cell_of_row _ _ _ _ _ _ HO.out.1]; rfl
      have hc1' : wr.cell? ⟨B, 1, none⟩ = some (.slice A' (List.map (fun x => mkB x.enc) [a]).length c') := by rw [cell_of_row _ _ _ _ _ _ HO.out.1]; rfl
      have hf0' := frozen_of_row HO.out.1 0
      rw [hpl] at hX hc1'
      have HX := Lib.hid hX
      clear hX hpl hfl hn hE hlen hps hl
      go_wp2_with fail
      go_ret
      exact HX.out _ rfl
set_option maxRecDepth 100000 in
set_option maxHeartbeats 4000000 in
theorem read_117_calls (d : Nat) (IH : Hid (∀ (s : ByteArray) (w : World), s.size ≤ 1000000000 → d ≤ 40 → Calls Tryz.prog 290 #[.string s, .int .i64 d] w (ReadOut w (toL s) d))) (s : ByteArray) (r : List UInt8) (w : World) (hl : s.data.toList = 117 :: r) (hs : s.size ≤ 1000000000) (hd : d + 1 ≤ 40) :
    Calls Tryz.prog 290 #[.string s, .int .i64 ((d + 1 : Nat) : Int)] w (ReadOut w (117 :: r) (d + 1)) := by
  have hsz : s.size = r.length + 1 := by have := list_size s; rw [hl] at this; exact this.symm
  have h0 : 0 < s.size := by omega
  have hc0 := first_of hl h0
  have hne : s.toList.isEmpty = false := by rw [ByteArray.toList_eq, hl]; rfl
  have hPP := Lib.hid (parse_parts (d := d) (c := 117) (r := r) (Or.inl rfl))
  rw [show ((d + 1 : Nat) : Int) = (d : Int) + 1 from rfl]
  have hd1 : ((d : Int) + 1 == 0) = false := by simp; omega
  go_enter Tryz.func290, Tryz.ntmps290
  go_wp2_with fail
  obtain ⟨B, hB⟩ : ∃ B, w.heap.size = B := ⟨_, rfl⟩
  have HB := Lib.hid hB
  rw [hB]
  clear hB
  go_loopw [7, 8, 32] (fun at_ x i wr => ∃ (k : Nat) (ts : List Tm) (rest : List UInt8) (vl : Value), k ≤ 1 ∧ i = .int .i64 k ∧ at_ = .int .i64 (1 + ((ts.flatMap Tm.enc).length : Int)) ∧ Hid (parseN d k r = some (ts, rest)) ∧ Hid (wr.heap[B]? = some (.cells #[.string ⟨#[]⟩, vl] 267 (0, 0)) ∧ wr.ownsRow (B + 1) 9 1 vl (ts.map fun x => mkB x.enc).length (strV (ts.map fun x => mkB x.enc)) ∧ Below w.heap.size w wr)) (fun _ _ i _ => 1 - (intOf i).toNat)
  case atStart => exact ⟨0, [], r, .slice none 0 0, Nat.zero_le _, rfl, rfl, rfl, by rw [get_alloc, if_pos HB.out.symm], own_nil _ _ _ _, (Below.refl _ w).alloc (Nat.le_refl _) _⟩
  case round =>
    obtain ⟨k, ts, rest, vl, hk, rfl, rfl, HP, HO⟩ := hrel
    have hps := (parseN_some HP.out).1
    by_cases hlt : k < 1
    · have hat : s.extract ((117 :: ts.flatMap Tm.enc).length) s.size = mkB rest := back_of (by rw [hl, hps]; rfl)
      have hle : (ts.flatMap Tm.enc).length ≤ r.length := by rw [hps]; simp
      rw [List.length_cons, hsz] at hat
      obtain ⟨n, hn⟩ : ∃ n, (ts.flatMap Tm.enc).length = n := ⟨_, rfl⟩
      rw [hn] at hat hle ⊢
      have hRs : (mkB rest).size ≤ 1000000000 := by
        rw [mkB_size]; have : r.length = n + rest.length := by rw [hps]; simp [hn]
        omega
      have h3 := IH.out (mkB rest) wr hRs (by omega)
      rw [show toL (mkB rest) = rest from mkB_list rest] at h3
      obtain ⟨R, hR⟩ : ∃ R, mkB rest = R := ⟨_, rfl⟩
      rw [hR] at h3 hat
      have hs3 : (1 + (n : Int)).toNat = n + 1 := by omega
      have hs5 : (d : Int) + 1 - 1 = (d : Int) := by omega
      have HL := Lib.hid hl
      have HPS := Lib.hid hps
      cases hpd : parse d rest with
      | none =>
        unfold ReadOut at h3
        rw [hpd] at h3
        have HC := Lib.hid h3
        have HNO := Lib.hid (parseN_stop HP.out hpd hlt)
        clear h3 hl hps hR hRs hn hpd
        have HX : Hid (∀ e w', (e = .returned .nilIface ∧ Below w.heap.size w w') → ReadOut w (117 :: r) (d + 1) e w') := Lib.hid (by
          rintro e w' ⟨rfl, hb⟩
          unfold ReadOut
          rw [hPP.out, show manyOf 117 = 1 from rfl, HNO.out]
          exact ⟨rfl, hb⟩)
        go_wp2_with fail
        refine HC.out.mono ?_
        rintro e w1 ⟨rfl, hb⟩
        have HB2 := Lib.hid (HO.out.2.2.trans (hb.mono HO.out.2.2.size))
        clear hb
        go_wp2_with fail
        go_ret
        exact HX.out _ _ ⟨rfl, HB2.out⟩
      | some p =>
        obtain ⟨a, q⟩ := p
        unfold ReadOut at h3
        rw [hpd] at h3
        have HC := Lib.hid h3
        have HN := Lib.hid (parseN_snoc HP.out hpd)
        have HPD := Lib.hid hpd
        clear h3 hR hRs
        have HLL := Lib.hid hl
        have HPS2 := Lib.hid hps
        have HNN := Lib.hid hn
        clear hpd hl hps hn
        go_wp2_with fail
        refine HC.out.mono ?_
        rintro e w1 ⟨⟨vl2, rfl, hv2⟩, hb⟩
        obtain ⟨T, g, hT, hEq, K, hM, hCF, hCC⟩ := node_iface (mkB a.enc) a hv2
        rw [hT]
        have HBB := Lib.hid hb
        have HCC := Lib.hid hCC
        have hc1 : w1.cell? ⟨B, 1, none⟩ = some vl := (Keep.of_below hb : Keep (fun _ => False) wr w1).cell (by rw [cell_of_row _ _ _ _ _ _ HO.out.1]; rfl) fun e => e
        clear hb hT hv2 hCC
        go_wp2_with fail
        refine wp_region_G (fun w' => w'.cell? ⟨B, 1, none⟩ = some vl) [7] (by kernel_rfl) ?_
        have hS : (fun w' : World => w'.cell? ⟨B, 1, none⟩ = some vl) w1.drew := by dsimp only; go_simp
        refine wpAnyG_pure (i := 0) (v := ?va0) at0 (by kernel_rfl) (fun _ _ _ h => h) (Or.inl ⟨by rfl, ?ha0⟩) (Or.inr (by assumption)) ?ra0
        case ha0 => (intro w hSw; (try dsimp only at hSw); go_simp; try with_reducible rfl)
        case' ra0 => skip
        try simp only [Act.put, List.setIfInBounds_toArray, List.set_cons_zero, List.set_cons_succ]
        refine wpAnyG_take (ws := [0,1,2,3,4,5]) (i := 1) (v := ?va1) at1 (by kernel_rfl) (fun _ _ _ h => h) (Or.inl ⟨by rfl, ?ha1⟩) (by assumption) ?ra1
        case ha1 => (intro w hSw; (try dsimp only at hSw); go_simp; try with_reducible rfl)
        case' ra1 => skip
        try simp only [Act.put, List.setIfInBounds_toArray, List.set_cons_zero, List.set_cons_succ]
        refine wpAnyG_pure (i := 2) (v := ?va2) at2 (by kernel_rfl) (fun _ _ _ h => h) (Or.inl ⟨by rfl, ?ha2⟩) (Or.inr (by assumption)) ?ra2
        case ha2 => (intro w hSw; (try dsimp only at hSw); go_simp; try with_reducible rfl)
        case' ra2 => skip
        try simp only [Act.put, List.setIfInBounds_toArray, List.set_cons_zero, List.set_cons_succ]
        refine wpAnyG_one 3 at3 (by kernel_rfl) (fun Kn hK => ?_)
        go_simp
        refine (HCC.out _).mono ?_
        rintro e w2 ⟨rfl, hb2⟩
        have hS2 : w2.cell? ⟨B, 1, none⟩ = some vl := (Keep.of_below hb2 : Keep (fun _ => False) _ w2).cell hS fun e => e
        have hb12 : Below wr.heap.size wr w2 := HBB.out.drew.trans (hb2.mono HBB.out.drew.size)
        have hown := own_below HO.out.2.1 hb12
        have hbel2 : Below w.heap.size w w2 := HO.out.2.2.trans (hb12.mono HO.out.2.2.size)
        have hheap : w2.heap[B]? = some (.cells #[.string ⟨#[]⟩, vl] 267 (0, 0)) := (Keep.of_below hb12 : Keep (fun _ => False) wr w2).at HO.out.1 fun e => e
        have hBlt : B < w2.heap.size := (Array.getElem?_eq_some_iff.1 hheap).1
        obtain ⟨p', w3, hrun, ho3, hk3⟩ := append_str hown (mkB a.enc) (by rw [List.length_map, (parseN_some HP.out).2]; omega) hBlt
        obtain ⟨A', c', rfl, _, _⟩ := own_slice ho3
        have hvB : ¬ (vl.ownBlock = some B) := fun e => by have := own_new hown B e; omega
        have hheap3 := hk3.at hheap hvB
        have hS3 : w3.cell? ⟨B, 1, none⟩ = some vl := by
          rw [cell_of_row _ _ _ _ _ _ hheap3]; rfl
        have hfz3 := frozen_of_row hheap3 1
        have hHX : Hid ((w3.setCell ⟨B, 1, none⟩ (.slice A' (List.map (fun x => mkB x.enc) ts ++ [mkB a.enc]).length c')).heap[B]? = some (.cells #[.string ⟨#[]⟩, .slice A' (List.map (fun x => mkB x.enc) ts ++ [mkB a.enc]).length c'] 267 (0, 0)) ∧ (w3.setCell ⟨B, 1, none⟩ (.slice A' (List.map (fun x => mkB x.enc) ts ++ [mkB a.enc]).length c')).ownsRow (B + 1) 9 1 (.slice A' (List.map (fun x => mkB x.enc) ts ++ [mkB a.enc]).length c') ((ts ++ [a]).map fun x => mkB x.enc).length (strV ((ts ++ [a]).map fun x => mkB x.enc)) ∧ Below w.heap.size w (w3.setCell ⟨B, 1, none⟩ (.slice A' (List.map (fun x => mkB x.enc) ts ++ [mkB a.enc]).length c'))) := by
          rw [List.map_append]
          refine ⟨set_at hheap3 1 _, ?_, ?_⟩
          · exact Keep.own (F := fun i => i = B) (Keep.setCell (fun i => i = B) w3 (p := ⟨B, 1, none⟩) rfl _) ho3 fun q e1 e2 => by have := own_new ho3 q e1; omega
          · exact (((Keep.of_below hbel2 : Keep (fun q => w.heap.size ≤ q) w w2).same (hk3.mono fun q e1 => by have := own_new hown q e1; have := HB.out; omega)).same (Keep.setCell (fun q => w.heap.size ≤ q) w3 (p := ⟨B, 1, none⟩) (Nat.le_of_eq HB.out) _)).new
        obtain ⟨pl, hpl⟩ : ∃ pl, (List.map (fun x => mkB x.enc) ts ++ [mkB a.enc]).length = pl := ⟨_, rfl⟩
        rw [hpl] at hrun hHX
        clear hb2 hb12 hown hbel2 hheap hBlt hvB hheap3 ho3 hk3 hpl
        refine hK.out _ _ (Or.inr hS2) ?_
        clear hK Kn
        try simp only [Act.put, List.setIfInBounds_toArray, List.set_cons_zero, List.set_cons_succ]
        refine wpAnyG_one 4 at4 (by kernel_rfl) (fun Kn hK => ?_)
        go_simp
        refine hK.out _ _ (Or.inr ((Keep.alloc (fun _ => False) w2 _).cell hS2 fun e => e)) ?_
        clear hK Kn
        try simp only [Act.put, List.setIfInBounds_toArray, List.set_cons_zero, List.set_cons_succ]
        refine wpAnyG_one 5 at5 (by kernel_rfl) (fun Kn hK => ?_)
        refine step_append_run rfl _ _ _ rfl rfl rfl hrun ?_
        refine hK.out _ _ (Or.inr hS3) ?_
        clear hK Kn hrun
        try simp only [Act.put, List.setIfInBounds_toArray, List.set_cons_zero, List.set_cons_succ]
        refine wpAnyG_pure (i := 6) (v := ?vb6) at6 (by kernel_rfl) (fun _ _ _ h => h) (Or.inl ⟨by rfl, ?hb6⟩) (Or.inr (by assumption)) ?rb6
        case hb6 => (intro w hSw; (try dsimp only at hSw); go_simp; try with_reducible rfl)
        case' rb6 => skip
        try simp only [Act.put, List.setIfInBounds_toArray, List.set_cons_zero, List.set_cons_succ]
        refine wpAnyG_one 7 at7 (by kernel_rfl) (fun Kn hK => ?_)
        go_simp
        refine hK.out _ _ (Or.inl (by kernel_rfl)) ?_
        clear hK Kn
        refine wpAnyG_done (by kernel_rfl) ?_
        have hsz2 := mkB_size a.enc
        obtain ⟨la, hla⟩ : ∃ la, a.enc.length = la := ⟨_, rfl⟩
        have HLA := Lib.hid hla
        rw [hla] at hsz2
        have hla2 : la ≤ 1000000000 := by
          have e2 := (parse_some HPD.out).1
          have : r.length = n + rest.length := by rw [HPS2.out]; simp [HNN.out]
          rw [e2, List.length_append, hla] at this
          omega
        clear hS hS2 hS3 hfz3 hc1 hla
        go_wp2_with fail
        refine (HCC.out _).mono ?_
        rintro e w4 ⟨rfl, hb4⟩
        have HH4 : Hid (w4.heap[B]? = some (.cells #[.string ⟨#[]⟩, .slice A' pl c'] 267 (0, 0)) ∧ w4.ownsRow (B + 1) 9 1 (.slice A' pl c') ((ts ++ [a]).map fun x => mkB x.enc).length (strV ((ts ++ [a]).map fun x => mkB x.enc)) ∧ Below w.heap.size w w4) :=
          Lib.hid ⟨(Keep.of_below hb4 : Keep (fun _ => False) _ w4).at hHX.out.1 fun e => e, own_below hHX.out.2.1 hb4, hHX.out.2.2.trans (hb4.mono hHX.out.2.2.size)⟩
        clear hb4 hHX
        go_wp2_with fail
        go_roundw
        case rel =>
          refine ⟨k + 1, ts ++ [a], q, .slice A' pl c', by omega, by go_num, ?_, HN, HH4⟩
          rw [List.flatMap_append, List.length_append, HNN.out]
          simp [HLA.out]
          omega
        case measure => simp [intOf]; omega
    · obtain rfl : k = 1 := by omega
      have hlen : ts.length = 1 := (parseN_some HP.out).2
      obtain ⟨a, rfl⟩ : ∃ a, ts = [a] := List.length_eq_one_iff.1 hlen
      have hfl : ([a].flatMap Tm.enc) = a.enc := by simp
      have hat : s.extract 0 ((117 :: a.enc).length) = mkB (117 :: a.enc) := front_of (b := rest) (by rw [hl, hps]; simp)
      have hle : a.enc.length ≤ r.length := by rw [hps]; simp
      rw [List.length_cons] at hat
      rw [hfl]
      obtain ⟨n, hn⟩ : ∃ n, a.enc.length = n := ⟨_, rfl⟩
      rw [hn] at hat hle ⊢
      obtain ⟨E, hE⟩ : ∃ E, mkB (117 :: a.enc) = E := ⟨_, rfl⟩
      rw [hE] at hat
      have hs3 : (1 + (n : Int)).toNat = n + 1 := by omega
      obtain ⟨A', c', rfl, _, _⟩ := own_slice HO.out.2.1
      obtain ⟨pl, hpl⟩ : ∃ pl, (List.map (fun x => mkB x.enc) [a]).length = pl := ⟨_, rfl⟩
      have hX : ∀ e, e = .returned (.iface 267 (.agg #[.string E, .slice A' (List.map (fun x => mkB x.enc) [a]).length c'])) → ReadOut w (117 :: r) (d + 1) e (wr.setCell ⟨B, 0, none⟩ (.string E)) := by
        rintro e rfl
        unfold ReadOut
        rw [hPP.out, show manyOf 117 = 1 from rfl, HP.out]
        refine ⟨⟨.slice A' (List.map (fun x => mkB x.enc) [a]).length c', ?_, ?_⟩, ?_⟩
        · rw [← hE]; rfl
        · exact strs_own (Keep.own (F := fun i => i = B) (Keep.setCell (fun i => i = B) wr (p := ⟨B, 0, none⟩) rfl _) HO.out.2.1 fun q e1 e2 => by have := own_new HO.out.2.1 q e1; omega)
        · exact ((Keep.of_below HO.out.2.2 : Keep (fun q => w.heap.size ≤ q) w wr).same (Keep.setCell (fun q => w.heap.size ≤ q) wr (p := ⟨B, 0, none⟩) (Nat.le_of_eq HB.out) _)).new
      have hc0' : wr.cell? ⟨B, 0, none⟩ = some (.string ⟨#[]⟩) := by rw [cell_of_row _ _ _ _ _ _ HO.out.1]; rfl
      have hc1' : wr.cell? ⟨B, 1, none⟩ = some (.slice A' (List.map (fun x => mkB x.enc) [a]).length c') := by rw [cell_of_row _ _ _ _ _ _ HO.out.1]; rfl
      have hf0' := frozen_of_row HO.out.1 0
      rw [hpl] at hX hc1'
      have HX := Lib.hid hX
      clear hX hpl hfl hn hE hlen hps hl
      go_wp2_with fail
      go_ret
      exact HX.out _ rfl
set_option maxRecDepth 100000 in
set_option maxHeartbeats 4000000 in
theorem read_112_calls (d : Nat) (IH : Hid (∀ (s : ByteArray) (w : World), s.size ≤ 1000000000 → d ≤ 40 → Calls Tryz.prog 290 #[.string s, .int .i64 d] w (ReadOut w (toL s) d))) (s : ByteArray) (r : List UInt8) (w : World) (hl : s.data.toList = 112 :: r) (hs : s.size ≤ 1000000000) (hd : d + 1 ≤ 40) :
    Calls Tryz.prog 290 #[.string s, .int .i64 ((d + 1 : Nat) : Int)] w (ReadOut w (112 :: r) (d + 1)) := by
  have hsz : s.size = r.length + 1 := by have := list_size s; rw [hl] at this; exact this.symm
  have h0 : 0 < s.size := by omega
  have hc0 := first_of hl h0
  have hne : s.toList.isEmpty = false := by rw [ByteArray.toList_eq, hl]; rfl
  have hPP := Lib.hid (parse_parts (d := d) (c := 112) (r := r) (Or.inr rfl))
  rw [show ((d + 1 : Nat) : Int) = (d : Int) + 1 from rfl]
  have hd1 : ((d : Int) + 1 == 0) = false := by simp; omega
  go_enter Tryz.func290, Tryz.ntmps290
  go_wp2_with fail
  obtain ⟨B, hB⟩ : ∃ B, w.heap.size = B := ⟨_, rfl⟩
  have HB := Lib.hid hB
  rw [hB]
  clear hB
  go_loopw [7, 8, 32] (fun at_ x i wr => ∃ (k : Nat) (ts : List Tm) (rest : List UInt8) (vl : Value), k ≤ 2 ∧ i = .int .i64 k ∧ at_ = .int .i64 (1 + ((ts.flatMap Tm.enc).length : Int)) ∧ Hid (parseN d k r = some (ts, rest)) ∧ Hid (wr.heap[B]? = some (.cells #[.string ⟨#[]⟩, vl] 267 (0, 0)) ∧ wr.ownsRow (B + 1) 9 1 vl (ts.map fun x => mkB x.enc).length (strV (ts.map fun x => mkB x.enc)) ∧ Below w.heap.size w wr)) (fun _ _ i _ => 2 - (intOf i).toNat)
  case atStart => exact ⟨0, [], r, .slice none 0 0, Nat.zero_le _, rfl, rfl, rfl, by rw [get_alloc, if_pos HB.out.symm], own_nil _ _ _ _, (Below.refl _ w).alloc (Nat.le_refl _) _⟩
  case round =>
    obtain ⟨k, ts, rest, vl, hk, rfl, rfl, HP, HO⟩ := hrel
    have hps := (parseN_some HP.out).1
    by_cases hlt : k < 2
    · have hat : s.extract ((112 :: ts.flatMap Tm.enc).length) s.size = mkB rest := back_of (by rw [hl, hps]; rfl)
      have hle : (ts.flatMap Tm.enc).length ≤ r.length := by rw [hps]; simp
      rw [List.length_cons, hsz] at hat
      obtain ⟨n, hn⟩ : ∃ n, (ts.flatMap Tm.enc).length = n := ⟨_, rfl⟩
      rw [hn] at hat hle ⊢
      have hRs : (mkB rest).size ≤ 1000000000 := by
        rw [mkB_size]; have : r.length = n + rest.length := by rw [hps]; simp [hn]
        omega
      have h3 := IH.out (mkB rest) wr hRs (by omega)
      rw [show toL (mkB rest) = rest from mkB_list rest] at h3
      obtain ⟨R, hR⟩ : ∃ R, mkB rest = R := ⟨_, rfl⟩
      rw [hR] at h3 hat
      have hs3 : (1 + (n : Int)).toNat = n + 1 := by omega
      have hs5 : (d : Int) + 1 - 1 = (d : Int) := by omega
      have HL := Lib.hid hl
      have HPS := Lib.hid hps
      cases hpd : parse d rest with
      | none =>
        unfold ReadOut at h3
        rw [hpd] at h3
        have HC := Lib.hid h3
        have HNO := Lib.hid (parseN_stop HP.out hpd hlt)
        clear h3 hl hps hR hRs hn hpd
        have HX : Hid (∀ e w', (e = .returned .nilIface ∧ Below w.heap.size w w') → ReadOut w (112 :: r) (d + 1) e w') := Lib.hid (by
          rintro e w' ⟨rfl, hb⟩
          unfold ReadOut
          rw [hPP.out, show manyOf 112 = 2 from rfl, HNO.out]
          exact ⟨rfl, hb⟩)
        go_wp2_with fail
        refine HC.out.mono ?_
        rintro e w1 ⟨rfl, hb⟩
        have HB2 := Lib.hid (HO.out.2.2.trans (hb.mono HO.out.2.2.size))
        clear hb
        go_wp2_with fail
        go_ret
        exact HX.out _ _ ⟨rfl, HB2.out⟩
      | some p =>
        obtain ⟨a, q⟩ := p
        unfold ReadOut at h3
        rw [hpd] at h3
        have HC := Lib.hid h3
        have HN := Lib.hid (parseN_snoc HP.out hpd)
        have HPD := Lib.hid hpd
        clear h3 hR hRs
        have HLL := Lib.hid hl
        have HPS2 := Lib.hid hps
        have HNN := Lib.hid hn
        clear hpd hl hps hn
        go_wp2_with fail
        refine HC.out.mono ?_
        rintro e w1 ⟨⟨vl2, rfl, hv2⟩, hb⟩
        obtain ⟨T, g, hT, hEq, K, hM, hCF, hCC⟩ := node_iface (mkB a.enc) a hv2
        rw [hT]
        have HBB := Lib.hid hb
        have HCC := Lib.hid hCC
        have hc1 : w1.cell? ⟨B, 1, none⟩ = some vl := (Keep.of_below hb : Keep (fun _ => False) wr w1).cell (by rw [cell_of_row _ _ _ _ _ _ HO.out.1]; rfl) fun e => e
        clear hb hT hv2 hCC
        go_wp2_with fail
        refine wp_region_G (fun w' => w'.cell? ⟨B, 1, none⟩ = some vl) [7] (by kernel_rfl) ?_
        have hS : (fun w' : World => w'.cell? ⟨B, 1, none⟩ = some vl) w1.drew := by dsimp only; go_simp
        refine wpAnyG_pure (i := 0) (v := ?va0) at0 (by kernel_rfl) (fun _ _ _ h => h) (Or.inl ⟨by rfl, ?ha0⟩) (Or.inr (by assumption)) ?ra0
        case ha0 => (intro w hSw; (try dsimp only at hSw); go_simp; try with_reducible rfl)
        case' ra0 => skip
        try simp only [Act.put, List.setIfInBounds_toArray, List.set_cons_zero, List.set_cons_succ]
        refine wpAnyG_take (ws := [0,1,2,3,4,5]) (i := 1) (v := ?va1) at1 (by kernel_rfl) (fun _ _ _ h => h) (Or.inl ⟨by rfl, ?ha1⟩) (by assumption) ?ra1
        case ha1 => (intro w hSw; (try dsimp only at hSw); go_simp; try with_reducible rfl)
        case' ra1 => skip
        try simp only [Act.put, List.setIfInBounds_toArray, List.set_cons_zero, List.set_cons_succ]
        refine wpAnyG_pure (i := 2) (v := ?va2) at2 (by kernel_rfl) (fun _ _ _ h => h) (Or.inl ⟨by rfl, ?ha2⟩) (Or.inr (by assumption)) ?ra2
        case ha2 => (intro w hSw; (try dsimp only at hSw); go_simp; try with_reducible rfl)
        case' ra2 => skip
        try simp only [Act.put, List.setIfInBounds_toArray, List.set_cons_zero, List.set_cons_succ]
        refine wpAnyG_one 3 at3 (by kernel_rfl) (fun Kn hK => ?_)
        go_simp
        refine (HCC.out _).mono ?_
        rintro e w2 ⟨rfl, hb2⟩
        have hS2 : w2.cell? ⟨B, 1, none⟩ = some vl := (Keep.of_below hb2 : Keep (fun _ => False) _ w2).cell hS fun e => e
        have hb12 : Below wr.heap.size wr w2 := HBB.out.drew.trans (hb2.mono HBB.out.drew.size)
        have hown := own_below HO.out.2.1 hb12
        have hbel2 : Below w.heap.size w w2 := HO.out.2.2.trans (hb12.mono HO.out.2.2.size)
        have hheap : w2.heap[B]? = some (.cells #[.string ⟨#[]⟩, vl] 267 (0, 0)) := (Keep.of_below hb12 : Keep (fun _ => False) wr w2).at HO.out.1 fun e => e
        have hBlt : B < w2.heap.size := (Array.getElem?_eq_some_iff.1 hheap).1
        obtain ⟨p', w3, hrun, ho3, hk3⟩ := append_str hown (mkB a.enc) (by rw [List.length_map, (parseN_some HP.out).2]; omega) hBlt
        obtain ⟨A', c', rfl, _, _⟩ := own_slice ho3
        have hvB : ¬ (vl.ownBlock = some B) := fun e => by have := own_new hown B e; omega
        have hheap3 := hk3.at hheap hvB
        have hS3 : w3.cell? ⟨B, 1, none⟩ = some vl := by
          rw [cell_of_row _ _ _ _ _ _ hheap3]; rfl
        have hfz3 := frozen_of_row hheap3 1
        have hHX : Hid ((w3.setCell ⟨B, 1, none⟩ (.slice A' (List.map (fun x => mkB x.enc) ts ++ [mkB a.enc]).length c')).heap[B]? = some (.cells #[.string ⟨#[]⟩, .slice A' (List.map (fun x => mkB x.enc) ts ++ [mkB a.enc]).length c'] 267 (0, 0)) ∧ (w3.setCell ⟨B, 1, none⟩ (.slice A' (List.map (fun x => mkB x.enc) ts ++ [mkB a.enc]).length c')).ownsRow (B + 1) 9 1 (.slice A' (List.map (fun x => mkB x.enc) ts ++ [mkB a.enc]).length c') ((ts ++ [a]).map fun x => mkB x.enc).length (strV ((ts ++ [a]).map fun x => mkB x.enc)) ∧ Below w.heap.size w (w3.setCell ⟨B, 1, none⟩ (.slice A' (List.map (fun x => mkB x.enc) ts ++ [mkB a.enc]).length c'))) := by
          rw [List.map_append]
          refine ⟨set_at hheap3 1 _, ?_, ?_⟩
          · exact Keep.own (F := fun i => i = B) (Keep.setCell (fun i => i = B) w3 (p := ⟨B, 1, none⟩) rfl _) ho3 fun q e1 e2 => by have := own_new ho3 q e1; omega
          · exact (((Keep.of_below hbel2 : Keep (fun q => w.heap.size ≤ q) w w2).same (hk3.mono fun q e1 => by have := own_new hown q e1; have := HB.out; omega)).same (Keep.setCell (fun q => w.heap.size ≤ q) w3 (p := ⟨B, 1, none⟩) (Nat.le_of_eq HB.out) _)).new
        obtain ⟨pl, hpl⟩ : ∃ pl, (List.map (fun x => mkB x.enc) ts ++ [mkB a.enc]).length = pl := ⟨_, rfl⟩
        rw [hpl] at hrun hHX
        clear hb2 hb12 hown hbel2 hheap hBlt hvB hheap3 ho3 hk3 hpl
        refine hK.out _ _ (Or.inr hS2) ?_
        clear hK Kn
        try simp only [Act.put, List.setIfInBounds_toArray, List.set_cons_zero, List.set_cons_succ]
        refine wpAnyG_one 4 at4 (by kernel_rfl) (fun Kn hK => ?_)
        go_simp
        refine hK.out _ _ (Or.inr ((Keep.alloc (fun _ => False) w2 _).cell hS2 fun e => e)) ?_
        clear hK Kn
        try simp only [Act.put, List.setIfInBounds_toArray, List.set_cons_zero, List.set_cons_succ]
        refine wpAnyG_one 5 at5 (by kernel_rfl) (fun Kn hK => ?_)
        refine step_append_run rfl _ _ _ rfl rfl rfl hrun ?_
        refine hK.out _ _ (Or.inr hS3) ?_
        clear hK Kn hrun
        try simp only [Act.put, List.setIfInBounds_toArray, List.set_cons_zero, List.set_cons_succ]
        refine wpAnyG_pure (i := 6) (v := ?vb6) at6 (by kernel_rfl) (fun _ _ _ h => h) (Or.inl ⟨by rfl, ?hb6⟩) (Or.inr (by assumption)) ?rb6
        case hb6 => (intro w hSw; (try dsimp only at hSw); go_simp; try with_reducible rfl)
        case' rb6 => skip
        try simp only [Act.put, List.setIfInBounds_toArray, List.set_cons_zero, List.set_cons_succ]
        refine wpAnyG_one 7 at7 (by kernel_rfl) (fun Kn hK => ?_)
        go_simp
        refine hK.out _ _ (Or.inl (by kernel_rfl)) ?_
        clear hK Kn
        refine wpAnyG_done (by kernel_rfl) ?_
        have hsz2 := mkB_size a.enc
        obtain ⟨la, hla⟩ : ∃ la, a.enc.length = la := ⟨_, rfl⟩
        have HLA := Lib.hid hla
        rw [hla] at hsz2
        have hla2 : la ≤ 1000000000 := by
          have e2 := (parse_some HPD.out).1
          have : r.length = n + rest.length := by rw [HPS2.out]; simp [HNN.out]
          rw [e2, List.length_append, hla] at this
          omega
        clear hS hS2 hS3 hfz3 hc1 hla
        go_wp2_with fail
        refine (HCC.out _).mono ?_
        rintro e w4 ⟨rfl, hb4⟩
        have HH4 : Hid (w4.heap[B]? = some (.cells #[.string ⟨#[]⟩, .slice A' pl c'] 267 (0, 0)) ∧ w4.ownsRow (B + 1) 9 1 (.slice A' pl c') ((ts ++ [a]).map fun x => mkB x.enc).length (strV ((ts ++ [a]).map fun x => mkB x.enc)) ∧ Below w.heap.size w w4) :=
          Lib.hid ⟨(Keep.of_below hb4 : Keep (fun _ => False) _ w4).at hHX.out.1 fun e => e, own_below hHX.out.2.1 hb4, hHX.out.2.2.trans (hb4.mono hHX.out.2.2.size)⟩
        clear hb4 hHX
        go_wp2_with fail
        go_roundw
        case rel =>
          refine ⟨k + 1, ts ++ [a], q, .slice A' pl c', by omega, by go_num, ?_, HN, HH4⟩
          rw [List.flatMap_append, List.length_append, HNN.out]
          simp [HLA.out]
          omega
        case measure => simp [intOf]; omega
    · obtain rfl : k = 2 := by omega
      have hlen : ts.length = 2 := (parseN_some HP.out).2
      obtain ⟨a, b, rfl⟩ : ∃ a b, ts = [a, b] := by
        match ts, hlen with
        | [a, b], _ => exact ⟨a, b, rfl⟩
      have hfl : ([a, b].flatMap Tm.enc) = a.enc ++ b.enc := by simp
      have hat : s.extract 0 ((112 :: (a.enc ++ b.enc)).length) = mkB (112 :: (a.enc ++ b.enc)) := front_of (b := rest) (by rw [hl, hps]; simp)
      have hle : (a.enc ++ b.enc).length ≤ r.length := by rw [hps]; simp
      rw [List.length_cons] at hat
      rw [hfl]
      obtain ⟨n, hn⟩ : ∃ n, (a.enc ++ b.enc).length = n := ⟨_, rfl⟩
      rw [hn] at hat hle ⊢
      obtain ⟨E, hE⟩ : ∃ E, mkB (112 :: (a.enc ++ b.enc)) = E := ⟨_, rfl⟩
      rw [hE] at hat
      have hs3 : (1 + (n : Int)).toNat = n + 1 := by omega
      obtain ⟨g, c', rfl, _, hcells⟩ := own_block HO.out.2.1 (by simp)
      have HOwn := Lib.hid HO.out.2.1
      have hX : ∀ e, e = .returned (.iface 267 (.agg #[.string E, .slice (some ⟨g, 0, none⟩) (List.map (fun x => mkB x.enc) [a, b]).length c'])) → ReadOut w (112 :: r) (d + 1) e (wr.setCell ⟨B, 0, none⟩ (.string E)) := by
        rintro e rfl
        unfold ReadOut
        rw [hPP.out, show manyOf 112 = 2 from rfl, HP.out]
        simp only
        rw [if_neg (fun e => absurd e.1 (by decide))]
        refine ⟨⟨.slice (some ⟨g, 0, none⟩) (List.map (fun x => mkB x.enc) [a, b]).length c', ?_, ?_⟩, ?_⟩
        · rw [← hE]; rfl
        · exact strs_own (Keep.own (F := fun i => i = B) (Keep.setCell (fun i => i = B) wr (p := ⟨B, 0, none⟩) rfl _) HO.out.2.1 fun q e1 e2 => by have := own_new HO.out.2.1 q e1; omega)
        · exact ((Keep.of_below HO.out.2.2 : Keep (fun q => w.heap.size ≤ q) w wr).same (Keep.setCell (fun q => w.heap.size ≤ q) wr (p := ⟨B, 0, none⟩) (Nat.le_of_eq HB.out) _)).new
      obtain ⟨pl, hpl⟩ : ∃ pl, (List.map (fun x => mkB x.enc) [a, b]).length = pl := ⟨_, rfl⟩
      have hpl2 : pl = 2 := by rw [← hpl]; rfl
      have hc0' : wr.cell? ⟨B, 0, none⟩ = some (.string ⟨#[]⟩) := by rw [cell_of_row _ _ _ _ _ _ HO.out.1]; rfl
      have hc1' : wr.cell? ⟨B, 1, none⟩ = some (.slice (some ⟨g, 0, none⟩) (List.map (fun x => mkB x.enc) [a, b]).length c') := by rw [cell_of_row _ _ _ _ _ _ HO.out.1]; rfl
      have hf0' := frozen_of_row HO.out.1 0
      rw [hpl] at hX hc1'
      subst hpl2
      have HX := Lib.hid hX
      clear hX hpl hfl hn hE hlen hps hl hcells
      go_wp2_with fail
      go_ret
      exact HX.out _ rfl
set_option maxRecDepth 100000 in
set_option maxHeartbeats 4000000 in
theorem read_115_calls (d : Nat) (IH : Hid (∀ (s : ByteArray) (w : World), s.size ≤ 1000000000 → d ≤ 40 → Calls Tryz.prog 290 #[.string s, .int .i64 d] w (ReadOut w (toL s) d))) (s : ByteArray) (r : List UInt8) (w : World) (hl : s.data.toList = 115 :: r) (hs : s.size ≤ 1000000000) (hd : d + 1 ≤ 40) :
    Calls Tryz.prog 290 #[.string s, .int .i64 ((d + 1 : Nat) : Int)] w (ReadOut w (115 :: r) (d + 1)) := by
  have hsz : s.size = r.length + 1 := by have := list_size s; rw [hl] at this; exact this.symm
  have h0 : 0 < s.size := by omega
  have hc0 := first_of hl h0
  have hne : s.toList.isEmpty = false := by rw [ByteArray.toList_eq, hl]; rfl
  have hPP := Lib.hid (parse_parts (d := d) (c := 115) (r := r) (Or.inr rfl))
  rw [show ((d + 1 : Nat) : Int) = (d : Int) + 1 from rfl]
  have hd1 : ((d : Int) + 1 == 0) = false := by simp; omega
  go_enter Tryz.func290, Tryz.ntmps290
  go_wp2_with fail
  obtain ⟨B, hB⟩ : ∃ B, w.heap.size = B := ⟨_, rfl⟩
  have HB := Lib.hid hB
  rw [hB]
  clear hB
  go_loopw [7, 8, 32] (fun at_ x i wr => ∃ (k : Nat) (ts : List Tm) (rest : List UInt8) (vl : Value), k ≤ 2 ∧ i = .int .i64 k ∧ at_ = .int .i64 (1 + ((ts.flatMap Tm.enc).length : Int)) ∧ Hid (parseN d k r = some (ts, rest)) ∧ Hid (wr.heap[B]? = some (.cells #[.string ⟨#[]⟩, vl] 267 (0, 0)) ∧ wr.ownsRow (B + 1) 9 1 vl (ts.map fun x => mkB x.enc).length (strV (ts.map fun x => mkB x.enc)) ∧ Below w.heap.size w wr)) (fun _ _ i _ => 2 - (intOf i).toNat)
  case atStart => exact ⟨0, [], r, .slice none 0 0, Nat.zero_le _, rfl, rfl, rfl, by rw [get_alloc, if_pos HB.out.symm], own_nil _ _ _ _, (Below.refl _ w).alloc (Nat.le_refl _) _⟩
  case round =>
    obtain ⟨k, ts, rest, vl, hk, rfl, rfl, HP, HO⟩ := hrel
    have hps := (parseN_some HP.out).1
    by_cases hlt : k < 2
    · have hat : s.extract ((115 :: ts.flatMap Tm.enc).length) s.size = mkB rest := back_of (by rw [hl, hps]; rfl)
      have hle : (ts.flatMap Tm.enc).length ≤ r.length := by rw [hps]; simp
      rw [List.length_cons, hsz] at hat
      obtain ⟨n, hn⟩ : ∃ n, (ts.flatMap Tm.enc).length = n := ⟨_, rfl⟩
      rw [hn] at hat hle ⊢
      have hRs : (mkB rest).size ≤ 1000000000 := by
        rw [mkB_size]; have : r.length = n + rest.length := by rw [hps]; simp [hn]
        omega
      have h3 := IH.out (mkB rest) wr hRs (by omega)
      rw [show toL (mkB rest) = rest from mkB_list rest] at h3
      obtain ⟨R, hR⟩ : ∃ R, mkB rest = R := ⟨_, rfl⟩
      rw [hR] at h3 hat
      have hs3 : (1 + (n : Int)).toNat = n + 1 := by omega
      have hs5 : (d : Int) + 1 - 1 = (d : Int) := by omega
      have HL := Lib.hid hl
      have HPS := Lib.hid hps
      cases hpd : parse d rest with
      | none =>
        unfold ReadOut at h3
        rw [hpd] at h3
        have HC := Lib.hid h3
        have HNO := Lib.hid (parseN_stop HP.out hpd hlt)
        clear h3 hl hps hR hRs hn hpd
        have HX : Hid (∀ e w', (e = .returned .nilIface ∧ Below w.heap.size w w') → ReadOut w (115 :: r) (d + 1) e w') := Lib.hid (by
          rintro e w' ⟨rfl, hb⟩
          unfold ReadOut
          rw [hPP.out, show manyOf 115 = 2 from rfl, HNO.out]
          exact ⟨rfl, hb⟩)
        go_wp2_with fail
        refine HC.out.mono ?_
        rintro e w1 ⟨rfl, hb⟩
        have HB2 := Lib.hid (HO.out.2.2.trans (hb.mono HO.out.2.2.size))
        clear hb
        go_wp2_with fail
        go_ret
        exact HX.out _ _ ⟨rfl, HB2.out⟩
      | some p =>
        obtain ⟨a, q⟩ := p
        unfold ReadOut at h3
        rw [hpd] at h3
        have HC := Lib.hid h3
        have HN := Lib.hid (parseN_snoc HP.out hpd)
        have HPD := Lib.hid hpd
        clear h3 hR hRs
        have HLL := Lib.hid hl
        have HPS2 := Lib.hid hps
        have HNN := Lib.hid hn
        clear hpd hl hps hn
        go_wp2_with fail
        refine HC.out.mono ?_
        rintro e w1 ⟨⟨vl2, rfl, hv2⟩, hb⟩
        obtain ⟨T, g, hT, hEq, K, hM, hCF, hCC⟩ := node_iface (mkB a.enc) a hv2
        rw [hT]
        have HBB := Lib.hid hb
        have HCC := Lib.hid hCC
        have hc1 : w1.cell? ⟨B, 1, none⟩ = some vl := (Keep.of_below hb : Keep (fun _ => False) wr w1).cell (by rw [cell_of_row _ _ _ _ _ _ HO.out.1]; rfl) fun e => e
        clear hb hT hv2 hCC
        go_wp2_with fail
        refine wp_region_G (fun w' => w'.cell? ⟨B, 1, none⟩ = some vl) [7] (by kernel_rfl) ?_
        have hS : (fun w' : World => w'.cell? ⟨B, 1, none⟩ = some vl) w1.drew := by dsimp only; go_simp
        refine wpAnyG_pure (i := 0) (v := ?va0) at0 (by kernel_rfl) (fun _ _ _ h => h) (Or.inl ⟨by rfl, ?ha0⟩) (Or.inr (by assumption)) ?ra0
        case ha0 => (intro w hSw; (try dsimp only at hSw); go_simp; try with_reducible rfl)
        case' ra0 => skip
        try simp only [Act.put, List.setIfInBounds_toArray, List.set_cons_zero, List.set_cons_succ]
        refine wpAnyG_take (ws := [0,1,2,3,4,5]) (i := 1) (v := ?va1) at1 (by kernel_rfl) (fun _ _ _ h => h) (Or.inl ⟨by rfl, ?ha1⟩) (by assumption) ?ra1
        case ha1 => (intro w hSw; (try dsimp only at hSw); go_simp; try with_reducible rfl)
        case' ra1 => skip
        try simp only [Act.put, List.setIfInBounds_toArray, List.set_cons_zero, List.set_cons_succ]
        refine wpAnyG_pure (i := 2) (v := ?va2) at2 (by kernel_rfl) (fun _ _ _ h => h) (Or.inl ⟨by rfl, ?ha2⟩) (Or.inr (by assumption)) ?ra2
        case ha2 => (intro w hSw; (try dsimp only at hSw); go_simp; try with_reducible rfl)
        case' ra2 => skip
        try simp only [Act.put, List.setIfInBounds_toArray, List.set_cons_zero, List.set_cons_succ]
        refine wpAnyG_one 3 at3 (by kernel_rfl) (fun Kn hK => ?_)
        go_simp
        refine (HCC.out _).mono ?_
        rintro e w2 ⟨rfl, hb2⟩
        have hS2 : w2.cell? ⟨B, 1, none⟩ = some vl := (Keep.of_below hb2 : Keep (fun _ => False) _ w2).cell hS fun e => e
        have hb12 : Below wr.heap.size wr w2 := HBB.out.drew.trans (hb2.mono HBB.out.drew.size)
        have hown := own_below HO.out.2.1 hb12
        have hbel2 : Below w.heap.size w w2 := HO.out.2.2.trans (hb12.mono HO.out.2.2.size)
        have hheap : w2.heap[B]? = some (.cells #[.string ⟨#[]⟩, vl] 267 (0, 0)) := (Keep.of_below hb12 : Keep (fun _ => False) wr w2).at HO.out.1 fun e => e
        have hBlt : B < w2.heap.size := (Array.getElem?_eq_some_iff.1 hheap).1
        obtain ⟨p', w3, hrun, ho3, hk3⟩ := append_str hown (mkB a.enc) (by rw [List.length_map, (parseN_some HP.out).2]; omega) hBlt
        obtain ⟨A', c', rfl, _, _⟩ := own_slice ho3
        have hvB : ¬ (vl.ownBlock = some B) := fun e => by have := own_new hown B e; omega
        have hheap3 := hk3.at hheap hvB
        have hS3 : w3.cell? ⟨B, 1, none⟩ = some vl := by
          rw [cell_of_row _ _ _ _ _ _ hheap3]; rfl
        have hfz3 := frozen_of_row hheap3 1
        have hHX : Hid ((w3.setCell ⟨B, 1, none⟩ (.slice A' (List.map (fun x => mkB x.enc) ts ++ [mkB a.enc]).length c')).heap[B]? = some (.cells #[.string ⟨#[]⟩, .slice A' (List.map (fun x => mkB x.enc) ts ++ [mkB a.enc]).length c'] 267 (0, 0)) ∧ (w3.setCell ⟨B, 1, none⟩ (.slice A' (List.map (fun x => mkB x.enc) ts ++ [mkB a.enc]).length c')).ownsRow (B + 1) 9 1 (.slice A' (List.map (fun x => mkB x.enc) ts ++ [mkB a.enc]).length c') ((ts ++ [a]).map fun x => mkB x.enc).length (strV ((ts ++ [a]).map fun x => mkB x.enc)) ∧ Below w.heap.size w (w3.setCell ⟨B, 1, none⟩ (.slice A' (List.map (fun x => mkB x.enc) ts ++ [mkB a.enc]).length c'))) := by
          rw [List.map_append]
          refine ⟨set_at hheap3 1 _, ?_, ?_⟩
          · exact Keep.own (F := fun i => i = B) (Keep.setCell (fun i => i = B) w3 (p := ⟨B, 1, none⟩) rfl _) ho3 fun q e1 e2 => by have := own_new ho3 q e1; omega
          · exact (((Keep.of_below hbel2 : Keep (fun q => w.heap.size ≤ q) w w2).same (hk3.mono fun q e1 => by have := own_new hown q e1; have := HB.out; omega)).same (Keep.setCell (fun q => w.heap.size ≤ q) w3 (p := ⟨B, 1, none⟩) (Nat.le_of_eq HB.out) _)).new
        obtain ⟨pl, hpl⟩ : ∃ pl, (List.map (fun x => mkB x.enc) ts ++ [mkB a.enc]).length = pl := ⟨_, rfl⟩
        rw [hpl] at hrun hHX
        clear hb2 hb12 hown hbel2 hheap hBlt hvB hheap3 ho3 hk3 hpl
        refine hK.out _ _ (Or.inr hS2) ?_
        clear hK Kn
        try simp only [Act.put, List.setIfInBounds_toArray, List.set_cons_zero, List.set_cons_succ]
        refine wpAnyG_one 4 at4 (by kernel_rfl) (fun Kn hK => ?_)
        go_simp
        refine hK.out _ _ (Or.inr ((Keep.alloc (fun _ => False) w2 _).cell hS2 fun e => e)) ?_
        clear hK Kn
        try simp only [Act.put, List.setIfInBounds_toArray, List.set_cons_zero, List.set_cons_succ]
        refine wpAnyG_one 5 at5 (by kernel_rfl) (fun Kn hK => ?_)
        refine step_append_run rfl _ _ _ rfl rfl rfl hrun ?_
        refine hK.out _ _ (Or.inr hS3) ?_
        clear hK Kn hrun
        try simp only [Act.put, List.setIfInBounds_toArray, List.set_cons_zero, List.set_cons_succ]
        refine wpAnyG_pure (i := 6) (v := ?vb6) at6 (by kernel_rfl) (fun _ _ _ h => h) (Or.inl ⟨by rfl, ?hb6⟩) (Or.inr (by assumption)) ?rb6
        case hb6 => (intro w hSw; (try dsimp only at hSw); go_simp; try with_reducible rfl)
        case' rb6 => skip
        try simp only [Act.put, List.setIfInBounds_toArray, List.set_cons_zero, List.set_cons_succ]
        refine wpAnyG_one 7 at7 (by kernel_rfl) (fun Kn hK => ?_)
        go_simp
        refine hK.out _ _ (Or.inl (by kernel_rfl)) ?_
        clear hK Kn
        refine wpAnyG_done (by kernel_rfl) ?_
        have hsz2 := mkB_size a.enc
        obtain ⟨la, hla⟩ : ∃ la, a.enc.length = la := ⟨_, rfl⟩
        have HLA := Lib.hid hla
        rw [hla] at hsz2
        have hla2 : la ≤ 1000000000 := by
          have e2 := (parse_some HPD.out).1
          have : r.length = n + rest.length := by rw [HPS2.out]; simp [HNN.out]
          rw [e2, List.length_append, hla] at this
          omega
        clear hS hS2 hS3 hfz3 hc1 hla
        go_wp2_with fail
        refine (HCC.out _).mono ?_
        rintro e w4 ⟨rfl, hb4⟩
        have HH4 : Hid (w4.heap[B]? = some (.cells #[.string ⟨#[]⟩, .slice A' pl c'] 267 (0, 0)) ∧ w4.ownsRow (B + 1) 9 1 (.slice A' pl c') ((ts ++ [a]).map fun x => mkB x.enc).length (strV ((ts ++ [a]).map fun x => mkB x.enc)) ∧ Below w.heap.size w w4) :=
          Lib.hid ⟨(Keep.of_below hb4 : Keep (fun _ => False) _ w4).at hHX.out.1 fun e => e, own_below hHX.out.2.1 hb4, hHX.out.2.2.trans (hb4.mono hHX.out.2.2.size)⟩
        clear hb4 hHX
        go_wp2_with fail
        go_roundw
        case rel =>
          refine ⟨k + 1, ts ++ [a], q, .slice A' pl c', by omega, by go_num, ?_, HN, HH4⟩
          rw [List.flatMap_append, List.length_append, HNN.out]
          simp [HLA.out]
          omega
        case measure => simp [intOf]; omega
    · obtain rfl : k = 2 := by omega
      have hlen : ts.length = 2 := (parseN_some HP.out).2
      obtain ⟨a, b, rfl⟩ : ∃ a b, ts = [a, b] := by
        match ts, hlen with
        | [a, b], _ => exact ⟨a, b, rfl⟩
      have hfl : ([a, b].flatMap Tm.enc) = a.enc ++ b.enc := by simp
      have hat : s.extract 0 ((115 :: (a.enc ++ b.enc)).length) = mkB (115 :: (a.enc ++ b.enc)) := front_of (b := rest) (by rw [hl, hps]; simp)
      have hle : (a.enc ++ b.enc).length ≤ r.length := by rw [hps]; simp
      rw [List.length_cons] at hat
      rw [hfl]
      obtain ⟨n, hn⟩ : ∃ n, (a.enc ++ b.enc).length = n := ⟨_, rfl⟩
      rw [hn] at hat hle ⊢
      obtain ⟨E, hE⟩ : ∃ E, mkB (115 :: (a.enc ++ b.enc)) = E := ⟨_, rfl⟩
      rw [hE] at hat
      have hs3 : (1 + (n : Int)).toNat = n + 1 := by omega
      obtain ⟨g, c', rfl, _, hcells⟩ := own_block HO.out.2.1 (by simp)
      have HOwn := Lib.hid HO.out.2.1
      have hX : ∀ e, e = .returned (.iface 267 (.agg #[.string E, .slice (some ⟨g, 0, none⟩) (List.map (fun x => mkB x.enc) [a, b]).length c'])) → ReadOut w (115 :: r) (d + 1) e (wr.setCell ⟨B, 0, none⟩ (.string E)) := by
        rintro e rfl
        unfold ReadOut
        rw [hPP.out, show manyOf 115 = 2 from rfl, HP.out]
        simp only
        rw [if_neg (fun e => absurd e.1 (by decide))]
        refine ⟨⟨.slice (some ⟨g, 0, none⟩) (List.map (fun x => mkB x.enc) [a, b]).length c', ?_, ?_⟩, ?_⟩
        · rw [← hE]; rfl
        · exact strs_own (Keep.own (F := fun i => i = B) (Keep.setCell (fun i => i = B) wr (p := ⟨B, 0, none⟩) rfl _) HO.out.2.1 fun q e1 e2 => by have := own_new HO.out.2.1 q e1; omega)
        · exact ((Keep.of_below HO.out.2.2 : Keep (fun q => w.heap.size ≤ q) w wr).same (Keep.setCell (fun q => w.heap.size ≤ q) wr (p := ⟨B, 0, none⟩) (Nat.le_of_eq HB.out) _)).new
      obtain ⟨pl, hpl⟩ : ∃ pl, (List.map (fun x => mkB x.enc) [a, b]).length = pl := ⟨_, rfl⟩
      have hpl2 : pl = 2 := by rw [← hpl]; rfl
      have hc0' : wr.cell? ⟨B, 0, none⟩ = some (.string ⟨#[]⟩) := by rw [cell_of_row _ _ _ _ _ _ HO.out.1]; rfl
      have hc1' : wr.cell? ⟨B, 1, none⟩ = some (.slice (some ⟨g, 0, none⟩) (List.map (fun x => mkB x.enc) [a, b]).length c') := by rw [cell_of_row _ _ _ _ _ _ HO.out.1]; rfl
      have hf0' := frozen_of_row HO.out.1 0
      rw [hpl] at hX hc1'
      subst hpl2
      have HX := Lib.hid hX
      clear hX hpl hfl hn hE hlen hps hl hcells
      go_wp2_with fail
      go_ret
      exact HX.out _ rfl
set_option maxRecDepth 100000 in
set_option maxHeartbeats 4000000 in
theorem read_103_calls (d : Nat) (IH : Hid (∀ (s : ByteArray) (w : World), s.size ≤ 1000000000 → d ≤ 40 → Calls Tryz.prog 290 #[.string s, .int .i64 d] w (ReadOut w (toL s) d))) (s : ByteArray) (r : List UInt8) (w : World) (hl : s.data.toList = 103 :: r) (hs : s.size ≤ 1000000000) (hd : d + 1 ≤ 40) :
    Calls Tryz.prog 290 #[.string s, .int .i64 ((d + 1 : Nat) : Int)] w (ReadOut w (103 :: r) (d + 1)) := by
  have hsz : s.size = r.length + 1 := by have := list_size s; rw [hl] at this; exact this.symm
  have h0 : 0 < s.size := by omega
  have hc0 := first_of hl h0
  have hne : s.toList.isEmpty = false := by rw [ByteArray.toList_eq, hl]; rfl
  have hPP := Lib.hid (parse_parts (d := d) (c := 103) (r := r) (Or.inr rfl))
  rw [show ((d + 1 : Nat) : Int) = (d : Int) + 1 from rfl]
  have hd1 : ((d : Int) + 1 == 0) = false := by simp; omega
  go_enter Tryz.func290, Tryz.ntmps290
  go_wp2_with fail
  obtain ⟨B, hB⟩ : ∃ B, w.heap.size = B := ⟨_, rfl⟩
  have HB := Lib.hid hB
  rw [hB]
  clear hB
  go_loopw [7, 8, 32] (fun at_ x i wr => ∃ (k : Nat) (ts : List Tm) (rest : List UInt8) (vl : Value), k ≤ 2 ∧ i = .int .i64 k ∧ at_ = .int .i64 (1 + ((ts.flatMap Tm.enc).length : Int)) ∧ Hid (parseN d k r = some (ts, rest)) ∧ Hid (wr.heap[B]? = some (.cells #[.string ⟨#[]⟩, vl] 267 (0, 0)) ∧ wr.ownsRow (B + 1) 9 1 vl (ts.map fun x => mkB x.enc).length (strV (ts.map fun x => mkB x.enc)) ∧ Below w.heap.size w wr)) (fun _ _ i _ => 2 - (intOf i).toNat)
  case atStart => exact ⟨0, [], r, .slice none 0 0, Nat.zero_le _, rfl, rfl, rfl, by rw [get_alloc, if_pos HB.out.symm], own_nil _ _ _ _, (Below.refl _ w).alloc (Nat.le_refl _) _⟩
  case round =>
    obtain ⟨k, ts, rest, vl, hk, rfl, rfl, HP, HO⟩ := hrel
    have hps := (parseN_some HP.out).1
    by_cases hlt : k < 2
    · have hat : s.extract ((103 :: ts.flatMap Tm.enc).length) s.size = mkB rest := back_of (by rw [hl, hps]; rfl)
      have hle : (ts.flatMap Tm.enc).length ≤ r.length := by rw [hps]; simp
      rw [List.length_cons, hsz] at hat
      obtain ⟨n, hn⟩ : ∃ n, (ts.flatMap Tm.enc).length = n := ⟨_, rfl⟩
      rw [hn] at hat hle ⊢
      have hRs : (mkB rest).size ≤ 1000000000 := by
        rw [mkB_size]; have : r.length = n + rest.length := by rw [hps]; simp [hn]
        omega
      have h3 := IH.out (mkB rest) wr hRs (by omega)
      rw [show toL (mkB rest) = rest from mkB_list rest] at h3
      obtain ⟨R, hR⟩ : ∃ R, mkB rest = R := ⟨_, rfl⟩
      rw [hR] at h3 hat
      have hs3 : (1 + (n : Int)).toNat = n + 1 := by omega
      have hs5 : (d : Int) + 1 - 1 = (d : Int) := by omega
      have HL := Lib.hid hl
      have HPS := Lib.hid hps
      cases hpd : parse d rest with
      | none =>
        unfold ReadOut at h3
        rw [hpd] at h3
        have HC := Lib.hid h3
        have HNO := Lib.hid (parseN_stop HP.out hpd hlt)
        clear h3 hl hps hR hRs hn hpd
        have HX : Hid (∀ e w', (e = .returned .nilIface ∧ Below w.heap.size w w') → ReadOut w (103 :: r) (d + 1) e w') := Lib.hid (by
          rintro e w' ⟨rfl, hb⟩
          unfold ReadOut
          rw [hPP.out, show manyOf 103 = 2 from rfl, HNO.out]
          exact ⟨rfl, hb⟩)
        go_wp2_with fail
        refine HC.out.mono ?_
        rintro e w1 ⟨rfl, hb⟩
        have HB2 := Lib.hid (HO.out.2.2.trans (hb.mono HO.out.2.2.size))
        clear hb
        go_wp2_with fail
        go_ret
        exact HX.out _ _ ⟨rfl, HB2.out⟩
      | some p =>
        obtain ⟨a, q⟩ := p
        unfold ReadOut at h3
        rw [hpd] at h3
        have HC := Lib.hid h3
        have HN := Lib.hid (parseN_snoc HP.out hpd)
        have HPD := Lib.hid hpd
        clear h3 hR hRs
        have HLL := Lib.hid hl
        have HPS2 := Lib.hid hps
        have HNN := Lib.hid hn
        clear hpd hl hps hn
        go_wp2_with fail
        refine HC.out.mono ?_
        rintro e w1 ⟨⟨vl2, rfl, hv2⟩, hb⟩
        obtain ⟨T, g, hT, hEq, K, hM, hCF, hCC⟩ := node_iface (mkB a.enc) a hv2
        rw [hT]
        have HBB := Lib.hid hb
        have HCC := Lib.hid hCC
        have hc1 : w1.cell? ⟨B, 1, none⟩ = some vl := (Keep.of_below hb : Keep (fun _ => False) wr w1).cell (by rw [cell_of_row _ _ _ _ _ _ HO.out.1]; rfl) fun e => e
        clear hb hT hv2 hCC
        go_wp2_with fail
        refine wp_region_G (fun w' => w'.cell? ⟨B, 1, none⟩ = some vl) [7] (by kernel_rfl) ?_
        have hS : (fun w' : World => w'.cell? ⟨B, 1, none⟩ = some vl) w1.drew := by dsimp only; go_simp
        refine wpAnyG_pure (i := 0) (v := ?va0) at0 (by kernel_rfl) (fun _ _ _ h => h) (Or.inl ⟨by rfl, ?ha0⟩) (Or.inr (by assumption)) ?ra0
        case ha0 => (intro w hSw; (try dsimp only at hSw); go_simp; try with_reducible rfl)
        case' ra0 => skip
        try simp only [Act.put, List.setIfInBounds_toArray, List.set_cons_zero, List.set_cons_succ]
        refine wpAnyG_take (ws := [0,1,2,3,4,5]) (i := 1) (v := ?va1) at1 (by kernel_rfl) (fun _ _ _ h => h) (Or.inl ⟨by rfl, ?ha1⟩) (by assumption) ?ra1
        case ha1 => (intro w hSw; (try dsimp only at hSw); go_simp; try with_reducible rfl)
        case' ra1 => skip
        try simp only [Act.put, List.setIfInBounds_toArray, List.set_cons_zero, List.set_cons_succ]
        refine wpAnyG_pure (i := 2) (v := ?va2) at2 (by kernel_rfl) (fun _ _ _ h => h) (Or.inl ⟨by rfl, ?ha2⟩) (Or.inr (by assumption)) ?ra2
        case ha2 => (intro w hSw; (try dsimp only at hSw); go_simp; try with_reducible rfl)
        case' ra2 => skip
        try simp only [Act.put, List.setIfInBounds_toArray, List.set_cons_zero, List.set_cons_succ]
        refine wpAnyG_one 3 at3 (by kernel_rfl) (fun Kn hK => ?_)
        go_simp
        refine (HCC.out _).mono ?_
        rintro e w2 ⟨rfl, hb2⟩
        have hS2 : w2.cell? ⟨B, 1, none⟩ = some vl := (Keep.of_below hb2 : Keep (fun _ => False) _ w2).cell hS fun e => e
        have hb12 : Below wr.heap.size wr w2 := HBB.out.drew.trans (hb2.mono HBB.out.drew.size)
        have hown := own_below HO.out.2.1 hb12
        have hbel2 : Below w.heap.size w w2 := HO.out.2.2.trans (hb12.mono HO.out.2.2.size)
        have hheap : w2.heap[B]? = some (.cells #[.string ⟨#[]⟩, vl] 267 (0, 0)) := (Keep.of_below hb12 : Keep (fun _ => False) wr w2).at HO.out.1 fun e => e
        have hBlt : B < w2.heap.size := (Array.getElem?_eq_some_iff.1 hheap).1
        obtain ⟨p', w3, hrun, ho3, hk3⟩ := append_str hown (mkB a.enc) (by rw [List.length_map, (parseN_some HP.out).2]; omega) hBlt
        obtain ⟨A', c', rfl, _, _⟩ := own_slice ho3
        have hvB : ¬ (vl.ownBlock = some B) := fun e => by have := own_new hown B e; omega
        have hheap3 := hk3.at hheap hvB
        have hS3 : w3.cell? ⟨B, 1, none⟩ = some vl := by
          rw [cell_of_row _ _ _ _ _ _ hheap3]; rfl
        have hfz3 := frozen_of_row hheap3 1
        have hHX : Hid ((w3.setCell ⟨B, 1, none⟩ (.slice A' (List.map (fun x => mkB x.enc) ts ++ [mkB a.enc]).length c')).heap[B]? = some (.cells #[.string ⟨#[]⟩, .slice A' (List.map (fun x => mkB x.enc) ts ++ [mkB a.enc]).length c'] 267 (0, 0)) ∧ (w3.setCell ⟨B, 1, none⟩ (.slice A' (List.map (fun x => mkB x.enc) ts ++ [mkB a.enc]).length c')).ownsRow (B + 1) 9 1 (.slice A' (List.map (fun x => mkB x.enc) ts ++ [mkB a.enc]).length c') ((ts ++ [a]).map fun x => mkB x.enc).length (strV ((ts ++ [a]).map fun x => mkB x.enc)) ∧ Below w.heap.size w (w3.setCell ⟨B, 1, none⟩ (.slice A' (List.map (fun x => mkB x.enc) ts ++ [mkB a.enc]).length c'))) := by
          rw [List.map_append]
          refine ⟨set_at hheap3 1 _, ?_, ?_⟩
          · exact Keep.own (F := fun i => i = B) (Keep.setCell (fun i => i = B) w3 (p := ⟨B, 1, none⟩) rfl _) ho3 fun q e1 e2 => by have := own_new ho3 q e1; omega
          · exact (((Keep.of_below hbel2 : Keep (fun q => w.heap.size ≤ q) w w2).same (hk3.mono fun q e1 => by have := own_new hown q e1; have := HB.out; omega)).same (Keep.setCell (fun q => w.heap.size ≤ q) w3 (p := ⟨B, 1, none⟩) (Nat.le_of_eq HB.out) _)).new
        obtain ⟨pl, hpl⟩ : ∃ pl, (List.map (fun x => mkB x.enc) ts ++ [mkB a.enc]).length = pl := ⟨_, rfl⟩
        rw [hpl] at hrun hHX
        clear hb2 hb12 hown hbel2 hheap hBlt hvB hheap3 ho3 hk3 hpl
        refine hK.out _ _ (Or.inr hS2) ?_
        clear hK Kn
        try simp only [Act.put, List.setIfInBounds_toArray, List.set_cons_zero, List.set_cons_succ]
        refine wpAnyG_one 4 at4 (by kernel_rfl) (fun Kn hK => ?_)
        go_simp
        refine hK.out _ _ (Or.inr ((Keep.alloc (fun _ => False) w2 _).cell hS2 fun e => e)) ?_
        clear hK Kn
        try simp only [Act.put, List.setIfInBounds_toArray, List.set_cons_zero, List.set_cons_succ]
        refine wpAnyG_one 5 at5 (by kernel_rfl) (fun Kn hK => ?_)
        refine step_append_run rfl _ _ _ rfl rfl rfl hrun ?_
        refine hK.out _ _ (Or.inr hS3) ?_
        clear hK Kn hrun
        try simp only [Act.put, List.setIfInBounds_toArray, List.set_cons_zero, List.set_cons_succ]
        refine wpAnyG_pure (i := 6) (v := ?vb6) at6 (by kernel_rfl) (fun _ _ _ h => h) (Or.inl ⟨by rfl, ?hb6⟩) (Or.inr (by assumption)) ?rb6
        case hb6 => (intro w hSw; (try dsimp only at hSw); go_simp; try with_reducible rfl)
        case' rb6 => skip
        try simp only [Act.put, List.setIfInBounds_toArray, List.set_cons_zero, List.set_cons_succ]
        refine wpAnyG_one 7 at7 (by kernel_rfl) (fun Kn hK => ?_)
        go_simp
        refine hK.out _ _ (Or.inl (by kernel_rfl)) ?_
        clear hK Kn
        refine wpAnyG_done (by kernel_rfl) ?_
        have hsz2 := mkB_size a.enc
        obtain ⟨la, hla⟩ : ∃ la, a.enc.length = la := ⟨_, rfl⟩
        have HLA := Lib.hid hla
        rw [hla] at hsz2
        have hla2 : la ≤ 1000000000 := by
          have e2 := (parse_some HPD.out).1
          have : r.length = n + rest.length := by rw [HPS2.out]; simp [HNN.out]
          rw [e2, List.length_append, hla] at this
          omega
        clear hS hS2 hS3 hfz3 hc1 hla
        go_wp2_with fail
        refine (HCC.out _).mono ?_
        rintro e w4 ⟨rfl, hb4⟩
        have HH4 : Hid (w4.heap[B]? = some (.cells #[.string ⟨#[]⟩, .slice A' pl c'] 267 (0, 0)) ∧ w4.ownsRow (B + 1) 9 1 (.slice A' pl c') ((ts ++ [a]).map fun x => mkB x.enc).length (strV ((ts ++ [a]).map fun x => mkB x.enc)) ∧ Below w.heap.size w w4) :=
          Lib.hid ⟨(Keep.of_below hb4 : Keep (fun _ => False) _ w4).at hHX.out.1 fun e => e, own_below hHX.out.2.1 hb4, hHX.out.2.2.trans (hb4.mono hHX.out.2.2.size)⟩
        clear hb4 hHX
        go_wp2_with fail
        go_roundw
        case rel =>
          refine ⟨k + 1, ts ++ [a], q, .slice A' pl c', by omega, by go_num, ?_, HN, HH4⟩
          rw [List.flatMap_append, List.length_append, HNN.out]
          simp [HLA.out]
          omega
        case measure => simp [intOf]; omega
    · obtain rfl : k = 2 := by omega
      have hlen : ts.length = 2 := (parseN_some HP.out).2
      obtain ⟨a, b, rfl⟩ : ∃ a b, ts = [a, b] := by
        match ts, hlen with
        | [a, b], _ => exact ⟨a, b, rfl⟩
      have hfl : ([a, b].flatMap Tm.enc) = a.enc ++ b.enc := by simp
      have hat : s.extract 0 ((103 :: (a.enc ++ b.enc)).length) = mkB (103 :: (a.enc ++ b.enc)) := front_of (b := rest) (by rw [hl, hps]; simp)
      have hle : (a.enc ++ b.enc).length ≤ r.length := by rw [hps]; simp
      rw [List.length_cons] at hat
      rw [hfl]
      obtain ⟨n, hn⟩ : ∃ n, (a.enc ++ b.enc).length = n := ⟨_, rfl⟩
      rw [hn] at hat hle ⊢
      obtain ⟨E, hE⟩ : ∃ E, mkB (103 :: (a.enc ++ b.enc)) = E := ⟨_, rfl⟩
      rw [hE] at hat
      have hs3 : (1 + (n : Int)).toNat = n + 1 := by omega
      obtain ⟨g, c', rfl, _, hcells⟩ := own_block HO.out.2.1 (by simp)
      have HOwn := Lib.hid HO.out.2.1
      have hX : ∀ e, e = .returned (.iface 267 (.agg #[.string E, .slice (some ⟨g, 0, none⟩) (List.map (fun x => mkB x.enc) [a, b]).length c'])) → ReadOut w (103 :: r) (d + 1) e (wr.setCell ⟨B, 0, none⟩ (.string E)) := by
        rintro e rfl
        unfold ReadOut
        rw [hPP.out, show manyOf 103 = 2 from rfl, HP.out]
        simp only
        rw [if_neg (fun e => absurd e.1 (by decide))]
        refine ⟨⟨.slice (some ⟨g, 0, none⟩) (List.map (fun x => mkB x.enc) [a, b]).length c', ?_, ?_⟩, ?_⟩
        · rw [← hE]; rfl
        · exact strs_own (Keep.own (F := fun i => i = B) (Keep.setCell (fun i => i = B) wr (p := ⟨B, 0, none⟩) rfl _) HO.out.2.1 fun q e1 e2 => by have := own_new HO.out.2.1 q e1; omega)
        · exact ((Keep.of_below HO.out.2.2 : Keep (fun q => w.heap.size ≤ q) w wr).same (Keep.setCell (fun q => w.heap.size ≤ q) wr (p := ⟨B, 0, none⟩) (Nat.le_of_eq HB.out) _)).new
      obtain ⟨pl, hpl⟩ : ∃ pl, (List.map (fun x => mkB x.enc) [a, b]).length = pl := ⟨_, rfl⟩
      have hpl2 : pl = 2 := by rw [← hpl]; rfl
      have hc0' : wr.cell? ⟨B, 0, none⟩ = some (.string ⟨#[]⟩) := by rw [cell_of_row _ _ _ _ _ _ HO.out.1]; rfl
      have hc1' : wr.cell? ⟨B, 1, none⟩ = some (.slice (some ⟨g, 0, none⟩) (List.map (fun x => mkB x.enc) [a, b]).length c') := by rw [cell_of_row _ _ _ _ _ _ HO.out.1]; rfl
      have hf0' := frozen_of_row HO.out.1 0
      rw [hpl] at hX hc1'
      subst hpl2
      have HX := Lib.hid hX
      clear hX hpl hfl hn hE hlen hps hl hcells
      go_wp2_with fail
      go_ret
      exact HX.out _ rfl
set_option maxRecDepth 100000 in
set_option maxHeartbeats 4000000 in
theorem read_98_calls (d : Nat) (IH : Hid (∀ (s : ByteArray) (w : World), s.size ≤ 1000000000 → d ≤ 40 → Calls Tryz.prog 290 #[.string s, .int .i64 d] w (ReadOut w (toL s) d))) (s : ByteArray) (r : List UInt8) (w : World) (hl : s.data.toList = 98 :: r) (hs : s.size ≤ 1000000000) (hd : d + 1 ≤ 40) :
    Calls Tryz.prog 290 #[.string s, .int .i64 ((d + 1 : Nat) : Int)] w (ReadOut w (98 :: r) (d + 1)) := by
  have hsz : s.size = r.length + 1 := by have := list_size s; rw [hl] at this; exact this.symm
  have h0 : 0 < s.size := by omega
  have hc0 := first_of hl h0
  have hne : s.toList.isEmpty = false := by rw [ByteArray.toList_eq, hl]; rfl
  have hPP := Lib.hid (parse_parts (d := d) (c := 98) (r := r) (Or.inr rfl))
  rw [show ((d + 1 : Nat) : Int) = (d : Int) + 1 from rfl]
  have hd1 : ((d : Int) + 1 == 0) = false := by simp; omega
  go_enter Tryz.func290, Tryz.ntmps290
  go_wp2_with fail
  obtain ⟨B, hB⟩ : ∃ B, w.heap.size = B := ⟨_, rfl⟩
  have HB := Lib.hid hB
  rw [hB]
  clear hB
  go_loopw [7, 8, 32] (fun at_ x i wr => ∃ (k : Nat) (ts : List Tm) (rest : List UInt8) (vl : Value), k ≤ 2 ∧ i = .int .i64 k ∧ at_ = .int .i64 (1 + ((ts.flatMap Tm.enc).length : Int)) ∧ Hid (parseN d k r = some (ts, rest)) ∧ Hid (wr.heap[B]? = some (.cells #[.string ⟨#[]⟩, vl] 267 (0, 0)) ∧ wr.ownsRow (B + 1) 9 1 vl (ts.map fun x => mkB x.enc).length (strV (ts.map fun x => mkB x.enc)) ∧ Below w.heap.size w wr)) (fun _ _ i _ => 2 - (intOf i).toNat)
  case atStart => exact ⟨0, [], r, .slice none 0 0, Nat.zero_le _, rfl, rfl, rfl, by rw [get_alloc, if_pos HB.out.symm], own_nil _ _ _ _, (Below.refl _ w).alloc (Nat.le_refl _) _⟩
  case round =>
    obtain ⟨k, ts, rest, vl, hk, rfl, rfl, HP, HO⟩ := hrel
    have hps := (parseN_some HP.out).1
    by_cases hlt : k < 2
    · have hat : s.extract ((98 :: ts.flatMap Tm.enc).length) s.size = mkB rest := back_of (by rw [hl, hps]; rfl)
      have hle : (ts.flatMap Tm.enc).length ≤ r.length := by rw [hps]; simp
      rw [List.length_cons, hsz] at hat
      obtain ⟨n, hn⟩ : ∃ n, (ts.flatMap Tm.enc).length = n := ⟨_, rfl⟩
      rw [hn] at hat hle ⊢
      have hRs : (mkB rest).size ≤ 1000000000 := by
        rw [mkB_size]; have : r.length = n + rest.length := by rw [hps]; simp [hn]
        omega
      have h3 := IH.out (mkB rest) wr hRs (by omega)
      rw [show toL (mkB rest) = rest from mkB_list rest] at h3
      obtain ⟨R, hR⟩ : ∃ R, mkB rest = R := ⟨_, rfl⟩
      rw [hR] at h3 hat
      have hs3 : (1 + (n : Int)).toNat = n + 1 := by omega
      have hs5 : (d : Int) + 1 - 1 = (d : Int) := by omega
      have HL := Lib.hid hl
      have HPS := Lib.hid hps
      cases hpd : parse d rest with
      | none =>
        unfold ReadOut at h3
        rw [hpd] at h3
        have HC := Lib.hid h3
        have HNO := Lib.hid (parseN_stop HP.out hpd hlt)
        clear h3 hl hps hR hRs hn hpd
        have HX : Hid (∀ e w', (e = .returned .nilIface ∧ Below w.heap.size w w') → ReadOut w (98 :: r) (d + 1) e w') := Lib.hid (by
          rintro e w' ⟨rfl, hb⟩
          unfold ReadOut
          rw [hPP.out, show manyOf 98 = 2 from rfl, HNO.out]
          exact ⟨rfl, hb⟩)
        go_wp2_with fail
        refine HC.out.mono ?_
        rintro e w1 ⟨rfl, hb⟩
        have HB2 := Lib.hid (HO.out.2.2.trans (hb.mono HO.out.2.2.size))
        clear hb
        go_wp2_with fail
        go_ret
        exact HX.out _ _ ⟨rfl, HB2.out⟩
      | some p =>
        obtain ⟨a, q⟩ := p
        unfold ReadOut at h3
        rw [hpd] at h3
        have HC := Lib.hid h3
        have HN := Lib.hid (parseN_snoc HP.out hpd)
        have HPD := Lib.hid hpd
        clear h3 hR hRs
        have HLL := Lib.hid hl
        have HPS2 := Lib.hid hps
        have HNN := Lib.hid hn
        clear hpd hl hps hn
        go_wp2_with fail
        refine HC.out.mono ?_
        rintro e w1 ⟨⟨vl2, rfl, hv2⟩, hb⟩
        obtain ⟨T, g, hT, hEq, K, hM, hCF, hCC⟩ := node_iface (mkB a.enc) a hv2
        rw [hT]
        have HBB := Lib.hid hb
        have HCC := Lib.hid hCC
        have hc1 : w1.cell? ⟨B, 1, none⟩ = some vl := (Keep.of_below hb : Keep (fun _ => False) wr w1).cell (by rw [cell_of_row _ _ _ _ _ _ HO.out.1]; rfl) fun e => e
        clear hb hT hv2 hCC
        go_wp2_with fail
        refine wp_region_G (fun w' => w'.cell? ⟨B, 1, none⟩ = some vl) [7] (by kernel_rfl) ?_
        have hS : (fun w' : World => w'.cell? ⟨B, 1, none⟩ = some vl) w1.drew := by dsimp only; go_simp
        refine wpAnyG_pure (i := 0) (v := ?va0) at0 (by kernel_rfl) (fun _ _ _ h => h) (Or.inl ⟨by rfl, ?ha0⟩) (Or.inr (by assumption)) ?ra0
        case ha0 => (intro w hSw; (try dsimp only at hSw); go_simp; try with_reducible rfl)
        case' ra0 => skip
        try simp only [Act.put, List.setIfInBounds_toArray, List.set_cons_zero, List.set_cons_succ]
        refine wpAnyG_take (ws := [0,1,2,3,4,5]) (i := 1) (v := ?va1) at1 (by kernel_rfl) (fun _ _ _ h => h) (Or.inl ⟨by rfl, ?ha1⟩) (by assumption) ?ra1
        case ha1 => (intro w hSw; (try dsimp only at hSw); go_simp; try with_reducible rfl)
        case' ra1 => skip
        try simp only [Act.put, List.setIfInBounds_toArray, List.set_cons_zero, List.set_cons_succ]
        refine wpAnyG_pure (i := 2) (v := ?va2) at2 (by kernel_rfl) (fun _ _ _ h => h) (Or.inl ⟨by rfl, ?ha2⟩) (Or.inr (by assumption)) ?ra2
        case ha2 => (intro w hSw; (try dsimp only at hSw); go_simp; try with_reducible rfl)
        case' ra2 => skip
        try simp only [Act.put, List.setIfInBounds_toArray, List.set_cons_zero, List.set_cons_succ]
        refine wpAnyG_one 3 at3 (by kernel_rfl) (fun Kn hK => ?_)
        go_simp
        refine (HCC.out _).mono ?_
        rintro e w2 ⟨rfl, hb2⟩
        have hS2 : w2.cell? ⟨B, 1, none⟩ = some vl := (Keep.of_below hb2 : Keep (fun _ => False) _ w2).cell hS fun e => e
        have hb12 : Below wr.heap.size wr w2 := HBB.out.drew.trans (hb2.mono HBB.out.drew.size)
        have hown := own_below HO.out.2.1 hb12
        have hbel2 : Below w.heap.size w w2 := HO.out.2.2.trans (hb12.mono HO.out.2.2.size)
        have hheap : w2.heap[B]? = some (.cells #[.string ⟨#[]⟩, vl] 267 (0, 0)) := (Keep.of_below hb12 : Keep (fun _ => False) wr w2).at HO.out.1 fun e => e
        have hBlt : B < w2.heap.size := (Array.getElem?_eq_some_iff.1 hheap).1
        obtain ⟨p', w3, hrun, ho3, hk3⟩ := append_str hown (mkB a.enc) (by rw [List.length_map, (parseN_some HP.out).2]; omega) hBlt
        obtain ⟨A', c', rfl, _, _⟩ := own_slice ho3
        have hvB : ¬ (vl.ownBlock = some B) := fun e => by have := own_new hown B e; omega
        have hheap3 := hk3.at hheap hvB
        have hS3 : w3.cell? ⟨B, 1, none⟩ = some vl := by
          rw [cell_of_row _ _ _ _ _ _ hheap3]; rfl
        have hfz3 := frozen_of_row hheap3 1
        have hHX : Hid ((w3.setCell ⟨B, 1, none⟩ (.slice A' (List.map (fun x => mkB x.enc) ts ++ [mkB a.enc]).length c')).heap[B]? = some (.cells #[.string ⟨#[]⟩, .slice A' (List.map (fun x => mkB x.enc) ts ++ [mkB a.enc]).length c'] 267 (0, 0)) ∧ (w3.setCell ⟨B, 1, none⟩ (.slice A' (List.map (fun x => mkB x.enc) ts ++ [mkB a.enc]).length c')).ownsRow (B + 1) 9 1 (.slice A' (List.map (fun x => mkB x.enc) ts ++ [mkB a.enc]).length c') ((ts ++ [a]).map fun x => mkB x.enc).length (strV ((ts ++ [a]).map fun x => mkB x.enc)) ∧ Below w.heap.size w (w3.setCell ⟨B, 1, none⟩ (.slice A' (List.map (fun x => mkB x.enc) ts ++ [mkB a.enc]).length c'))) := by
          rw [List.map_append]
          refine ⟨set_at hheap3 1 _, ?_, ?_⟩
          · exact Keep.own (F := fun i => i = B) (Keep.setCell (fun i => i = B) w3 (p := ⟨B, 1, none⟩) rfl _) ho3 fun q e1 e2 => by have := own_new ho3 q e1; omega
          · exact (((Keep.of_below hbel2 : Keep (fun q => w.heap.size ≤ q) w w2).same (hk3.mono fun q e1 => by have := own_new hown q e1; have := HB.out; omega)).same (Keep.setCell (fun q => w.heap.size ≤ q) w3 (p := ⟨B, 1, none⟩) (Nat.le_of_eq HB.out) _)).new
        obtain ⟨pl, hpl⟩ : ∃ pl, (List.map (fun x => mkB x.enc) ts ++ [mkB a.enc]).length = pl := ⟨_, rfl⟩
        rw [hpl] at hrun hHX
        clear hb2 hb12 hown hbel2 hheap hBlt hvB hheap3 ho3 hk3 hpl
        refine hK.out _ _ (Or.inr hS2) ?_
        clear hK Kn
        try simp only [Act.put, List.setIfInBounds_toArray, List.set_cons_zero, List.set_cons_succ]
        refine wpAnyG_one 4 at4 (by kernel_rfl) (fun Kn hK => ?_)
        go_simp
        refine hK.out _ _ (Or.inr ((Keep.alloc (fun _ => False) w2 _).cell hS2 fun e => e)) ?_
        clear hK Kn
        try simp only [Act.put, List.setIfInBounds_toArray, List.set_cons_zero, List.set_cons_succ]
        refine wpAnyG_one 5 at5 (by kernel_rfl) (fun Kn hK => ?_)
        refine step_append_run rfl _ _ _ rfl rfl rfl hrun ?_
        refine hK.out _ _ (Or.inr hS3) ?_
        clear hK Kn hrun
        try simp only [Act.put, List.setIfInBounds_toArray, List.set_cons_zero, List.set_cons_succ]
        refine wpAnyG_pure (i := 6) (v := ?vb6) at6 (by kernel_rfl) (fun _ _ _ h => h) (Or.inl ⟨by rfl, ?hb6⟩) (Or.inr (by assumption)) ?rb6
        case hb6 => (intro w hSw; (try dsimp only at hSw); go_simp; try with_reducible rfl)
        case' rb6 => skip
        try simp only [Act.put, List.setIfInBounds_toArray, List.set_cons_zero, List.set_cons_succ]
        refine wpAnyG_one 7 at7 (by kernel_rfl) (fun Kn hK => ?_)
        go_simp
        refine hK.out _ _ (Or.inl (by kernel_rfl)) ?_
        clear hK Kn
        refine wpAnyG_done (by kernel_rfl) ?_
        have hsz2 := mkB_size a.enc
        obtain ⟨la, hla⟩ : ∃ la, a.enc.length = la := ⟨_, rfl⟩
        have HLA := Lib.hid hla
        rw [hla] at hsz2
        have hla2 : la ≤ 1000000000 := by
          have e2 := (parse_some HPD.out).1
          have : r.length = n + rest.length := by rw [HPS2.out]; simp [HNN.out]
          rw [e2, List.length_append, hla] at this
          omega
        clear hS hS2 hS3 hfz3 hc1 hla
        go_wp2_with fail
        refine (HCC.out _).mono ?_
        rintro e w4 ⟨rfl, hb4⟩
        have HH4 : Hid (w4.heap[B]? = some (.cells #[.string ⟨#[]⟩, .slice A' pl c'] 267 (0, 0)) ∧ w4.ownsRow (B + 1) 9 1 (.slice A' pl c') ((ts ++ [a]).map fun x => mkB x.enc).length (strV ((ts ++ [a]).map fun x => mkB x.enc)) ∧ Below w.heap.size w w4) :=
          Lib.hid ⟨(Keep.of_below hb4 : Keep (fun _ => False) _ w4).at hHX.out.1 fun e => e, own_below hHX.out.2.1 hb4, hHX.out.2.2.trans (hb4.mono hHX.out.2.2.size)⟩
        clear hb4 hHX
        go_wp2_with fail
        go_roundw
        case rel =>
          refine ⟨k + 1, ts ++ [a], q, .slice A' pl c', by omega, by go_num, ?_, HN, HH4⟩
          rw [List.flatMap_append, List.length_append, HNN.out]
          simp [HLA.out]
          omega
        case measure => simp [intOf]; omega
    · obtain rfl : k = 2 := by omega
      have hlen : ts.length = 2 := (parseN_some HP.out).2
      obtain ⟨a, b, rfl⟩ : ∃ a b, ts = [a, b] := by
        match ts, hlen with
        | [a, b], _ => exact ⟨a, b, rfl⟩
      have hfl : ([a, b].flatMap Tm.enc) = a.enc ++ b.enc := by simp
      have hat : s.extract 0 ((98 :: (a.enc ++ b.enc)).length) = mkB (98 :: (a.enc ++ b.enc)) := front_of (b := rest) (by rw [hl, hps]; simp)
      have hle : (a.enc ++ b.enc).length ≤ r.length := by rw [hps]; simp
      rw [List.length_cons] at hat
      rw [hfl]
      obtain ⟨n, hn⟩ : ∃ n, (a.enc ++ b.enc).length = n := ⟨_, rfl⟩
      rw [hn] at hat hle ⊢
      obtain ⟨E, hE⟩ : ∃ E, mkB (98 :: (a.enc ++ b.enc)) = E := ⟨_, rfl⟩
      rw [hE] at hat
      have hs3 : (1 + (n : Int)).toNat = n + 1 := by omega
      obtain ⟨g, c', rfl, _, hcells⟩ := own_block HO.out.2.1 (by simp)
      have HOwn := Lib.hid HO.out.2.1
      have hcg := (hcells 0 (.string (mkB a.enc)) rfl).1
      have hX : a.kind = 117 → ∀ e, e = .returned (.iface 267 (.agg #[.string E, .slice (some ⟨g, 0, none⟩) (List.map (fun x => mkB x.enc) [a, b]).length c'])) → ReadOut w (98 :: r) (d + 1) e (wr.setCell ⟨B, 0, none⟩ (.string E)) := by
        rintro hk e rfl
        unfold ReadOut
        rw [hPP.out, show manyOf 98 = 2 from rfl, HP.out]
        simp only
        rw [if_neg (fun e => e.2 hk)]
        refine ⟨⟨.slice (some ⟨g, 0, none⟩) (List.map (fun x => mkB x.enc) [a, b]).length c', ?_, ?_⟩, ?_⟩
        · rw [← hE]; rfl
        · exact strs_own (Keep.own (F := fun i => i = B) (Keep.setCell (fun i => i = B) wr (p := ⟨B, 0, none⟩) rfl _) HO.out.2.1 fun q e1 e2 => by have := own_new HO.out.2.1 q e1; omega)
        · exact ((Keep.of_below HO.out.2.2 : Keep (fun q => w.heap.size ≤ q) w wr).same (Keep.setCell (fun q => w.heap.size ≤ q) wr (p := ⟨B, 0, none⟩) (Nat.le_of_eq HB.out) _)).new
      have hX2 : a.kind ≠ 117 → ∀ e, e = .returned .nilIface → ReadOut w (98 :: r) (d + 1) e wr := by
        rintro hk e rfl
        unfold ReadOut
        rw [hPP.out, show manyOf 98 = 2 from rfl, HP.out]
        simp only
        rw [if_pos (by first | exact ⟨rfl, hk⟩ | exact ⟨trivial, hk⟩)]
        exact ⟨by first | trivial | rfl | simp, HO.out.2.2⟩
      have ha0 : 0 < (mkB a.enc).size := by rw [mkB_size]; exact List.length_pos_iff.2 a.enc_ne
      have hak : (((mkB a.enc)[0]'ha0).toNat : Int) = (a.kind.toNat : Int) := by
        obtain ⟨l, hal⟩ := a.enc_head
        rw [first_of (s := mkB a.enc) (r := l) (by rw [mkB_list]; exact hal) ha0]
      obtain ⟨pl, hpl⟩ : ∃ pl, (List.map (fun x => mkB x.enc) [a, b]).length = pl := ⟨_, rfl⟩
      have hpl2 : pl = 2 := by rw [← hpl]; rfl
      have hc0' : wr.cell? ⟨B, 0, none⟩ = some (.string ⟨#[]⟩) := by rw [cell_of_row _ _ _ _ _ _ HO.out.1]; rfl
      have hc1' : wr.cell? ⟨B, 1, none⟩ = some (.slice (some ⟨g, 0, none⟩) (List.map (fun x => mkB x.enc) [a, b]).length c') := by rw [cell_of_row _ _ _ _ _ _ HO.out.1]; rfl
      have hf0' := frozen_of_row HO.out.1 0
      rw [hpl] at hX hc1'
      subst hpl2
      have HX := Lib.hid hX
      have HX2 := Lib.hid hX2
      obtain ⟨ab, hab⟩ : ∃ ab, mkB a.enc = ab := ⟨_, rfl⟩
      have hak2 : ∃ h : 0 < ab.size, ((ab[0]'h).toNat : Int) = (a.kind.toNat : Int) := by subst hab; exact ⟨ha0, hak⟩
      obtain ⟨hab0, hak3⟩ := hak2
      rw [hab] at hcg
      clear hak ha0 hab hcells
      clear hX hX2 hpl hfl hn hE hlen hps hl
      by_cases hk : a.kind = 117
      · have HXX := Lib.hid (HX.out hk)
        rw [hk] at hak3
        clear hk
        go_wp2_with fail
        go_ret
        exact HXX.out _ rfl
      · have HXX := Lib.hid (HX2.out hk)
        have f1 : ((a.kind.toNat : Int) == 117) = false := by
          rw [beq_eq_false_iff_ne]
          intro e
          apply hk
          exact UInt8.toNat_inj.1 (by show a.kind.toNat = 117; omega)
        have f2 : ((a.kind.toNat : Int) != 117) = true := by simp only [bne, f1]; rfl
        clear hk
        go_wp2_with fail
        go_ret
        exact HXX.out _ rfl
set_option maxRecDepth 100000 in
set_option maxHeartbeats 4000000 in
theorem read_other_calls (d : Nat) (s : ByteArray) (c : UInt8) (r : List UInt8) (w : World) (hl : s.data.toList = c :: r) (hs : s.size ≤ 1000000000) (hd : d + 1 ≤ 40) (h1 : c ≠ 97) (h2 : c ≠ 116) (h3 : isOne c = false) (h4 : isTwo c = false) :
    Calls Tryz.prog 290 #[.string s, .int .i64 ((d + 1 : Nat) : Int)] w (ReadOut w (c :: r) (d + 1)) := by
  have hsz : s.size = r.length + 1 := by have := list_size s; rw [hl] at this; exact this.symm
  have h0 : 0 < s.size := by omega
  have hne : s.toList.isEmpty = false := by rw [ByteArray.toList_eq, hl]; rfl
  have hc0 : (s[0]'h0).toNat = c.toNat := by rw [first_of hl h0]
  have key : ∀ (n : Nat) (u : UInt8), u.toNat = n → c ≠ u → ((c.toNat : Int) == (n : Int)) = false := fun n u hu hne => by
    rw [beq_eq_false_iff_ne]
    intro e
    exact hne (UInt8.toNat_inj.1 (by omega))
  simp only [isOne, isTwo, Bool.or_eq_false_iff, beq_eq_false_iff_ne] at h3 h4
  have f1 := key 97 97 rfl h1
  have f2 := key 116 116 rfl h2
  have f3 := key 104 104 rfl h3.1
  have f4 := key 117 117 rfl h3.2
  have f5 := key 112 112 rfl h4.1.1.1
  have f6 := key 115 115 rfl h4.1.1.2
  have f7 := key 98 98 rfl h4.1.2
  have f8 := key 103 103 rfl h4.2
  have HO : Hid (∀ e, e = .returned .nilIface → ReadOut w (c :: r) (d + 1) e w) := Lib.hid (by
    rintro e rfl
    refine ⟨?_, Below.refl _ _⟩
    unfold parse
    rw [if_neg h1, if_neg h2]
    have g1 : isOne c = false := by simp [isOne, h3]
    have g2 : isTwo c = false := by simp [isTwo, h4]
    rw [g1, g2]
    simp)
  rw [show ((d + 1 : Nat) : Int) = (d : Int) + 1 from rfl]
  have hd1 : ((d : Int) + 1 == 0) = false := by simp; omega
  obtain ⟨n, hn⟩ : ∃ n, c.toNat = n := ⟨_, rfl⟩
  simp only [hn] at hc0 f1 f2 f3 f4 f5 f6 f7 f8
  have hn2 : n ≤ 255 := by have := c.toNat_lt; omega
  clear h1 h2 h3 h4 key hl hn
  go_enter Tryz.func290, Tryz.ntmps290
  go_wp2_with fail
  go_ret
  exact HO.out _ rfl
set_option maxRecDepth 100000 in
set_option maxHeartbeats 2000000 in
theorem read_calls : ∀ (d : Nat) (s : ByteArray) (w : World), s.size ≤ 1000000000 → d ≤ 40 →
    Calls Tryz.prog 290 #[.string s, .int .i64 d] w (ReadOut w (toL s) d) := by
  intro d
  induction d with
  | zero =>
    intro s w hs hd
    have HO : Hid (∀ e, e = .returned .nilIface → ReadOut w (toL s) 0 e w) := Lib.hid (fun e he => ⟨he, Below.refl _ _⟩)
    by_cases he : s.data.toList = []
    · have h1 : s.toList = [] := by rw [ByteArray.toList_eq]; exact he
      clear he
      go_enter Tryz.func290, Tryz.ntmps290
      go_wp2_with fail
      go_ret
      exact HO.out _ rfl
    · have h1 : s.toList.isEmpty = false := by
        rw [ByteArray.toList_eq]
        cases hl : s.data.toList with
        | nil => exact absurd hl he
        | cons x l => rfl
      clear he
      go_enter Tryz.func290, Tryz.ntmps290
      go_wp2_with fail
      go_ret
      exact HO.out _ rfl
  | succ d ih =>
    intro s w hs hd
    have IH := Lib.hid ih
    clear ih
    cases hl' : toL s with
    | nil =>
      have hl : s.data.toList = [] := hl'
      have h1 : s.toList = [] := by rw [ByteArray.toList_eq]; exact hl
      have HO : Hid (∀ e, e = .returned .nilIface → ReadOut w [] (d + 1) e w) := Lib.hid (fun e he => ⟨he, Below.refl _ _⟩)
      clear hl hl'
      go_enter Tryz.func290, Tryz.ntmps290
      go_wp2_with fail
      go_ret
      exact HO.out _ rfl
    | cons c r =>
      have hl : s.data.toList = c :: r := hl'
      clear hl'
      have hsz : s.size = r.length + 1 := by have := list_size s; rw [hl] at this; exact this.symm
      have h0 : 0 < s.size := by omega
      have hc0 := first_of hl h0
      have hne : s.toList.isEmpty = false := by rw [ByteArray.toList_eq, hl]; rfl
      by_cases ha : c = 97
      · subst ha
        have hleaf := leaf_atom_calls s r w hl hs
        have HO : Hid (∀ e w', (e = .returned (leafV 97 r) ∧ Below w.heap.size w w') → ReadOut w (97 :: r) (d + 1) e w') := Lib.hid (by
          rintro e w' ⟨rfl, hb⟩
          unfold ReadOut parse
          rw [if_pos rfl]
          cases ht : wtake r with
          | none => exact ⟨by rw [leafV_none ht], hb⟩
          | some p => obtain ⟨n, q⟩ := p; exact ⟨⟨.slice none 0 0, by rw [leafV_atom ht]; rfl, strs_nil _⟩, hb⟩)
        have HLF := Lib.hid hleaf
        clear hleaf hl
        go_enter Tryz.func290, Tryz.ntmps290
        go_wp2_with fail
        refine HLF.out.mono ?_
        rintro e w1 ⟨rfl, hb⟩
        have HB := Lib.hid hb
        clear hb
        go_wp2_with fail
        go_ret
        exact HO.out _ _ ⟨rfl, HB.out⟩
      by_cases hb : c = 116
      · subst hb
        have hleaf := leaf_text_calls s r w hl hs
        have HO : Hid (∀ e w', (e = .returned (leafV 116 r) ∧ Below w.heap.size w w') → ReadOut w (116 :: r) (d + 1) e w') := Lib.hid (by
          rintro e w' ⟨rfl, hb⟩
          unfold ReadOut parse
          rw [if_neg (by decide), if_pos rfl]
          cases ht : wtakeText r 4000 with
          | error er => exact ⟨by rw [leafV_err ht], hb⟩
          | ok p => obtain ⟨t, q⟩ := p; exact ⟨⟨.slice none 0 0, by rw [leafV_text ht]; rfl, strs_nil _⟩, hb⟩)
        have HLF := Lib.hid hleaf
        clear hleaf hl ha
        go_enter Tryz.func290, Tryz.ntmps290
        go_wp2_with fail
        refine HLF.out.mono ?_
        rintro e w1 ⟨rfl, hb⟩
        have HB := Lib.hid hb
        clear hb
        go_wp2_with fail
        go_ret
        exact HO.out _ _ ⟨rfl, HB.out⟩
      by_cases h1 : isOne c = true
      · have h1' := h1
        simp only [isOne, Bool.or_eq_true, beq_iff_eq] at h1'
        rcases h1' with rfl | rfl
        · exact read_104_calls d IH s r w hl hs hd
        · exact read_117_calls d IH s r w hl hs hd
      by_cases h2 : isTwo c = true
      · have h2' := h2
        simp only [isTwo, Bool.or_eq_true, beq_iff_eq] at h2'
        rcases h2' with ((rfl | rfl) | rfl) | rfl
        · exact read_112_calls d IH s r w hl hs hd
        · exact read_115_calls d IH s r w hl hs hd
        · exact read_98_calls d IH s r w hl hs hd
        · exact read_103_calls d IH s r w hl hs hd
      exact read_other_calls d s c r w hl hs hd ha hb (by simpa using h1) (by simpa using h2)
end Go.Proofs.YtckblcfkajpofaaGreatDoor
namespace Go.Proofs.YtckblcfkajpofaaGreatDoor
open Go.RowKit
set_option linter.unusedVariables false
set_option linter.unusedSimpArgs false

def WholeOut (w : World) (s : List UInt8) (e : Ending) (w' : World) : Prop :=
  (match whole s with
    | none => e = .returned .nilIface
    | some t => ∃ vl, e = .returned (nodeV (mkB t.enc) t vl) ∧ strs w' vl (t.parts.map mkB)) ∧ Below w.heap.size w w'
set_option maxRecDepth 100000 in
set_option maxHeartbeats 1000000 in
theorem whole_calls (s : ByteArray) (w : World) (hs : s.size ≤ 9223372036854775807) : Calls Tryz.prog 236 #[.string s] w (WholeOut w (toL s)) := by
  have hsl : (toL s).length = s.size := list_size s
  by_cases hbig : 4000 < s.size
  · have HO : Hid (∀ e, e = .returned .nilIface → WholeOut w (toL s) e w) := Lib.hid (by
      rintro e rfl
      unfold WholeOut whole
      rw [if_pos (by omega)]
      exact ⟨rfl, Below.refl _ _⟩)
    clear hsl
    go_enter Tryz.func236, Tryz.ntmps236
    go_wp2_with fail
    go_ret
    exact HO.out _ rfl
  · have h1 := read_calls 40 s w (by omega) (Nat.le_refl _)
    unfold ReadOut at h1
    cases hp : parse 40 (toL s) with
    | none =>
      rw [hp] at h1
      have HC := Lib.hid h1
      have HO : Hid (∀ e w', (e = .returned .nilIface ∧ Below w.heap.size w w') → WholeOut w (toL s) e w') := Lib.hid (by
        rintro e w' ⟨rfl, hb⟩
        unfold WholeOut whole
        rw [if_neg (by omega), hp]
        exact ⟨rfl, hb⟩)
      clear h1 hp hsl
      go_enter Tryz.func236, Tryz.ntmps236
      go_wp2_with fail
      refine HC.out.mono ?_
      rintro e w1 ⟨rfl, hb⟩
      have HB := Lib.hid hb
      clear hb
      go_wp2_with fail
      go_ret
      exact HO.out _ _ ⟨rfl, HB.out⟩
    | some p =>
      obtain ⟨t, r⟩ := p
      rw [hp] at h1
      have HC := Lib.hid h1
      have hlt : s.size = t.enc.length + r.length := by
        have := (parse_some hp).1
        rw [← hsl, this]; simp
      have hms := mkB_size t.enc
      have HO : Hid (∀ e w' vl, e = .returned (if r = [] then nodeV (mkB t.enc) t vl else .nilIface) → strs w' vl (t.parts.map mkB) → Below w.heap.size w w' → WholeOut w (toL s) e w') := Lib.hid (by
        rintro e w' vl rfl hv hb
        unfold WholeOut whole
        rw [if_neg (by omega), hp]
        by_cases hr : r = []
        · simp only [if_pos hr]
          exact ⟨⟨vl, rfl, hv⟩, hb⟩
        · simp only [if_neg hr]
          exact ⟨by first | trivial | rfl, hb⟩)
      obtain ⟨n, hn⟩ : ∃ n, t.enc.length = n := ⟨_, rfl⟩
      rw [hn] at hlt hms
      have HL := Lib.hid hlt
      clear h1 hp hsl hn hlt
      go_enter Tryz.func236, Tryz.ntmps236
      go_wp2_with fail
      refine HC.out.mono ?_
      rintro e w1 ⟨⟨vl, rfl, hv⟩, hb⟩
      obtain ⟨T, g, hT, hEq, K, hM, hCF, hCC⟩ := node_iface (mkB t.enc) t hv
      have HT := Lib.hid hT
      rw [hT]
      have HB := Lib.hid hb
      have HV := Lib.hid hv
      have HCC := Lib.hid hCC
      clear hb hT hv hCC
      by_cases hr : r = []
      · have hsn : s.size = n := by have := HL.out; rw [hr] at this; simpa using this
        go_wp2_with fail
        refine (HCC.out _).mono ?_
        rintro e w2 ⟨rfl, hb2⟩
        have HF := Lib.hid (HO.out (.returned (.iface T g)) w2 vl (by rw [if_pos hr, HT.out]) (HV.out.below hb2) (HB.out.trans (hb2.mono HB.out.size)))
        clear hb2 hr
        go_wp2_with fail
        go_ret
        exact HF.out
      · have hsn : n < s.size := by
          have h2 : 0 < r.length := List.length_pos_iff.2 hr
          have := HL.out; omega
        have f1 : ((n : Int) == (s.size : Int)) = false := by simp; omega
        have f2 : ((n : Int) != (s.size : Int)) = true := by simp only [bne, f1]; rfl
        go_wp2_with fail
        refine (HCC.out _).mono ?_
        rintro e w2 ⟨rfl, hb2⟩
        have HF := Lib.hid (HO.out (.returned .nilIface) w2 vl (by rw [if_neg hr]) (HV.out.below hb2) (HB.out.trans (hb2.mono HB.out.size)))
        clear hb2 hr
        go_wp2_with fail
        go_ret
        exact HF.out

/-- no term, and a term -/
theorem whole_no {s : ByteArray} (w : World) (hs : s.size ≤ 9223372036854775807) (h : whole (toL s) = none) : Calls Tryz.prog 236 #[.string s] w fun e w' => e = .returned .nilIface ∧ Below w.heap.size w w' := by
  have := whole_calls s w hs
  unfold WholeOut at this
  rw [h] at this
  exact this
theorem whole_yes {s : ByteArray} {t : Tm} (w : World) (hs : s.size ≤ 9223372036854775807) (h : whole (toL s) = some t) : Calls Tryz.prog 236 #[.string s] w fun e w' => ∃ T g vl, e = .returned (.iface T g) ∧ nodeV s t vl = .iface T g ∧ (∀ w, (binOp .eql 256 (.iface T g) .nilIface).run Tryz.prog w = .ok (.bool false) w) ∧ strs w' vl (t.parts.map mkB) ∧ Below w.heap.size w w' := by
  have := whole_calls s w hs
  unfold WholeOut at this
  rw [h] at this
  refine this.mono fun e w' ⟨⟨vl, he, hv⟩, hb⟩ => ?_
  have hse : mkB t.enc = s := by rw [← (whole_some h).1]; exact list_mkB s
  rw [hse] at he
  obtain ⟨T, g, hT, hEq, _⟩ := node_iface s t hv
  exact ⟨T, g, vl, by rw [he, hT], hT, hEq, hv, hb⟩
/-- whole, asked for nil alone -/
theorem whole_ask {s : ByteArray} (w : World) (hs : s.size ≤ 9223372036854775807) : Calls Tryz.prog 236 #[.string s] w fun e w' => ∃ x, e = .returned x ∧ (∀ w, (binOp .eql 256 x .nilIface).run Tryz.prog w = .ok (.bool (!rightT (toL s))) w) ∧ (∀ (o : Operand) w, (eqGuard .eql 256 o (.const .nilIface) x .nilIface).run Tryz.prog w = .ok () w) ∧ Below w.heap.size w w' := by
  cases h : whole (toL s) with
  | none => exact (whole_no w hs h).mono fun e w' ⟨he, hb⟩ => ⟨_, he, by unfold rightT; rw [h]; intro w; kernel_rfl, fun o w => by cases o <;> kernel_rfl, hb⟩
  | some t => exact (whole_yes w hs h).mono fun e w' ⟨T, g, vl, he, _, hq, _, hb⟩ => ⟨_, he, by unfold rightT; rw [h]; exact hq, fun o w => by kernel_rfl, hb⟩

set_option maxRecDepth 100000 in
set_option maxHeartbeats 1000000 in
theorem kind_calls (s : ByteArray) (w : World) (hs : s.size ≤ 9223372036854775807) : Calls Tryz.prog 142 #[.string s] w fun e w' => e = .returned (.int .u8 ((kindL (toL s)).toNat : Int)) ∧ Below w.heap.size w w' := by
  have HA := Lib.hid (whole_ask (s := s) w hs)
  cases h : whole (toL s) with
  | none =>
    have hr : rightT (toL s) = false := by unfold rightT; rw [h]; rfl
    have HK : Hid (kindL (toL s) = 0) := Lib.hid (by unfold kindL; rw [h])
    rw [hr] at HA
    clear h hr
    go_enter Tryz.func142, Tryz.ntmps142
    go_wp2_with fail
    refine HA.out.mono ?_
    rintro e w1 ⟨x, rfl, hq, hg, hb⟩
    have HB := Lib.hid hb
    clear hb
    simp only [Bool.not_false] at hq
    go_wp2_with fail
    go_ret
    exact ⟨by rw [HK.out]; rfl, HB.out⟩
  | some t =>
    have hr : rightT (toL s) = true := by unfold rightT; rw [h]; rfl
    have HK : Hid (kindL (toL s) = t.kind) := Lib.hid (by unfold kindL; rw [h])
    have hne : 0 < s.size := by
      have h2 := whole_ne h
      have h3 : (toL s).length = s.size := list_size s
      have := List.length_pos_iff.2 h2
      omega
    have hc0 : (s[0]'hne).toNat = t.kind.toNat := by
      obtain ⟨l, hl⟩ := t.enc_head
      rw [first_of (s := s) (c := t.kind) (r := l) (by rw [← hl]; exact (whole_some h).1) hne]
    rw [hr] at HA
    clear h hr
    go_enter Tryz.func142, Tryz.ntmps142
    go_wp2_with fail
    refine HA.out.mono ?_
    rintro e w1 ⟨x, rfl, hq, hg, hb⟩
    have HB := Lib.hid hb
    clear hb
    simp only [Bool.not_true] at hq
    go_wp2_with fail
    go_ret
    exact ⟨by rw [HK.out]; rfl, HB.out⟩
end Go.Proofs.YtckblcfkajpofaaGreatDoor
namespace Go.Proofs.YtckblcfkajpofaaGreatDoor
open Go.RowKit
set_option linter.unusedVariables false
set_option linter.unusedSimpArgs false

def exV : Except Int (List UInt8) → Value
  | .error e => .tuple #[.string ⟨#[]⟩, .int .i64 e]
  | .ok t => .tuple #[.string (mkB t), .int .i64 0]
def ofL (k : List UInt8) (l : List (List UInt8)) : Except Int (List UInt8) := if l.all rightT then made (k ++ l.flatten) else .error 1
theorem right_len {s : List UInt8} (h : rightT s = true) : s.length ≤ 4000 := by
  obtain ⟨t, _, _, h3⟩ := rightT_iff.1 h; exact h3
set_option maxRecDepth 100000 in
set_option maxHeartbeats 1000000 in
theorem of_calls (K : ByteArray) (v : Value) (l : List ByteArray) (w : World) (hv : strs w v l) (hK : K.size ≤ 100) (hl : l.length ≤ 1000) (hsz : ∀ x ∈ l, x.size ≤ 9223372036854775807) :
    Calls Tryz.prog 225 #[.string K, v] w fun e w' => e = .returned (exV (ofL (toL K) (l.map toL))) ∧ Below w.heap.size w w' := by
  obtain ⟨G, hG⟩ : ∃ G, exV (ofL (toL K) (l.map toL)) = G := ⟨_, rfl⟩
  rw [hG]
  have HG := Lib.hid hG
  have HV := Lib.hid hv
  have HSZ := Lib.hid hsz
  obtain ⟨A, c, rfl, h1, h2⟩ := hv.form
  clear hG hv hsz
  go_enter Tryz.func225, Tryz.ntmps225
  go_wp2_with fail
  go_loopw [6, 8, 12] (fun t p i wr => ∃ (k : Nat) (T : ByteArray), k ≤ l.length ∧ i = .int .i64 k ∧ t = .string T ∧ Hid (T = mkB (toL K ++ ((l.take k).map toL).flatten) ∧ ((l.take k).map toL).all rightT = true) ∧ T.size ≤ 100 + 4000 * k ∧ Hid (Below w.heap.size w wr)) (fun _ _ i _ => l.length - (intOf i).toNat)
  case atStart => exact ⟨0, K, Nat.zero_le _, rfl, rfl, ⟨by simp [list_mkB], by simp⟩, by omega, Below.refl _ _⟩
  case round =>
    obtain ⟨k, T, hk, rfl, rfl, HT, hTs, HB⟩ := hrel
    by_cases hlt : k < l.length
    · obtain ⟨x, hx⟩ : ∃ x, l[k]? = some x := ⟨_, List.getElem?_eq_getElem hlt⟩
      obtain ⟨b, off, c', hv', hcc, hll, hcell⟩ := (HV.out.below HB.out).cell hx
      cases hv'
      have HA := Lib.hid (whole_ask (s := x) wr (HSZ.out x (List.mem_of_getElem? hx)))
      have htk : (l.take (k + 1)).map toL = (l.take k).map toL ++ [toL x] := by rw [take_succ_get2 hx, List.map_append]; rfl
      cases hr : rightT (toL x) with
      | false =>
        rw [hr] at HA
        have HE : Hid (G = .tuple #[.string ⟨#[]⟩, .int .i64 1]) := Lib.hid (by
          rw [← HG.out]
          unfold ofL
          rw [if_neg]
          · rfl
          · intro hall
            have := List.all_eq_true.1 hall (toL x) (List.mem_map_of_mem (List.mem_of_getElem? hx))
            rw [hr] at this; cases this)
        clear hx htk hr
        go_wp2_with fail
        refine HA.out.mono ?_
        rintro e w1 ⟨y, rfl, hq, hg, hb⟩
        have HB2 := Lib.hid (HB.out.trans (hb.mono HB.out.size))
        clear hb
        simp only [Bool.not_false] at hq
        go_wp2_with fail
        go_ret2
        exact ⟨by rw [HE.out]; rfl, HB2.out⟩
      | true =>
        rw [hr] at HA
        have hxl : x.size ≤ 4000 := by have := right_len hr; have h2 : (toL x).length = x.size := list_size x; omega
        have HN : Hid ((T ++ x) = mkB (toL K ++ ((l.take (k + 1)).map toL).flatten) ∧ ((l.take (k + 1)).map toL).all rightT = true) := Lib.hid (by
          rw [htk]
          refine ⟨?_, ?_⟩
          · rw [HT.out.1]
            conv => lhs; rhs; rw [← list_mkB x]
            rw [mkB_append]
            congr 1
            simp
          · rw [List.all_append, HT.out.2]; simp [hr])
        have hTx : (T ++ x).size ≤ 100 + 4000 * (k + 1) := by rw [ByteArray.size_append]; omega
        clear hx htk hr
        go_wp2_with fail
        refine HA.out.mono ?_
        rintro e w1 ⟨y, rfl, hq, hg, hb⟩
        have HB2 := Lib.hid (HB.out.trans (hb.mono HB.out.size))
        clear hb
        simp only [Bool.not_true] at hq
        go_wp2_with fail
        go_roundw
        case rel => exact ⟨k + 1, T ++ x, by omega, by go_num, rfl, HN, hTx, HB2⟩
        case measure => simp [intOf]; omega
    · obtain rfl : k = l.length := by omega
      have hT1 := HT.out.1
      have hT2 := HT.out.2
      rw [List.take_length] at hT1 hT2
      have hTl : toL T = toL K ++ (l.map toL).flatten := by rw [hT1]; exact mkB_list _
      have HA := Lib.hid (whole_ask (s := T) wr (by omega))
      cases hr : rightT (toL T) with
      | false =>
        rw [hr] at HA
        have HE : Hid (G = .tuple #[.string ⟨#[]⟩, .int .i64 10]) := Lib.hid (by
          rw [← HG.out]
          unfold ofL made
          rw [if_pos hT2, ← hTl, hr]
          rfl)
        clear hT1 hT2 hTl hr
        go_wp2_with fail
        refine HA.out.mono ?_
        rintro e w1 ⟨y, rfl, hq, hg, hb⟩
        have HB2 := Lib.hid (HB.out.trans (hb.mono HB.out.size))
        clear hb
        simp only [Bool.not_false] at hq
        go_wp2_with fail
        go_ret2
        exact ⟨by rw [HE.out]; rfl, HB2.out⟩
      | true =>
        rw [hr] at HA
        have HE : Hid (G = .tuple #[.string T, .int .i64 0]) := Lib.hid (by
          rw [← HG.out]
          unfold ofL made
          rw [if_pos hT2, ← hTl, hr]
          show Value.tuple #[.string (mkB (toL T)), .int .i64 0] = _
          rw [list_mkB])
        clear hT1 hT2 hTl hr
        go_wp2_with fail
        refine HA.out.mono ?_
        rintro e w1 ⟨y, rfl, hq, hg, hb⟩
        have HB2 := Lib.hid (HB.out.trans (hb.mono HB.out.size))
        clear hb
        simp only [Bool.not_true] at hq
        go_wp2_with fail
        go_ret2
        exact ⟨by rw [HE.out]; rfl, HB2.out⟩
theorem ofL_one (k : UInt8) (a : List UInt8) : ofL [k] [a] = ofOne k a := by simp [ofL, ofOne]
theorem ofL_two (k : UInt8) (a b : List UInt8) : ofL [k] [a, b] = ofTwo k a b := by simp [ofL, ofTwo]
/-- a tuple of a text and an error, whatever it is -/
theorem exV_form (r : Except Int (List UInt8)) : ∃ s n, exV r = .tuple #[.string s, .int .i64 n] := by
  cases r with
  | error e => exact ⟨_, _, rfl⟩
  | ok t => exact ⟨_, _, rfl⟩
set_option maxHeartbeats 800000 in
theorem ofpair_calls (a b : ByteArray) (w : World) (ha : a.size ≤ 9223372036854775807) (hb : b.size ≤ 9223372036854775807) :
    Calls Tryz.prog 211 #[.string a, .string b] w fun e w' => e = .returned (exV (ofTwo 112 (toL a) (toL b))) ∧ Below w.heap.size w w' := by
  have h := of_calls ⟨#[112]⟩ _ _ _ (strs_lit w 9 [a, b] (by simp)) (by decide) (by simp) (by
    intro x hx; simp at hx; rcases hx with rfl | rfl <;> assumption)
  rw [show ofL (toL ⟨#[112]⟩) ([a, b].map toL) = ofTwo 112 (toL a) (toL b) from ofL_two 112 _ _] at h
  obtain ⟨s, n, hsn⟩ := exV_form (ofTwo 112 (toL a) (toL b))
  rw [hsn] at h ⊢
  have H := Lib.hid h
  clear h hsn
  go_enter Tryz.func211, Tryz.ntmps211
  go_wp2_with fail
  refine H.out.mono ?_
  rintro e w1 ⟨rfl, hb⟩
  have HB : Hid (Below w.heap.size w w1) := Lib.hid (((Below.refl _ w).alloc (Nat.le_refl _) _).trans (hb.mono (by rw [size_alloc]; omega)))
  clear hb
  go_wp2_with fail
  go_ret2
  exact ⟨rfl, HB.out⟩
set_option maxHeartbeats 800000 in
theorem sign_calls (a b : ByteArray) (w : World) (ha : a.size ≤ 9223372036854775807) (hb : b.size ≤ 9223372036854775807) :
    Calls Tryz.prog 158 #[.string a, .string b] w fun e w' => e = .returned (exV (ofTwo 103 (toL a) (toL b))) ∧ Below w.heap.size w w' := by
  have h := of_calls ⟨#[103]⟩ _ _ _ (strs_lit w 9 [a, b] (by simp)) (by decide) (by simp) (by
    intro x hx; simp at hx; rcases hx with rfl | rfl <;> assumption)
  rw [show ofL (toL ⟨#[103]⟩) ([a, b].map toL) = ofTwo 103 (toL a) (toL b) from ofL_two 103 _ _] at h
  obtain ⟨s, n, hsn⟩ := exV_form (ofTwo 103 (toL a) (toL b))
  rw [hsn] at h ⊢
  have H := Lib.hid h
  clear h hsn
  go_enter Tryz.func158, Tryz.ntmps158
  go_wp2_with fail
  refine H.out.mono ?_
  rintro e w1 ⟨rfl, hb⟩
  have HB : Hid (Below w.heap.size w w1) := Lib.hid (((Below.refl _ w).alloc (Nat.le_refl _) _).trans (hb.mono (by rw [size_alloc]; omega)))
  clear hb
  go_wp2_with fail
  go_ret2
  exact ⟨rfl, HB.out⟩
set_option maxHeartbeats 800000 in
theorem ofhash_calls (a : ByteArray) (w : World) (ha : a.size ≤ 9223372036854775807) :
    Calls Tryz.prog 278 #[.string a] w fun e w' => e = .returned (exV (ofOne 104 (toL a))) ∧ Below w.heap.size w w' := by
  have h := of_calls ⟨#[104]⟩ _ _ _ (strs_lit w 9 [a] (by simp)) (by decide) (by simp) (by
    intro x hx; simp at hx; subst hx; assumption)
  rw [show ofL (toL ⟨#[104]⟩) ([a].map toL) = ofOne 104 (toL a) from ofL_one 104 _] at h
  obtain ⟨s, n, hsn⟩ := exV_form (ofOne 104 (toL a))
  rw [hsn] at h ⊢
  have H := Lib.hid h
  clear h hsn
  go_enter Tryz.func278, Tryz.ntmps278
  go_wp2_with fail
  refine H.out.mono ?_
  rintro e w1 ⟨rfl, hb⟩
  have HB : Hid (Below w.heap.size w w1) := Lib.hid (((Below.refl _ w).alloc (Nat.le_refl _) _).trans (hb.mono (by rw [size_alloc]; omega)))
  clear hb
  go_wp2_with fail
  go_ret2
  exact ⟨rfl, HB.out⟩
set_option maxHeartbeats 800000 in
theorem ofpublic_calls (a : ByteArray) (w : World) (ha : a.size ≤ 9223372036854775807) :
    Calls Tryz.prog 124 #[.string a] w fun e w' => e = .returned (exV (ofOne 117 (toL a))) ∧ Below w.heap.size w w' := by
  have h := of_calls ⟨#[117]⟩ _ _ _ (strs_lit w 9 [a] (by simp)) (by decide) (by simp) (by
    intro x hx; simp at hx; subst hx; assumption)
  rw [show ofL (toL ⟨#[117]⟩) ([a].map toL) = ofOne 117 (toL a) from ofL_one 117 _] at h
  obtain ⟨s, n, hsn⟩ := exV_form (ofOne 117 (toL a))
  rw [hsn] at h ⊢
  have H := Lib.hid h
  clear h hsn
  go_enter Tryz.func124, Tryz.ntmps124
  go_wp2_with fail
  refine H.out.mono ?_
  rintro e w1 ⟨rfl, hb⟩
  have HB : Hid (Below w.heap.size w w1) := Lib.hid (((Below.refl _ w).alloc (Nat.le_refl _) _).trans (hb.mono (by rw [size_alloc]; omega)))
  clear hb
  go_wp2_with fail
  go_ret2
  exact ⟨rfl, HB.out⟩
theorem ofAtom_size {n : Nat} (h : n < 18446744073709551616) : (mkB (ofAtom n)).size ≤ 10 := by
  rw [mkB_size]; have := wput_len_le h; simp [ofAtom]; omega
set_option maxHeartbeats 800000 in
theorem ofatom_calls (n : Nat) (w : World) (hn : n < 18446744073709551616) : Calls Tryz.prog 212 #[.int .u64 n] w fun e w' => e = .returned (.string (mkB (ofAtom n))) ∧ Below w.heap.size w w' := by
  have hsz : (mkB (wput n)).size ≤ 9 := by rw [mkB_size]; exact wput_len_le hn
  have hap : (⟨#[97]⟩ : ByteArray) ++ mkB (wput n) = mkB (ofAtom n) := by rw [show (⟨#[97]⟩ : ByteArray) = mkB [97] from rfl, mkB_append]; rfl
  have h1 := wput_calls n w hn
  obtain ⟨T, hT⟩ : ∃ T, mkB (wput n) = T := ⟨_, rfl⟩
  obtain ⟨U, hU⟩ : ∃ U, mkB (ofAtom n) = U := ⟨_, rfl⟩
  rw [hT] at h1 hsz hap
  rw [hU] at hap ⊢
  have H := Lib.hid h1
  clear h1 hT hU
  go_enter Tryz.func212, Tryz.ntmps212
  go_wp2_with fail
  refine H.out.mono ?_
  rintro e w1 ⟨rfl, hb⟩
  have HB := Lib.hid hb
  clear hb
  go_wp2_with fail
  go_ret
  exact ⟨rfl, HB.out⟩
set_option maxRecDepth 100000 in
set_option maxHeartbeats 800000 in
theorem oftext_calls (s : ByteArray) (w : World) (hs : s.size ≤ 140737488355000) : Calls Tryz.prog 156 #[.string s] w fun e w' => e = .returned (exV (ofText (toL s))) ∧ Below w.heap.size w w' := by
  have H := Lib.hid (puttext_calls s w hs)
  obtain ⟨T, hT⟩ : ∃ T, mkB (wtext (toL s)) = T := ⟨_, rfl⟩
  have hap : (⟨#[116]⟩ : ByteArray) ++ T = mkB (116 :: wtext (toL s)) := by rw [← hT, show (⟨#[116]⟩ : ByteArray) = mkB [116] from rfl, mkB_append]; rfl
  have hsz : (mkB (116 :: wtext (toL s))).size = (116 :: wtext (toL s)).length := mkB_size _
  obtain ⟨U, hU⟩ : ∃ U, mkB (116 :: wtext (toL s)) = U := ⟨_, rfl⟩
  obtain ⟨n, hn⟩ : ∃ n, (116 :: wtext (toL s)).length = n := ⟨_, rfl⟩
  have hn63 : (n : Int) ≤ 9223372036854775807 := by
    have h1 := wput_len_le (n := (toL s).length) (by have : (toL s).length = s.size := list_size s; omega)
    have h2 : (toL s).length = s.size := list_size s
    rw [← hn]; unfold wtext; rw [List.length_cons, List.length_append]; omega
  have hTs : T.size ≤ 9000000000000000000 := by
    have h1 := wput_len_le (n := (toL s).length) (by have : (toL s).length = s.size := list_size s; omega)
    have h2 : (toL s).length = s.size := list_size s
    rw [← hT, mkB_size]; unfold wtext; rw [List.length_append]; omega
  rw [hT] at H
  rw [hU] at hap hsz
  rw [hn] at hsz
  by_cases hb : 4000 < n
  · have HV : Hid (exV (ofText (toL s)) = .tuple #[.string ⟨#[]⟩, .int .i64 10]) := Lib.hid (by unfold ofText; rw [hn, if_pos hb]; rfl)
    clear hT hU hn
    go_enter Tryz.func156, Tryz.ntmps156
    go_wp2_with fail
    refine H.out.mono ?_
    rintro e w1 ⟨rfl, hb⟩
    have HB := Lib.hid hb
    clear hb
    go_wp2_with fail
    go_ret2
    exact ⟨by rw [HV.out]; rfl, HB.out⟩
  · have HV : Hid (exV (ofText (toL s)) = .tuple #[.string U, .int .i64 0]) := Lib.hid (by unfold ofText; rw [hn, if_neg hb]; show Value.tuple #[.string (mkB _), _] = _; rw [hU])
    clear hT hU hn
    go_enter Tryz.func156, Tryz.ntmps156
    go_wp2_with fail
    refine H.out.mono ?_
    rintro e w1 ⟨rfl, hb⟩
    have HB := Lib.hid hb
    clear hb
    go_wp2_with fail
    go_ret2
    exact ⟨by rw [HV.out]; rfl, HB.out⟩
set_option maxRecDepth 100000 in
set_option maxHeartbeats 800000 in
theorem box_calls (p a : ByteArray) (w : World) (hp : p.size ≤ 9223372036854775807) (ha : a.size ≤ 9223372036854775807) :
    Calls Tryz.prog 248 #[.string p, .string a] w fun e w' => e = .returned (exV (boxT (toL p) (toL a))) ∧ Below w.heap.size w w' := by
  have hk := kind_calls p w hp
  by_cases hu : kindL (toL p) = 117
  · have HV : Hid (exV (boxT (toL p) (toL a)) = exV (ofTwo 98 (toL p) (toL a))) := Lib.hid (by unfold boxT; rw [if_pos hu])
    rw [hu] at hk
    have HK := Lib.hid hk
    have h := fun w : World => of_calls ⟨#[98]⟩ _ _ _ (strs_lit w 9 [p, a] (by simp)) (by decide) (by simp) (by
      intro x hx; simp at hx; rcases hx with rfl | rfl <;> assumption)
    simp only [show ofL (toL ⟨#[98]⟩) ([p, a].map toL) = ofTwo 98 (toL p) (toL a) from ofL_two 98 _ _] at h
    obtain ⟨s, n, hsn⟩ := exV_form (ofTwo 98 (toL p) (toL a))
    rw [hsn] at h HV
    have H := Lib.hid h
    clear h hsn hk hu
    go_enter Tryz.func248, Tryz.ntmps248
    go_wp2_with fail
    refine HK.out.mono ?_
    rintro e w1 ⟨rfl, hb⟩
    have HB1 := Lib.hid hb
    clear hb
    go_wp2_with fail
    refine (H.out _).mono ?_
    rintro e w2 ⟨rfl, hb⟩
    have HB : Hid (Below w.heap.size w w2) := Lib.hid ((HB1.out.alloc HB1.out.size _).trans (hb.mono (by rw [size_alloc]; have := HB1.out.size; omega)))
    clear hb
    go_wp2_with fail
    go_ret2
    exact ⟨by rw [HV.out]; rfl, HB.out⟩
  · have HV : Hid (exV (boxT (toL p) (toL a)) = .tuple #[.string ⟨#[]⟩, .int .i64 1]) := Lib.hid (by unfold boxT; rw [if_neg hu]; rfl)
    have f1 : ((kindL (toL p)).toNat : Int) ≠ 117 := fun e => hu (UInt8.toNat_inj.1 (by show (kindL (toL p)).toNat = 117; omega))
    obtain ⟨n, hn⟩ : ∃ n, ((kindL (toL p)).toNat : Int) = n := ⟨_, rfl⟩
    rw [hn] at hk f1
    have f2 : (n == 117) = false := by simpa using f1
    have f3 : (n != 117) = true := by simpa using f1
    have HK := Lib.hid hk
    clear hk hu hn f1
    go_enter Tryz.func248, Tryz.ntmps248
    go_wp2_with fail
    refine HK.out.mono ?_
    rintro e w1 ⟨rfl, hb⟩
    have HB1 := Lib.hid hb
    clear hb
    go_wp2_with fail
    go_ret2
    exact ⟨by rw [HV.out]; rfl, HB1.out⟩
end Go.Proofs.YtckblcfkajpofaaGreatDoor
namespace Go.Proofs.YtckblcfkajpofaaGreatDoor
open Go.RowKit
set_option linter.unusedVariables false
set_option linter.unusedSimpArgs false

def fold1 (n s t : Nat) : Nat := (n ^^^ n / s) * t % 18446744073709551616
def stepN : Nat := 11400714819323198485
def mixN (n : Nat) : Nat := fold1 (fold1 (fold1 ((n + stepN) % 18446744073709551616) 1073741824 13787848793156543929) 134217728 10723151780598845931) 2147483648 1
def drawN (seed i : Nat) : Nat := mixN ((seed + i * stepN) % 18446744073709551616)
theorem fold1_lt (n s t : Nat) : fold1 n s t < 18446744073709551616 := Nat.mod_lt _ (by decide)
theorem mixN_lt (n : Nat) : mixN n < 18446744073709551616 := fold1_lt _ _ _
set_option maxRecDepth 100000 in
set_option maxHeartbeats 400000 in
theorem fold_calls (w : World) (p : Addr) (n k t : Nat) (hp : w.cell? p = some (.int .u64 n)) (hf : w.frozen? p = false) (hn : n < 18446744073709551616) (hk : k < 64) :
    Calls Tryz.prog 282 #[.int .u64 k, .int .u64 t, .pointer (some p)] w fun e w' => e = .returned (.tuple #[]) ∧ w' = w.setCell p (.int .u64 (fold1 n (2 ^ k) t)) := by
  have hv := mixStep_u64 n (2 ^ k) t hn
  have hk2 : min k 64 = k := by omega
  go_enter Tryz.func282, Tryz.ntmps282
  go_wp2_with fail
  go_end0
  refine ⟨rfl, ?_⟩
  unfold fold1
  rw [← hv]
  simp
theorem frozen_new (w : World) (c : Array Value) (t : TypeId) (i : Nat) : (w.alloc (.cells c t)).frozen? ⟨w.heap.size, i, none⟩ = false := by
  simp
theorem cell_new (w : World) (v : Value) (t : TypeId) : (w.alloc (.cells #[v] t)).cell? ⟨w.heap.size, 0, none⟩ = some v := by simp
theorem set_new (w : World) (v u : Value) (t : TypeId) : (w.alloc (.cells #[v] t)).setCell ⟨w.heap.size, 0, none⟩ u = w.alloc (.cells #[u] t) := by
  rw [World.setCell_alloc_at _ _ _ _ _ rfl]; simp
set_option maxRecDepth 100000 in
set_option maxHeartbeats 400000 in
theorem mix_calls (w : World) (n : Nat) (hn : n < 18446744073709551616) :
    Calls Tryz.prog 218 #[.int .u64 n] w fun e w' => e = .returned (.int .u64 (mixN n)) ∧ Below w.heap.size w w' := by
  have h0 : IntKind.u64.wrap ((n : Int) + 11400714819323198485) = (((n + stepN) % 18446744073709551616 : Nat) : Int) := by rw [IntKind.wrap_u64]; unfold stepN; omega
  have F1 : ∀ a : Nat, a < 18446744073709551616 → ∀ k t, k < 64 → Calls Tryz.prog 282 #[.int .u64 (k : Nat), .int .u64 (t : Nat), .pointer (some ⟨w.heap.size, 0, none⟩)] (w.alloc (.cells #[.int .u64 a] 22)) fun e w' => e = .returned (.tuple #[]) ∧ w' = w.alloc (.cells #[.int .u64 (fold1 a (2 ^ k) t)] 22) := by
    intro a ha k t hk
    have := fold_calls (w.alloc (.cells #[.int .u64 a] 22)) ⟨w.heap.size, 0, none⟩ a k t (cell_new _ _ _) (frozen_new _ _ _ _) ha hk
    rw [set_new] at this
    exact this
  obtain ⟨a0, ha0⟩ : ∃ a, (n + stepN) % 18446744073709551616 = a := ⟨_, rfl⟩
  have hl0 : a0 < 18446744073709551616 := by rw [← ha0]; exact Nat.mod_lt _ (by decide)
  obtain ⟨a1, ha1⟩ : ∃ a, fold1 a0 1073741824 13787848793156543929 = a := ⟨_, rfl⟩
  obtain ⟨a2, ha2⟩ : ∃ a, fold1 a1 134217728 10723151780598845931 = a := ⟨_, rfl⟩
  obtain ⟨a3, ha3⟩ : ∃ a, fold1 a2 2147483648 1 = a := ⟨_, rfl⟩
  have hm : mixN n = a3 := by unfold mixN; rw [ha0, ha1, ha2, ha3]
  have c1 := F1 a0 hl0 30 13787848793156543929 (by decide)
  have c2 := F1 a1 (ha1 ▸ fold1_lt _ _ _) 27 10723151780598845931 (by decide)
  have c3 := F1 a2 (ha2 ▸ fold1_lt _ _ _) 31 1 (by decide)
  simp only [show (2 : Nat) ^ 30 = 1073741824 from rfl, show (2 : Nat) ^ 27 = 134217728 from rfl, show (2 : Nat) ^ 31 = 2147483648 from rfl, ha1, ha2, ha3] at c1 c2 c3
  rw [hm]
  rw [ha0] at h0
  have HC1 := Lib.hid c1
  have HC2 := Lib.hid c2
  have HC3 := Lib.hid c3
  clear c1 c2 c3 F1 ha0 ha1 ha2 ha3 hm hl0
  go_enter Tryz.func218, Tryz.ntmps218
  go_wp2_with fail
  refine HC1.out.mono ?_
  rintro e w1 ⟨rfl, rfl⟩
  go_wp2_with fail
  refine HC2.out.mono ?_
  rintro e w1 ⟨rfl, rfl⟩
  go_wp2_with fail
  refine HC3.out.mono ?_
  rintro e w1 ⟨rfl, rfl⟩
  go_wp2_with fail
  go_ret
  exact ⟨rfl, (Below.refl _ w).alloc (Nat.le_refl _) _⟩

structure IsDraws (w : World) (s m d b : Nat) : Prop where
  hd : w.heap[d]? = some (.cells #[.func (.func 217) #[] #[.pointer (some ⟨b, 0, none⟩)], .int .i64 m] 240 (0, 0))
  hb : w.heap[b]? = some (.cells #[.int .u64 (((s + m * stepN) % 18446744073709551616 : Nat) : Int)] 22 (0, 0))
  hs : s < 18446744073709551616
theorem IsDraws.ne {w : World} {s m d b : Nat} (h : IsDraws w s m d b) : d ≠ b := by
  rintro rfl; have := h.hd.symm.trans h.hb; simp at this
theorem IsDraws.keep {w w' : World} {s m d b : Nat} {F : Nat → Prop} (h : IsDraws w s m d b) (k : Keep F w w') (h1 : ¬ F d) (h2 : ¬ F b) : IsDraws w' s m d b := ⟨k.at h.hd h1, k.at h.hb h2, h.hs⟩
theorem wrap_step (n : Nat) (h : n < 18446744073709551616) : IntKind.u64.wrap ((n : Int) + 11400714819323198485) = (((n + stepN) % 18446744073709551616 : Nat) : Int) := by rw [IntKind.wrap_u64]; unfold stepN; omega
set_option maxRecDepth 100000 in
set_option maxHeartbeats 400000 in
theorem next1_calls (w : World) (b n : Nat) (hb : w.heap[b]? = some (.cells #[.int .u64 (n : Int)] 22 (0, 0))) (hn : n < 18446744073709551616) :
    Calls Tryz.prog 217 #[.pointer (some ⟨b, 0, none⟩)] w fun e w' => e = .returned (.int .u64 (mixN n)) ∧ w'.heap[b]? = some (.cells #[.int .u64 (((n + stepN) % 18446744073709551616 : Nat) : Int)] 22 (0, 0)) ∧ Keep (fun i => i = b) w w' := by
  have hlt : b < w.heap.size := (Array.getElem?_eq_some_iff.1 hb).1
  have c0 := cell_of_row w b 0 _ _ _ hb
  simp at c0
  have h0 := wrap_step n hn
  obtain ⟨a0, ha0⟩ : ∃ a, (n + stepN) % 18446744073709551616 = a := ⟨_, rfl⟩
  rw [ha0] at h0 ⊢
  have HM := Lib.hid (mix_calls w n hn)
  have HB := Lib.hid hb
  clear hb ha0
  go_enter Tryz.func217, Tryz.ntmps217
  go_wp2_with fail
  refine HM.out.mono ?_
  rintro e w1 ⟨rfl, hb1⟩
  have hr := (Keep.of_below (F := fun _ => False) hb1).at HB.out (fun e => e)
  have c1 := cell_of_row w1 b 0 _ _ _ hr
  simp at c1
  have f1 := frozen_of_row hr 0
  have HR := Lib.hid hr
  have HB1 := Lib.hid hb1
  clear hr hb1 c0
  go_wp2_with fail
  go_ret
  refine ⟨rfl, ?_, ?_⟩
  · have := set_at HR.out 0 (.int .u64 (a0 : Int))
    simpa using this
  · exact (Keep.of_below HB1.out).same (Keep.setCell (fun i => i = b) w1 (p := ⟨b, 0, none⟩) rfl _)
set_option maxRecDepth 100000 in
set_option maxHeartbeats 400000 in
theorem next_calls (w : World) {s m d b : Nat} (h : IsDraws w s m d b) (hm : m < 1000000) :
    Calls Tryz.prog 189 #[.pointer (some ⟨d, 0, none⟩)] w fun e w' => e = .returned (.int .u64 (drawN s m)) ∧ IsDraws w' s (m + 1) d b ∧ Keep (fun i => i = d ∨ i = b) w w' := by
  have hne := h.ne
  have c0 := cell_of_row w d 0 _ _ _ h.hd
  have c1 := cell_of_row w d 1 _ _ _ h.hd
  simp at c0 c1
  have f1 := frozen_of_row h.hd 1
  have hset := set_at h.hd 1 (.int .i64 ((m + 1 : Nat) : Int))
  obtain ⟨W, hW⟩ : ∃ W, w.setCell ⟨d, 1, none⟩ (.int .i64 ((m + 1 : Nat) : Int)) = W := ⟨_, rfl⟩
  rw [hW] at hset
  have hkW : Keep (fun i => i = d ∨ i = b) w W := by rw [← hW]; exact Keep.setCell (fun i => i = d ∨ i = b) w (p := ⟨d, 1, none⟩) (Or.inl rfl) _
  simp at hset
  have hbW : W.heap[b]? = some (.cells #[.int .u64 (((s + m * stepN) % 18446744073709551616 : Nat) : Int)] 22 (0, 0)) := by
    have : Keep (fun i => i = d) w W := by rw [← hW]; exact Keep.setCell (fun i => i = d) w (p := ⟨d, 1, none⟩) rfl _
    exact this.at h.hb (fun e => hne e.symm)
  have hlt : d < W.heap.size := (Array.getElem?_eq_some_iff.1 hset).1
  have c2 := cell_of_row W d 0 _ _ _ hset
  simp at c2
  have HN := Lib.hid (next1_calls W b _ hbW (Nat.mod_lt _ (by decide)))
  have hdr : mixN ((s + m * stepN) % 18446744073709551616) = drawN s m := rfl
  rw [hdr] at HN
  have HK := Lib.hid hkW
  have HS := Lib.hid hset
  have HQ := Lib.hid h.hs
  have HNE := Lib.hid hne
  clear hkW hset h hbW hdr hne
  simp only [Int.natCast_add, Int.cast_ofNat_Int] at hW
  go_enter Tryz.func189, Tryz.ntmps189
  go_wp2_with fail
  refine HN.out.mono ?_
  rintro e w1 ⟨rfl, hb1, hk1⟩
  have HB1 := Lib.hid hb1
  have HK1 := Lib.hid hk1
  clear hb1 hk1
  go_wp2_with fail
  go_ret
  refine ⟨rfl, ⟨HK1.out.at HS.out HNE.out, ?_, HQ.out⟩, HK.out.same (HK1.out.mono fun _ e => Or.inr e)⟩
  have := HB1.out
  rwa [show ((s + m * stepN) % 18446744073709551616 + stepN) % 18446744073709551616 = (s + (m + 1) * stepN) % 18446744073709551616 by unfold stepN; omega] at this
set_option maxRecDepth 100000 in
set_option maxHeartbeats 400000 in
theorem dnew_calls (w : World) (s : Nat) (hs : s < 18446744073709551616) :
    Calls Tryz.prog 119 #[.int .u64 s] w fun e w' => e = .returned (.pointer (some ⟨w.heap.size + 1, 0, none⟩)) ∧ IsDraws w' s 0 (w.heap.size + 1) w.heap.size ∧ w'.heap.size = w.heap.size + 2 ∧ Below w.heap.size w w' := by
  go_enter Tryz.func119, Tryz.ntmps119
  go_wp2_with fail
  go_ret
  refine ⟨by simp [size_alloc], ⟨?_, ?_, hs⟩, by simp [size_alloc], ((Below.refl _ w).alloc (Nat.le_refl _) _).alloc (by simp) _⟩
  · rw [get_alloc, if_pos (by simp [size_alloc])]
    simp
  · rw [get_alloc, if_neg (by simp [size_alloc]), get_alloc, if_pos rfl]
    have : s % 18446744073709551616 = s := Nat.mod_eq_of_lt hs
    simp [this]
theorem many_calls (w : World) {s m d b : Nat} (h : IsDraws w s m d b) :
    Calls Tryz.prog 188 #[.pointer (some ⟨d, 0, none⟩)] w fun e w' => e = .returned (.int .i64 m) ∧ w' = w := by
  have c1 := cell_of_row w d 1 _ _ _ h.hd
  simp at c1
  clear h
  go_enter Tryz.func188, Tryz.ntmps188
  go_wp2_with fail
  go_ret
  exact ⟨rfl, rfl⟩
def secretT (use who : List UInt8) (n : Nat) : Except Int (List UInt8) := match ofText (use ++ 58 :: who) with
  | .error e => .error e
  | .ok t => match ofTwo 112 t (ofAtom n) with
    | .error e => .error e
    | .ok p => ofOne 104 p
theorem made_err {s : List UInt8} {e : Int} (h : made s = .error e) : e = 10 := by
  unfold made at h; split at h <;> cases h; rfl
theorem made_ok {s t : List UInt8} (h : made s = .ok t) : t = s ∧ rightT s = true := by
  unfold made at h; split at h
  · rename_i hr; cases h; exact ⟨rfl, hr⟩
  · cases h
theorem ofTwo_err {k : UInt8} {a b : List UInt8} {e : Int} (h : ofTwo k a b = .error e) : e = 1 ∨ e = 10 := by
  unfold ofTwo at h; split at h
  · exact Or.inr (made_err h)
  · cases h; exact Or.inl rfl
theorem ofOne_err2 {k : UInt8} {a : List UInt8} {e : Int} (h : ofOne k a = .error e) : e = 1 ∨ e = 10 := by
  unfold ofOne at h; split at h
  · exact Or.inr (made_err h)
  · cases h; exact Or.inl rfl
theorem ofTwo_ok {k : UInt8} {a b t : List UInt8} (h : ofTwo k a b = .ok t) : t = k :: (a ++ b) ∧ rightT t = true ∧ rightT a = true ∧ rightT b = true := by
  unfold ofTwo at h; split at h
  · rename_i hr
    rw [Bool.and_eq_true] at hr
    obtain ⟨rfl, h2⟩ := made_ok h; exact ⟨rfl, h2, hr.1, hr.2⟩
  · cases h
theorem ofText_err' {s : List UInt8} {e : Int} (h : ofText s = .error e) : e = 10 := by
  unfold ofText at h; split at h <;> cases h; rfl
theorem ofText_ok' {s t : List UInt8} (h : ofText s = .ok t) : t = 116 :: wtext s ∧ rightT t = true := by
  unfold ofText at h
  split at h
  · cases h
  · rename_i hc; cases h; exact ⟨rfl, right_text (by omega)⟩
theorem secretT_err {use who : List UInt8} {n : Nat} {e : Int} (h : secretT use who n = .error e) : e = 1 ∨ e = 10 := by
  unfold secretT at h
  split at h
  · rename_i e' h1; cases h; exact Or.inr (ofText_err' h1)
  · split at h
    · rename_i e' h1; cases h; exact ofTwo_err h1
    · exact ofOne_err2 h
theorem str_add3 (a b : ByteArray) : a ++ (⟨#[58]⟩ : ByteArray) ++ b = mkB (toL a ++ 58 :: toL b) := by
  rw [← list_mkB a, ← list_mkB b, show (⟨#[58]⟩ : ByteArray) = mkB [58] from rfl, mkB_append, mkB_append]
  simp [toL, mkB_list, list_mkB]
set_option maxRecDepth 100000 in
set_option maxHeartbeats 1000000 in
theorem secret_calls (use who : ByteArray) (n : Nat) (w : World) (hu : use.size ≤ 1000) (hw : who.size ≤ 1000000) (hn : n < 18446744073709551616) :
    Calls Tryz.prog 219 #[.string use, .string who, .int .u64 n] w fun e w' => e = .returned (exV (secretT (toL use) (toL who) n)) ∧ Below w.heap.size w w' := by
  have hap := str_add3 use who
  obtain ⟨X, hX⟩ : ∃ X, mkB (toL use ++ 58 :: toL who) = X := ⟨_, rfl⟩
  rw [hX] at hap
  have hs1 : use.size + 1 ≤ 9223372036854775807 := by omega
  have hs2 : use.size + 1 + who.size ≤ 9223372036854775807 := by omega
  have hXs : X.size ≤ 140737488355000 := by rw [← hX, mkB_size, List.length_append, List.length_cons]; have := list_size use; have := list_size who; unfold toL; omega
  have h1 := fun W => oftext_calls X W hXs
  rw [show toL X = toL use ++ 58 :: toL who by rw [← hX]; exact mkB_list _] at h1
  have hA := fun W => ofatom_calls n W hn
  have hsA := ofAtom_size hn
  have hAA : toL (mkB (ofAtom n)) = ofAtom n := mkB_list _
  obtain ⟨A, hAe⟩ : ∃ A, mkB (ofAtom n) = A := ⟨_, rfl⟩
  rw [hAe] at hA hsA hAA
  obtain ⟨R, hR⟩ : ∃ R, secretT (toL use) (toL who) n = R := ⟨_, rfl⟩
  rw [hR]
  unfold secretT at hR
  have HA := Lib.hid hA
  cases ho : ofText (toL use ++ 58 :: toL who) with
  | error er =>
    rw [ho] at hR
    simp only [ho] at h1
    simp only [exV] at h1
    obtain rfl := ofText_err' ho
    dsimp only at hR
    subst hR
    have H1 := Lib.hid h1
    clear h1 ho hA hAA hsA hXs hX hAe
    go_enter Tryz.func219, Tryz.ntmps219
    go_wp2_with fail
    refine (H1.out _).mono ?_
    rintro e w1 ⟨rfl, hb⟩
    have HB := Lib.hid hb
    clear hb
    go_wp2_with fail
    go_ret2
    exact ⟨rfl, HB.out⟩
  | ok t =>
    rw [ho] at hR
    simp only [ho] at h1
    simp only [exV] at h1
    have htr := (ofText_ok' ho).2
    have hts : (mkB t).size ≤ 9223372036854775807 := by rw [mkB_size]; have := right_len htr; omega
    have h2 := fun W => ofpair_calls (mkB t) A W hts (by omega)
    rw [show toL (mkB t) = t from mkB_list t, hAA] at h2
    obtain ⟨T, hT⟩ : ∃ T, mkB t = T := ⟨_, rfl⟩
    rw [hT] at h1 h2
    dsimp only at hR
    have H1 := Lib.hid h1
    cases hp : ofTwo 112 t (ofAtom n) with
    | error er =>
      rw [hp] at hR
      simp only [hp] at h2
      simp only [exV] at h2
      dsimp only at hR
      subst hR
      have f1 : (er == 0) = false := by rcases ofTwo_err hp with rfl | rfl <;> rfl
      have f2 : (er != 0) = true := by simp only [bne, f1]; rfl
      have H2 := Lib.hid h2
      clear h1 ho hA hAA hsA hXs hX hAe h2 hp hts hT htr
      go_enter Tryz.func219, Tryz.ntmps219
      go_wp2_with fail
      refine (H1.out _).mono ?_
      rintro e w1 ⟨rfl, hb⟩
      have HB := Lib.hid hb
      clear hb
      go_wp2_with fail
      refine (HA.out _).mono ?_
      rintro e w2 ⟨rfl, hb⟩
      have HB2 := Lib.hid (HB.out.trans (hb.mono HB.out.size))
      clear hb
      go_wp2_with fail
      refine (H2.out _).mono ?_
      rintro e w3 ⟨rfl, hb⟩
      have HB3 := Lib.hid (HB2.out.trans (hb.mono HB2.out.size))
      clear hb
      go_wp2_with fail
      go_ret2
      exact ⟨rfl, HB3.out⟩
    | ok p =>
      rw [hp] at hR
      simp only [hp] at h2
      simp only [exV] at h2
      dsimp only at hR
      have hpr := (ofTwo_ok hp).2.1
      have hps : (mkB p).size ≤ 9223372036854775807 := by rw [mkB_size]; have := right_len hpr; omega
      have h3 := fun W => ofhash_calls (mkB p) W hps
      rw [show toL (mkB p) = p from mkB_list p] at h3
      obtain ⟨Y, hY⟩ : ∃ Y, mkB p = Y := ⟨_, rfl⟩
      rw [hY] at h2 h3
      have H2 := Lib.hid h2
      subst hR
      cases hq : ofOne 104 p with
      | error er =>
        simp only [hq] at h3
        simp only [exV] at h3
        have f1 : (er == 0) = false := by rcases ofOne_err2 hq with rfl | rfl <;> rfl
        have f2 : (er != 0) = true := by simp only [bne, f1]; rfl
        have H3 := Lib.hid h3
        clear h1 ho hA hAA hsA hXs hX hAe h2 hp hts hT htr hq h3 hps hpr hY
        go_enter Tryz.func219, Tryz.ntmps219
        go_wp2_with fail
        refine (H1.out _).mono ?_
        rintro e w1 ⟨rfl, hb⟩
        have HB := Lib.hid hb
        clear hb
        go_wp2_with fail
        refine (HA.out _).mono ?_
        rintro e w2 ⟨rfl, hb⟩
        have HB2 := Lib.hid (HB.out.trans (hb.mono HB.out.size))
        clear hb
        go_wp2_with fail
        refine (H2.out _).mono ?_
        rintro e w3 ⟨rfl, hb⟩
        have HB3 := Lib.hid (HB2.out.trans (hb.mono HB2.out.size))
        clear hb
        go_wp2_with fail
        refine (H3.out _).mono ?_
        rintro e w4 ⟨rfl, hb⟩
        have HB4 := Lib.hid (HB3.out.trans (hb.mono HB3.out.size))
        clear hb
        go_wp2_with fail
        go_ret2
        exact ⟨rfl, HB4.out⟩
      | ok q =>
        simp only [hq] at h3
        simp only [exV] at h3
        obtain ⟨Z, hZ⟩ : ∃ Z, mkB q = Z := ⟨_, rfl⟩
        rw [hZ] at h3
        have HE : Hid (exV (.ok q) = .tuple #[.string Z, .int .i64 0]) := Lib.hid (by rw [← hZ]; rfl)
        have H3 := Lib.hid h3
        clear h1 ho hA hAA hsA hXs hX hAe h2 hp hts hT htr hq h3 hps hpr hY hZ
        go_enter Tryz.func219, Tryz.ntmps219
        go_wp2_with fail
        refine (H1.out _).mono ?_
        rintro e w1 ⟨rfl, hb⟩
        have HB := Lib.hid hb
        clear hb
        go_wp2_with fail
        refine (HA.out _).mono ?_
        rintro e w2 ⟨rfl, hb⟩
        have HB2 := Lib.hid (HB.out.trans (hb.mono HB.out.size))
        clear hb
        go_wp2_with fail
        refine (H2.out _).mono ?_
        rintro e w3 ⟨rfl, hb⟩
        have HB3 := Lib.hid (HB2.out.trans (hb.mono HB2.out.size))
        clear hb
        go_wp2_with fail
        refine (H3.out _).mono ?_
        rintro e w4 ⟨rfl, hb⟩
        have HB4 := Lib.hid (HB3.out.trans (hb.mono HB3.out.size))
        clear hb
        go_wp2_with fail
        go_ret2
        exact ⟨by rw [HE.out]; rfl, HB4.out⟩
end Go.Proofs.YtckblcfkajpofaaGreatDoor
namespace Go.Proofs.YtckblcfkajpofaaGreatDoor
open Go.RowKit
set_option linter.unusedVariables false
set_option linter.unusedSimpArgs false

def hashN : Nat → List UInt8 → Except Int (List UInt8)
  | 0, s => .ok s
  | n + 1, s => match ofOne 104 s with
    | .error e => .error e
    | .ok t => hashN n t
def backT (s : List UInt8) (n : Int) : Except Int (List UInt8) := if rightT s = false ∨ n < 0 then .error 1 else hashN n.toNat s
def stateT (root : List UInt8) (epoch : Int) : Except Int (List UInt8) := if rightT root = false then .error 1 else if epoch < 0 ∨ 8 ≤ epoch then .error 9 else backT root (7 - epoch)
theorem hashN_succ (n : Nat) (s : List UInt8) : hashN (n + 1) s = match ofOne 104 s with
    | .error e => .error e
    | .ok t => hashN n t := rfl
theorem hashN_snoc : ∀ {k : Nat} {s q t : List UInt8}, hashN k s = .ok q → ofOne 104 q = .ok t → hashN (k + 1) s = .ok t
  | 0, s, q, t, h, ht => by cases h; rw [hashN_succ, ht]; rfl
  | k + 1, s, q, t, h, ht => by
    rw [hashN_succ] at h ⊢
    cases hs : ofOne 104 s with
    | error e => rw [hs] at h; cases h
    | ok p => rw [hs] at h; exact hashN_snoc h ht
theorem hashN_stop : ∀ {k n : Nat} {s q : List UInt8} {e : Int}, hashN k s = .ok q → ofOne 104 q = .error e → k < n → hashN n s = .error e
  | 0, n, s, q, e, h, ht, hn => by
    cases h
    obtain ⟨m, rfl⟩ : ∃ m, n = m + 1 := ⟨n - 1, by omega⟩
    rw [hashN_succ, ht]
  | k + 1, n, s, q, e, h, ht, hn => by
    obtain ⟨m, rfl⟩ : ∃ m, n = m + 1 := ⟨n - 1, by omega⟩
    rw [hashN_succ] at h ⊢
    cases hs : ofOne 104 s with
    | error e => rw [hs] at h; cases h
    | ok p => rw [hs] at h; exact hashN_stop h ht (by omega)
theorem ofOne_err {k : UInt8} {s : List UInt8} {e : Int} (h : ofOne k s = .error e) : e = 1 ∨ e = 10 := by
  unfold ofOne made at h
  split at h
  · split at h
    · cases h
    · cases h; exact .inr rfl
  · cases h; exact .inl rfl
theorem ofOne_ok {k : UInt8} {s t : List UInt8} (h : ofOne k s = .ok t) : rightT s = true ∧ rightT t = true ∧ t = k :: s := by
  unfold ofOne made at h
  split at h
  · rename_i h1
    split at h
    · rename_i h2; cases h; exact ⟨h1, h2, rfl⟩
    · cases h
  · cases h
theorem kindL_right (s : List UInt8) : kindL s = 0 ↔ rightT s = false := by
  rw [kindL_zero]; unfold rightT
  cases whole s <;> simp
set_option maxRecDepth 100000 in
set_option maxHeartbeats 1000000 in
theorem back_calls (s : ByteArray) (n : Int) (w : World) (hs : s.size ≤ 9223372036854775807) (hn : -9223372036854775808 ≤ n) (hn2 : n ≤ 9223372036854775807) :
    Calls Tryz.prog 293 #[.string s, .int .i64 n] w fun e w' => e = .returned (exV (backT (toL s) n)) ∧ Below w.heap.size w w' := by
  have hk := kind_calls s w hs
  obtain ⟨G, hG⟩ : ∃ G, exV (backT (toL s) n) = G := ⟨_, rfl⟩
  rw [hG]
  by_cases hr : rightT (toL s) = false
  · have hG2 : G = .tuple #[.string ⟨#[]⟩, .int .i64 1] := by rw [← hG]; unfold backT; rw [if_pos (Or.inl hr)]; rfl
    rw [(kindL_right _).2 hr] at hk
    have HK := Lib.hid hk
    have HG := Lib.hid hG2
    clear hk hG hG2 hr
    go_enter Tryz.func293, Tryz.ntmps293
    go_wp2_with fail
    refine HK.out.mono ?_
    rintro e w1 ⟨rfl, hb⟩
    have HB := Lib.hid hb
    clear hb
    go_wp2_with fail
    go_ret2
    exact ⟨by rw [HG.out]; rfl, HB.out⟩
  · have hr' : rightT (toL s) = true := by simpa using hr
    have f1 : (((kindL (toL s)).toNat : Int) == 0) = false := by
      rw [beq_eq_false_iff_ne]
      intro e
      exact hr ((kindL_right _).1 (UInt8.toNat_inj.1 (by show (kindL (toL s)).toNat = 0; omega)))
    obtain ⟨kk, hkk⟩ : ∃ kk, ((kindL (toL s)).toNat : Int) = kk := ⟨_, rfl⟩
    rw [hkk] at hk f1
    have HK := Lib.hid hk
    by_cases hneg : n < 0
    · have hG2 : G = .tuple #[.string ⟨#[]⟩, .int .i64 1] := by rw [← hG]; unfold backT; rw [if_pos (Or.inr hneg)]; rfl
      have HG := Lib.hid hG2
      clear hk hG hG2 hr hkk
      go_enter Tryz.func293, Tryz.ntmps293
      go_wp2_with fail
      refine HK.out.mono ?_
      rintro e w1 ⟨rfl, hb⟩
      have HB := Lib.hid hb
      clear hb
      go_wp2_with fail
      go_ret2
      exact ⟨by rw [HG.out]; rfl, HB.out⟩
    · obtain ⟨m, rfl⟩ : ∃ m : Nat, n = m := ⟨n.toNat, by omega⟩
      have hG2 : exV (hashN m (toL s)) = G := by rw [← hG]; unfold backT; rw [if_neg (by simp [hr'])]; simp
      have HG := Lib.hid hG2
      have HR := Lib.hid hr'
      have hmn : (m : Int) ≤ 9223372036854775807 := hn2
      have hm0 : decide ((m : Int) < 0) = false := by simp
      clear hk hG hG2 hr hr' hkk hneg hn
      go_enter Tryz.func293, Tryz.ntmps293
      go_wp2_with fail
      refine HK.out.mono ?_
      rintro e w1 ⟨rfl, hb⟩
      have HB := Lib.hid hb
      clear hb
      go_wp2_with fail
      go_loopw [0, 6, 7, 16] (fun st t er i wr => ∃ (k : Nat) (q : List UInt8), k ≤ m ∧ i = .int .i64 k ∧ st = .string (mkB q) ∧ Hid (hashN k (toL s) = .ok q ∧ rightT q = true) ∧ Hid (Below w.heap.size w wr)) (fun _ _ _ i _ => m - (intOf i).toNat)
      case atStart => exact ⟨0, toL s, Nat.zero_le _, rfl, by rw [list_mkB], ⟨rfl, HR.out⟩, HB.out⟩
      case round =>
        obtain ⟨k, q, hk, rfl, rfl, HQ, HB2⟩ := hrel
        by_cases hlt : k < m
        · have hqs : (mkB q).size ≤ 9223372036854775807 := by rw [mkB_size]; have := right_len HQ.out.2; omega
          have h1 := ofhash_calls (mkB q) wr hqs
          rw [show toL (mkB q) = q from mkB_list q] at h1
          cases ho : ofOne 104 q with
          | error er =>
            rw [ho] at h1
            simp only [exV] at h1
            have H1 := Lib.hid h1
            have HE : Hid (G = .tuple #[.string ⟨#[]⟩, .int .i64 er]) := Lib.hid (by rw [← HG.out, hashN_stop HQ.out.1 ho hlt]; rfl)
            have f2 : (er != 0) = true := by rcases ofOne_err ho with rfl | rfl <;> rfl
            clear h1 ho hqs
            go_wp2_with fail
            refine H1.out.mono ?_
            rintro e w2 ⟨rfl, hb⟩
            have HB3 := Lib.hid (HB2.out.trans (hb.mono HB2.out.size))
            clear hb
            go_wp2_with fail
            go_ret2
            exact ⟨by rw [HE.out]; rfl, HB3.out⟩
          | ok t =>
            rw [ho] at h1
            simp only [exV] at h1
            have H1 := Lib.hid h1
            have HN : Hid (hashN (k + 1) (toL s) = .ok t ∧ rightT t = true) := Lib.hid ⟨hashN_snoc HQ.out.1 ho, (ofOne_ok ho).2.1⟩
            clear h1 ho hqs
            go_wp2_with fail
            refine H1.out.mono ?_
            rintro e w2 ⟨rfl, hb⟩
            have HB3 := Lib.hid (HB2.out.trans (hb.mono HB2.out.size))
            clear hb
            go_wp2_with fail
            go_roundw
            case rel => exact ⟨k + 1, t, by omega, by go_num, rfl, HN, HB3⟩
            case measure => simp [intOf]; omega
        · obtain rfl : k = m := by omega
          have HE : Hid (G = .tuple #[.string (mkB q), .int .i64 0]) := Lib.hid (by rw [← HG.out, HQ.out.1]; rfl)
          go_wp2_with fail
          go_ret2
          exact ⟨by rw [HE.out]; rfl, HB2.out⟩
set_option maxRecDepth 100000 in
set_option maxHeartbeats 1000000 in
theorem state_calls (s : ByteArray) (n : Int) (w : World) (hs : s.size ≤ 9223372036854775807) (hn : -9223372036854775808 ≤ n) (hn2 : n ≤ 9223372036854775807) :
    Calls Tryz.prog 247 #[.string s, .int .i64 n] w fun e w' => e = .returned (exV (stateT (toL s) n)) ∧ Below w.heap.size w w' := by
  have hk := kind_calls s w hs
  obtain ⟨G, hG⟩ : ∃ G, exV (stateT (toL s) n) = G := ⟨_, rfl⟩
  rw [hG]
  by_cases hr : rightT (toL s) = false
  · have hG2 : G = .tuple #[.string ⟨#[]⟩, .int .i64 1] := by rw [← hG]; unfold stateT; rw [if_pos hr]; rfl
    rw [(kindL_right _).2 hr] at hk
    have HK := Lib.hid hk
    have HG := Lib.hid hG2
    clear hk hG hG2 hr
    go_enter Tryz.func247, Tryz.ntmps247
    go_wp2_with fail
    refine HK.out.mono ?_
    rintro e w1 ⟨rfl, hb⟩
    have HB := Lib.hid hb
    clear hb
    go_wp2_with fail
    go_ret2
    exact ⟨by rw [HG.out]; rfl, HB.out⟩
  · have f1 : (((kindL (toL s)).toNat : Int) == 0) = false := by
      rw [beq_eq_false_iff_ne]
      intro e
      exact hr ((kindL_right _).1 (UInt8.toNat_inj.1 (by show (kindL (toL s)).toNat = 0; omega)))
    obtain ⟨kk, hkk⟩ : ∃ kk, ((kindL (toL s)).toNat : Int) = kk := ⟨_, rfl⟩
    rw [hkk] at hk f1
    have HK := Lib.hid hk
    by_cases hout : n < 0 ∨ 8 ≤ n
    · have hG2 : G = .tuple #[.string ⟨#[]⟩, .int .i64 9] := by rw [← hG]; unfold stateT; rw [if_neg hr, if_pos hout]; rfl
      have HG := Lib.hid hG2
      clear hk hG hG2 hr hkk
      by_cases hneg : n < 0
      · go_enter Tryz.func247, Tryz.ntmps247
        go_wp2_with fail
        refine HK.out.mono ?_
        rintro e w1 ⟨rfl, hb⟩
        have HB := Lib.hid hb
        clear hb
        go_wp2_with fail
        go_ret2
        exact ⟨by rw [HG.out]; rfl, HB.out⟩
      · have h8 : 8 ≤ n := by omega
        have f3 : decide (8 ≤ n) = true := by simpa using h8
        clear hout
        go_enter Tryz.func247, Tryz.ntmps247
        go_wp2_with fail
        refine HK.out.mono ?_
        rintro e w1 ⟨rfl, hb⟩
        have HB := Lib.hid hb
        clear hb
        go_wp2_with fail
        go_ret2
        exact ⟨by rw [HG.out]; rfl, HB.out⟩
    · have h0 : 0 ≤ n := by omega
      have h8 : n < 8 := by omega
      have f3 : decide (8 ≤ n) = false := by simp; omega
      have hG2 : exV (backT (toL s) (7 - n)) = G := by rw [← hG]; unfold stateT; rw [if_neg hr, if_neg hout]
      have hbk := fun w => back_calls s (7 - n) w hs (by omega) (by omega)
      obtain ⟨rs, rn, hsn⟩ := exV_form (backT (toL s) (7 - n))
      simp only [hsn] at hbk
      rw [hsn] at hG2
      have HBK := Lib.hid hbk
      have HG := Lib.hid hG2
      clear hk hG hG2 hr hkk hout hbk hsn
      go_enter Tryz.func247, Tryz.ntmps247
      go_wp2_with fail
      refine HK.out.mono ?_
      rintro e w1 ⟨rfl, hb⟩
      have HB := Lib.hid hb
      clear hb
      go_wp2_with fail
      refine (HBK.out w1).mono ?_
      rintro e w2 ⟨rfl, hb⟩
      have HB2 := Lib.hid (HB.out.trans (hb.mono HB.out.size))
      clear hb
      go_wp2_with fail
      go_ret2
      exact ⟨by rw [← HG.out]; rfl, HB2.out⟩
end Go.Proofs.YtckblcfkajpofaaGreatDoor
namespace Go.Proofs.YtckblcfkajpofaaGreatDoor
open Go.RowKit
set_option linter.unusedVariables false
set_option linter.unusedSimpArgs false

theorem ta_parts (g : Value) (w : World) : (Instr.typeAssert (.iface 267 g) 256 267 false).run Tryz.prog w = .ok g w := by kernel_rfl
theorem ta_parts_ok (g : Value) (w : World) : (Instr.typeAssert (.iface 267 g) 256 267 true).run Tryz.prog w = .ok (.tuple #[g, .bool true]) w := by kernel_rfl
theorem ta_number_no (g : Value) (w : World) : (Instr.typeAssert (.iface 343 g) 256 267 true).run Tryz.prog w = .ok (.tuple #[.agg #[.string ⟨#[]⟩, .slice none 0 0], .bool false]) w := by kernel_rfl
theorem ta_words_no (g : Value) (w : World) : (Instr.typeAssert (.iface 345 g) 256 267 true).run Tryz.prog w = .ok (.tuple #[.agg #[.string ⟨#[]⟩, .slice none 0 0], .bool false]) w := by kernel_rfl
def partsL (s : List UInt8) : List ByteArray := match whole s with
  | some t => t.parts.map mkB
  | none => []
set_option maxRecDepth 100000 in
set_option maxHeartbeats 800000 in
theorem parts_calls (s : ByteArray) (w : World) (hs : s.size ≤ 9223372036854775807) :
    Calls Tryz.prog 179 #[.string s] w fun e w' => ∃ v, e = .returned (.tuple #[v, .int .i64 (if rightT (toL s) then 0 else 1)]) ∧ strs w' v (partsL (toL s)) ∧ Below w.heap.size w w' := by
  cases h : whole (toL s) with
  | none =>
    have hr : rightT (toL s) = false := by unfold rightT; rw [h]; rfl
    have HP : Hid (partsL (toL s) = []) := Lib.hid (by unfold partsL; rw [h])
    have HW := Lib.hid (whole_no w hs h)
    rw [hr]
    clear h hr
    go_enter Tryz.func179, Tryz.ntmps179
    go_wp2_with fail
    refine HW.out.mono ?_
    rintro e w1 ⟨rfl, hb⟩
    have HB := Lib.hid hb
    clear hb
    go_wp2_with fail
    go_ret2
    exact ⟨_, rfl, by rw [HP.out]; exact strs_nil _, HB.out⟩
  | some t =>
    have hr : rightT (toL s) = true := by unfold rightT; rw [h]; rfl
    have HP : Hid (partsL (toL s) = t.parts.map mkB) := Lib.hid (by unfold partsL; rw [h])
    have HW := Lib.hid (whole_yes w hs h)
    rw [hr]
    clear h hr
    have fin : ∀ w1 : World, Below w.heap.size w w1 → ∀ o, Below w.heap.size w (w1.alloc o) := fun w1 hb o => hb.alloc hb.size o
    cases t with
    | atom n =>
      have hta := ta_number_no
      go_enter Tryz.func179, Tryz.ntmps179
      go_wp2_with fail
      refine HW.out.mono ?_
      rintro e w1 ⟨T, g, vl, rfl, hT, hq, hv, hb⟩
      cases hT
      have HB := Lib.hid hb
      clear hb hv
      go_wp2_with fail
      go_ret2
      exact ⟨_, rfl, by rw [HP.out]; exact strs_nil _, fin _ HB.out _⟩
    | text x =>
      have hta := ta_words_no
      go_enter Tryz.func179, Tryz.ntmps179
      go_wp2_with fail
      refine HW.out.mono ?_
      rintro e w1 ⟨T, g, vl, rfl, hT, hq, hv, hb⟩
      cases hT
      have HB := Lib.hid hb
      clear hb hv
      go_wp2_with fail
      go_ret2
      exact ⟨_, rfl, by rw [HP.out]; exact strs_nil _, fin _ HB.out _⟩
    | one k a =>
      have hta := ta_parts_ok
      go_enter Tryz.func179, Tryz.ntmps179
      go_wp2_with fail
      refine HW.out.mono ?_
      rintro e w1 ⟨T, g, vl, rfl, hT, hq, hv, hb⟩
      cases hT
      have HV := Lib.hid hv
      obtain ⟨A, c, rfl, h1, h2⟩ := hv.form
      have HB := Lib.hid hb
      clear hb hv
      go_wp2_with fail
      go_ret2
      exact ⟨_, rfl, by rw [HP.out]; exact HV.out.below ((Below.refl _ w1).alloc (Nat.le_refl _) _), fin _ HB.out _⟩
    | two k a b =>
      have hta := ta_parts_ok
      go_enter Tryz.func179, Tryz.ntmps179
      go_wp2_with fail
      refine HW.out.mono ?_
      rintro e w1 ⟨T, g, vl, rfl, hT, hq, hv, hb⟩
      cases hT
      have HV := Lib.hid hv
      obtain ⟨A, c, rfl, h1, h2⟩ := hv.form
      have HB := Lib.hid hb
      clear hb hv
      go_wp2_with fail
      go_ret2
      exact ⟨_, rfl, by rw [HP.out]; exact HV.out.below ((Below.refl _ w1).alloc (Nat.le_refl _) _), fin _ HB.out _⟩

theorem two_of_kind {t : Tm} {d : Nat} {k : UInt8} (h : t.wf d) (hk : t.kind = k) (h2 : isTwo k = true) : ∃ a b, t = .two k a b := by
  cases d with
  | zero => exact h.elim
  | succ d =>
    cases t with
    | atom n => exact absurd hk.symm (two_ne h2).1
    | text s => exact absurd hk.symm (two_ne h2).2.1
    | one j a =>
      obtain rfl : j = k := hk
      have := h.1
      rw [(two_ne h2).2.2] at this; cases this
    | two j a b =>
      obtain rfl : j = k := hk
      exact ⟨a, b, rfl⟩
set_option maxRecDepth 100000 in
set_option maxHeartbeats 800000 in
theorem under_calls (k : UInt8) (f c : ByteArray) (t : Tm) (w : World) (hc : c.size ≤ 9223372036854775807) (h : whole (toL c) = some t) (hk : isTwo k = true) :
    Calls Tryz.prog 251 #[.int .u8 (k.toNat : Int), .string f, .string c] w fun e w' => e = .returned (exV (underT k (toL f) (toL c))) ∧ Below w.heap.size w w' := by
  have hne : 0 < c.size := by
    have h2 := whole_ne h
    have h3 : (toL c).length = c.size := list_size c
    have := List.length_pos_iff.2 h2
    omega
  have hc0 : ((c[0]'hne).toNat : Int) = (t.kind.toNat : Int) := by
    obtain ⟨l, hl⟩ := t.enc_head
    rw [first_of (s := c) (c := t.kind) (r := l) (by rw [← hl]; exact (whole_some h).1) hne]
  have hkb : (k.toNat : Int) ≤ 255 := by have := k.toNat_lt; omega
  by_cases hkk : t.kind = k
  · obtain ⟨a, b, rfl⟩ := two_of_kind (whole_some h).2.1 hkk hk
    have HW := Lib.hid (whole_yes w hc h)
    rw [hkk] at hc0
    by_cases hf : mkB a.enc = f
    · have HE : Hid (exV (underT k (toL f) (toL c)) = .tuple #[.string (mkB b.enc), .int .i64 0]) := Lib.hid (by
        unfold underT; rw [h]; simp only
        rw [if_pos trivial, if_pos (by rw [← hf]; exact (mkB_list _).symm)]; rfl)
      clear h hkk
      have hta := ta_parts
      have hpl : (Tm.two k a b).parts.length = 2 := rfl
      go_enter Tryz.func251, Tryz.ntmps251
      go_wp2_with fail
      refine HW.out.mono ?_
      rintro e w1 ⟨T, g, vl, rfl, hT, hq, hv, hb⟩
      cases hT
      have HB := Lib.hid hb
      obtain ⟨x, off, cp, rfl, h1, h2, hc0'⟩ := hv.cell (i := 0) (x := mkB a.enc) rfl
      obtain ⟨x', off', cp', he, _, _, hc1'⟩ := hv.cell (i := 1) (x := mkB b.enc) rfl
      cases he
      have hxl : x < w1.heap.size := World.block_lt_of_cell? w1 _ hc0'
      rw [hf] at hc0'
      rw [Nat.add_zero] at hc0'
      clear hb hv
      go_wp2_with fail
      go_ret2
      exact ⟨by rw [HE.out]; rfl, HB.out.alloc HB.out.size _⟩
    · have HE : Hid (exV (underT k (toL f) (toL c)) = .tuple #[.string ⟨#[]⟩, .int .i64 6]) := Lib.hid (by
        unfold underT; rw [h]; simp only
        rw [if_pos trivial, if_neg (fun e => hf (by rw [e]; exact list_mkB f))]; rfl)
      have f1 : ((mkB a.enc).toList == f.toList) = false := by rw [beq_eq_false_iff_ne]; exact fun e => hf (blist_inj e)
      obtain ⟨ab, hab⟩ : ∃ ab, mkB a.enc = ab := ⟨_, rfl⟩
      have f2 : (ab.toList != f.toList) = true := by rw [← hab]; simp only [bne, f1]; rfl
      rw [hab] at f1
      clear h hkk hf
      have hta := ta_parts
      have hpl : (Tm.two k a b).parts.length = 2 := rfl
      have HAB := Lib.hid hab
      clear hab
      go_enter Tryz.func251, Tryz.ntmps251
      go_wp2_with fail
      refine HW.out.mono ?_
      rintro e w1 ⟨T, g, vl, rfl, hT, hq, hv, hb⟩
      cases hT
      have HB := Lib.hid hb
      obtain ⟨x, off, cp, rfl, h1, h2, hc0'⟩ := hv.cell (i := 0) (x := mkB a.enc) rfl
      have hxl : x < w1.heap.size := World.block_lt_of_cell? w1 _ hc0'
      rw [HAB.out] at hc0'
      rw [Nat.add_zero] at hc0'
      clear hb hv
      go_wp2_with fail
      go_ret2
      exact ⟨by rw [HE.out]; rfl, HB.out.alloc HB.out.size _⟩
  · have HE : Hid (exV (underT k (toL f) (toL c)) = .tuple #[.string ⟨#[]⟩, .int .i64 2]) := Lib.hid (by
      unfold underT; rw [h]
      cases t with
      | two j a b =>
        have hjk : ¬ (j = k) := hkk
        simp only; rw [if_neg hjk]; rfl
      | _ => rfl)
    have f1 : ((t.kind.toNat : Int) == (k.toNat : Int)) = false := by
      rw [beq_eq_false_iff_ne]; exact fun e => hkk (UInt8.toNat_inj.1 (by omega))
    obtain ⟨n, hn⟩ : ∃ n, (t.kind.toNat : Int) = n := ⟨_, rfl⟩
    obtain ⟨m, hm⟩ : ∃ m, (k.toNat : Int) = m := ⟨_, rfl⟩
    rw [hn] at hc0 f1
    rw [hm] at f1 hkb ⊢
    have f2 : (n != m) = true := by simp only [bne, f1]; rfl
    clear h hkk hn hm
    go_enter Tryz.func251, Tryz.ntmps251
    go_wp2_with fail
    go_ret2
    exact ⟨by rw [HE.out]; rfl, Below.refl _ _⟩
theorem whole_of_right {s : List UInt8} (h : rightT s = true) : ∃ t, whole s = some t := by
  unfold rightT at h
  cases hw : whole s with
  | none => rw [hw] at h; cases h
  | some t => exact ⟨t, rfl⟩
set_option maxRecDepth 100000 in
set_option maxHeartbeats 800000 in
theorem unbox_calls (s c : ByteArray) (w : World) (hs : s.size ≤ 9223372036854775807) (hc : c.size ≤ 9223372036854775807) :
    Calls Tryz.prog 178 #[.string s, .string c] w fun e w' => e = .returned (exV (unboxT (toL s) (toL c))) ∧ Below w.heap.size w w' := by
  have HA := Lib.hid (whole_ask (s := s) w hs)
  have HC := Lib.hid (fun w => whole_ask (s := c) w hc)
  cases h1 : rightT (toL s) with
  | false =>
    have HE : Hid (exV (unboxT (toL s) (toL c)) = .tuple #[.string ⟨#[]⟩, .int .i64 1]) := Lib.hid (by unfold unboxT; rw [h1]; rfl)
    rw [h1] at HA
    clear h1
    go_enter Tryz.func178, Tryz.ntmps178
    go_wp2_with fail
    refine HA.out.mono ?_
    rintro e w1 ⟨x, rfl, hq, hg, hb⟩
    have HB := Lib.hid hb
    clear hb
    simp only [Bool.not_false] at hq
    go_wp2_with fail
    go_ret2
    exact ⟨by rw [HE.out]; rfl, HB.out⟩
  | true =>
    rw [h1] at HA
    cases h2 : rightT (toL c) with
    | false =>
      have HE : Hid (exV (unboxT (toL s) (toL c)) = .tuple #[.string ⟨#[]⟩, .int .i64 1]) := Lib.hid (by unfold unboxT; rw [h1, h2]; rfl)
      rw [h2] at HC
      clear h1 h2
      go_enter Tryz.func178, Tryz.ntmps178
      go_wp2_with fail
      refine HA.out.mono ?_
      rintro e w1 ⟨x, rfl, hq, hg, hb⟩
      have HB := Lib.hid hb
      clear hb
      simp only [Bool.not_true] at hq
      go_wp2_with fail
      refine (HC.out w1).mono ?_
      rintro e w2 ⟨y, rfl, hq2, hg2, hb⟩
      have HB2 := Lib.hid (HB.out.trans (hb.mono HB.out.size))
      clear hb
      simp only [Bool.not_false] at hq2
      go_wp2_with fail
      go_ret2
      exact ⟨by rw [HE.out]; rfl, HB2.out⟩
    | true =>
      obtain ⟨t, ht⟩ := whole_of_right h2
      have hss : s.size ≤ 4000 := by have := right_len h1; have h3 : (toL s).length = s.size := list_size s; omega
      have hap : (⟨#[117]⟩ : ByteArray) ++ s = mkB (117 :: toL s) := by
        conv => lhs; rhs; rw [← list_mkB s]
        rw [show (⟨#[117]⟩ : ByteArray) = mkB [117] from rfl, mkB_append]; rfl
      have hu := fun w => under_calls 98 (mkB (117 :: toL s)) c t w hc ht (by decide)
      simp only [show toL (mkB (117 :: toL s)) = 117 :: toL s from mkB_list _] at hu
      have HE : Hid (exV (unboxT (toL s) (toL c)) = exV (underT 98 (117 :: toL s) (toL c))) := Lib.hid (by unfold unboxT; rw [h1, h2]; rfl)
      obtain ⟨U, hU⟩ : ∃ U, mkB (117 :: toL s) = U := ⟨_, rfl⟩
      rw [hU] at hap hu
      obtain ⟨rs, rn, hsn⟩ := exV_form (underT 98 (117 :: toL s) (toL c))
      rw [hsn] at HE
      simp only [hsn] at hu
      have HU := Lib.hid hu
      rw [h2] at HC
      clear h1 h2 ht hU hu hsn
      go_enter Tryz.func178, Tryz.ntmps178
      go_wp2_with fail
      refine HA.out.mono ?_
      rintro e w1 ⟨x, rfl, hq, hg, hb⟩
      have HB := Lib.hid hb
      clear hb
      simp only [Bool.not_true] at hq
      go_wp2_with fail
      refine (HC.out w1).mono ?_
      rintro e w2 ⟨y, rfl, hq2, hg2, hb⟩
      have HB2 := Lib.hid (HB.out.trans (hb.mono HB.out.size))
      clear hb
      simp only [Bool.not_true] at hq2
      go_wp2_with fail
      refine (HU.out w2).mono ?_
      rintro e w3 ⟨rfl, hb⟩
      have HB3 := Lib.hid (HB2.out.trans (hb.mono HB2.out.size))
      clear hb
      go_wp2_with fail
      go_ret2
      exact ⟨by rw [HE.out]; rfl, HB3.out⟩
set_option maxRecDepth 100000 in
set_option maxHeartbeats 1000000 in
theorem verify_calls (p a s : ByteArray) (w : World) (hp : p.size ≤ 9223372036854775807) (ha : a.size ≤ 9223372036854775807) (hs : s.size ≤ 9223372036854775807) :
    Calls Tryz.prog 169 #[.string p, .string a, .string s] w fun e w' => e = .returned (.int .i64 (verifyT (toL p) (toL a) (toL s))) ∧ Below w.heap.size w w' := by
  have HP := Lib.hid (whole_ask (s := p) w hp)
  have HA := Lib.hid (fun w => whole_ask (s := a) w ha)
  have HS := Lib.hid (fun w => whole_ask (s := s) w hs)
  cases h1 : rightT (toL p) with
  | false =>
    have HE : Hid (verifyT (toL p) (toL a) (toL s) = 1) := Lib.hid (by unfold verifyT; rw [h1]; rfl)
    rw [h1] at HP
    clear h1
    go_enter Tryz.func169, Tryz.ntmps169
    go_wp2_with fail
    refine HP.out.mono ?_
    rintro e w1 ⟨x, rfl, hq, hg, hb⟩
    have HB := Lib.hid hb
    clear hb
    simp only [Bool.not_false] at hq
    go_wp2_with fail
    go_ret
    exact ⟨by rw [HE.out]; rfl, HB.out⟩
  | true =>
    rw [h1] at HP
    cases h2 : rightT (toL a) with
    | false =>
      have HE : Hid (verifyT (toL p) (toL a) (toL s) = 1) := Lib.hid (by unfold verifyT; rw [h1, h2]; rfl)
      rw [h2] at HA
      clear h1 h2
      go_enter Tryz.func169, Tryz.ntmps169
      go_wp2_with fail
      refine HP.out.mono ?_
      rintro e w1 ⟨x, rfl, hq, hg, hb⟩
      have HB := Lib.hid hb
      clear hb
      simp only [Bool.not_true] at hq
      go_wp2_with fail
      refine (HA.out w1).mono ?_
      rintro e w2 ⟨y, rfl, hq2, hg2, hb⟩
      have HB2 := Lib.hid (HB.out.trans (hb.mono HB.out.size))
      clear hb
      simp only [Bool.not_false] at hq2
      go_wp2_with fail
      go_ret
      exact ⟨by rw [HE.out]; rfl, HB2.out⟩
    | true =>
      rw [h2] at HA
      cases h3 : rightT (toL s) with
      | false =>
        have HE : Hid (verifyT (toL p) (toL a) (toL s) = 1) := Lib.hid (by unfold verifyT; rw [h1, h2, h3]; rfl)
        rw [h3] at HS
        clear h1 h2 h3
        go_enter Tryz.func169, Tryz.ntmps169
        go_wp2_with fail
        refine HP.out.mono ?_
        rintro e w1 ⟨x, rfl, hq, hg, hb⟩
        have HB := Lib.hid hb
        clear hb
        simp only [Bool.not_true] at hq
        go_wp2_with fail
        refine (HA.out w1).mono ?_
        rintro e w2 ⟨y, rfl, hq2, hg2, hb⟩
        have HB2 := Lib.hid (HB.out.trans (hb.mono HB.out.size))
        clear hb
        simp only [Bool.not_true] at hq2
        go_wp2_with fail
        refine (HS.out w2).mono ?_
        rintro e w3 ⟨z, rfl, hq3, hg3, hb⟩
        have HB3 := Lib.hid (HB2.out.trans (hb.mono HB2.out.size))
        clear hb
        simp only [Bool.not_false] at hq3
        go_wp2_with fail
        go_ret
        exact ⟨by rw [HE.out]; rfl, HB3.out⟩
      | true =>
        obtain ⟨t, ht⟩ := whole_of_right h1
        obtain ⟨l, hl⟩ := t.enc_head
        have hpl : p.data.toList = t.kind :: l := by rw [← hl]; exact (whole_some ht).1
        have hne : 0 < p.size := by have := list_size p; rw [hpl] at this; simp at this; omega
        have hc0 : ((p[0]'hne).toNat : Int) = (t.kind.toNat : Int) := by rw [first_of hpl hne]
        have hps : p.size ≤ 4000 := by have := right_len h1; have h4 : (toL p).length = p.size := list_size p; omega
        have has : a.size ≤ 4000 := by have := right_len h2; have h4 : (toL a).length = a.size := list_size a; omega
        have htail := tail_of hpl
        have hTs : (mkB l).size ≤ 4000 := by rw [mkB_size]; have := list_size p; rw [hpl] at this; simp at this; omega
        have hap : (⟨#[103]⟩ : ByteArray) ++ mkB l = mkB (103 :: l) := by
          rw [show (⟨#[103]⟩ : ByteArray) = mkB [103] from rfl, mkB_append]; rfl
        have hUs : (mkB (103 :: l)).size ≤ 4001 := by rw [mkB_size] at hTs ⊢; simp; omega
        have hap2 : mkB (103 :: l) ++ a = mkB (103 :: (l ++ toL a)) := by
          conv => lhs; rhs; rw [← list_mkB a]
          rw [mkB_append]; rfl
        have HVV : Hid (∀ n, n = (if t.kind = 117 ∧ s = mkB (103 :: (l ++ toL a)) then 0 else 7 : Int) → verifyT (toL p) (toL a) (toL s) = n) := Lib.hid (by
          rintro n rfl
          unfold verifyT
          rw [h1, h2, h3]
          simp only [Bool.and_self, if_true]
          have e1 : toL p = t.kind :: l := hpl
          rw [e1]
          simp only [List.head?_cons, List.tail_cons, Option.some.injEq]
          have e2 : (s = mkB (103 :: (l ++ toL a))) ↔ (toL s = 103 :: (l ++ toL a)) := ⟨fun e => by rw [e]; exact mkB_list _, fun e => by rw [← e]; exact (list_mkB s).symm⟩
          by_cases c1 : t.kind = 117 <;> by_cases c2 : s = mkB (103 :: (l ++ toL a))
          · rw [if_pos ⟨c1, e2.1 c2⟩, if_pos ⟨c1, c2⟩]
          · rw [if_neg (fun h => c2 (e2.2 h.2)), if_neg (fun h => c2 h.2)]
          · rw [if_neg (fun h => c1 h.1), if_neg (fun h => c1 h.1)]
          · rw [if_neg (fun h => c1 h.1), if_neg (fun h => c1 h.1)])
        obtain ⟨T, hT⟩ : ∃ T, mkB l = T := ⟨_, rfl⟩
        obtain ⟨U, hU⟩ : ∃ U, mkB (103 :: l) = U := ⟨_, rfl⟩
        obtain ⟨X, hX⟩ : ∃ X, mkB (103 :: (l ++ toL a)) = X := ⟨_, rfl⟩
        rw [hT] at htail hTs hap
        rw [hU] at hap hUs hap2
        rw [hX] at hap2 HVV
        rw [h3] at HS
        clear h1 h2 h3 ht hl hpl hT hU hX
        by_cases hk : t.kind = 117
        · by_cases hsx : s = X
          · have HE := Lib.hid (HVV.out 0 (by rw [if_pos ⟨hk, hsx⟩]))
            rw [hk] at hc0
            subst hsx
            clear hk HVV
            go_enter Tryz.func169, Tryz.ntmps169
            go_wp2_with fail
            refine HP.out.mono ?_
            rintro e w1 ⟨x, rfl, hq, hg, hb⟩
            have HB := Lib.hid hb
            clear hb
            simp only [Bool.not_true] at hq
            go_wp2_with fail
            refine (HA.out w1).mono ?_
            rintro e w2 ⟨y, rfl, hq2, hg2, hb⟩
            have HB2 := Lib.hid (HB.out.trans (hb.mono HB.out.size))
            clear hb
            simp only [Bool.not_true] at hq2
            go_wp2_with fail
            refine (HS.out w2).mono ?_
            rintro e w3 ⟨z, rfl, hq3, hg3, hb⟩
            have HB3 := Lib.hid (HB2.out.trans (hb.mono HB2.out.size))
            clear hb
            simp only [Bool.not_true] at hq3
            go_wp2_with fail
            go_ret
            exact ⟨by rw [HE.out]; rfl, HB3.out⟩
          · have HE := Lib.hid (HVV.out 7 (by rw [if_neg (fun h => hsx h.2)]))
            have f1 : (s.toList == X.toList) = false := by rw [beq_eq_false_iff_ne]; exact fun e => hsx (blist_inj e)
            have f2 : (s.toList != X.toList) = true := by simp only [bne, f1]; rfl
            rw [hk] at hc0
            clear hk HVV hsx
            go_enter Tryz.func169, Tryz.ntmps169
            go_wp2_with fail
            refine HP.out.mono ?_
            rintro e w1 ⟨x, rfl, hq, hg, hb⟩
            have HB := Lib.hid hb
            clear hb
            simp only [Bool.not_true] at hq
            go_wp2_with fail
            refine (HA.out w1).mono ?_
            rintro e w2 ⟨y, rfl, hq2, hg2, hb⟩
            have HB2 := Lib.hid (HB.out.trans (hb.mono HB.out.size))
            clear hb
            simp only [Bool.not_true] at hq2
            go_wp2_with fail
            refine (HS.out w2).mono ?_
            rintro e w3 ⟨z, rfl, hq3, hg3, hb⟩
            have HB3 := Lib.hid (HB2.out.trans (hb.mono HB2.out.size))
            clear hb
            simp only [Bool.not_true] at hq3
            go_wp2_with fail
            go_ret
            exact ⟨by rw [HE.out]; rfl, HB3.out⟩
        · have HE := Lib.hid (HVV.out 7 (by rw [if_neg (fun h => hk h.1)]))
          have g1 : ((t.kind.toNat : Int) == 117) = false := by
            rw [beq_eq_false_iff_ne]
            intro e
            exact hk (UInt8.toNat_inj.1 (by show t.kind.toNat = 117; omega))
          obtain ⟨n, hn⟩ : ∃ n, (t.kind.toNat : Int) = n := ⟨_, rfl⟩
          rw [hn] at hc0 g1
          have g2 : (n != 117) = true := by simp only [bne, g1]; rfl
          clear hk HVV hn
          go_enter Tryz.func169, Tryz.ntmps169
          go_wp2_with fail
          refine HP.out.mono ?_
          rintro e w1 ⟨x, rfl, hq, hg, hb⟩
          have HB := Lib.hid hb
          clear hb
          simp only [Bool.not_true] at hq
          go_wp2_with fail
          refine (HA.out w1).mono ?_
          rintro e w2 ⟨y, rfl, hq2, hg2, hb⟩
          have HB2 := Lib.hid (HB.out.trans (hb.mono HB.out.size))
          clear hb
          simp only [Bool.not_true] at hq2
          go_wp2_with fail
          refine (HS.out w2).mono ?_
          rintro e w3 ⟨z, rfl, hq3, hg3, hb⟩
          have HB3 := Lib.hid (HB2.out.trans (hb.mono HB2.out.size))
          clear hb
          simp only [Bool.not_true] at hq3
          go_wp2_with fail
          go_ret
          exact ⟨by rw [HE.out]; rfl, HB3.out⟩
end Go.Proofs.YtckblcfkajpofaaGreatDoor
