/- The law StoreBounds: bytes that are all zero, and their string. -/
import Derived.Test.YtcalfjakgidhfaaL12f
import Derived.Laws.MakeOwn
import Derived.Laws.BytesArg
import Derived.Handy
namespace Go.Proofs.Ytcalfjakgidhfaa
open Go.RowKit Go.Sort
set_option linter.unusedVariables false
set_option linter.unusedSimpArgs false

theorem info_u8 : (Try.prog.info? 5).map (fun i => (i.zero, i.size, i.bytes)) = some (some (.int .u8 0), 1, 1) := by kernel_rfl
def zeroS (n : Nat) : ByteArray := strOfNums (List.replicate n 0)
theorem zeroS_size (n : Nat) : (zeroS n).size = n := by unfold zeroS; rw [strOfNums_size]; simp
def zeroO (n : Nat) : Obj := .cells (madeCells #[.int .u8 0] n) 5 (0, 0)
theorem run_make_u8 (n : Nat) (hn : n ≤ 1000000) (w : World) : (Instr.makeSlice 54 (.int .i64 n) (.int .i64 n)).run Try.prog w = .ok (.slice (some ⟨w.heap.size, 0, none⟩) n n) (w.alloc (zeroO n)) := by
  obtain ⟨i0, hi, hz0, hz1, hz2⟩ := info_parts info_u8
  have := run_make (P := Try.prog) w 54 5 i0 (.int .u8 0) Try.underlying54 hi hz0 .i64 .i64 n n (by omega) (by omega) (by rw [hz2]; omega) (by omega)
  rw [this, hz1]; simp [zeroO, Value.cells]
theorem run_conv_u8 (n b : Nat) (w : World) (h : w.heap[b]? = some (zeroO n)) : (convert 54 9 (.slice (some ⟨b, 0, none⟩) n n)).run Try.prog w = .ok (.string (zeroS n)) w := by
  refine run_convert_bytes_arg w 54 5 Try.underlying54 Try.underlying5 b 0 n n (List.replicate n 0) (by simp) (fun i hi => ?_) _ Try.underlying9
  rw [Nat.zero_add, cell_of_row w b i _ _ _ h]
  simp [madeCells, hi, Nat.mod_one, List.getD_eq_getElem?_getD]

def ActV.it' (a : ActV) : ByteArray := keyOf a.k a.key
def St.zstep (z : ByteArray) (S : St) (a : ActV) : St := if keyOf a.k a.key = z then S else S.put (keyOf a.k a.key) a.blob
def runZ (z : ByteArray) (l : List ActV) : St := l.foldl (St.zstep z) St.new
theorem runZ_succ (z : ByteArray) {l : List ActV} {k : Nat} {a : ActV} (h : l[k]? = some a) : runZ z (l.take (k + 1)) = (runZ z (l.take k)).zstep z a := by rw [take_succ_get h]; simp [runZ]
theorem put_puts (S : St) (k v : ByteArray) : (S.put k v).puts ≤ S.puts + 1 := by unfold St.put; split <;> simp
theorem put_there (S : St) {k z : ByteArray} (v : ByteArray) (h : k ≠ z) : aget (S.put k v).there z = aget S.there z := by
  unfold St.put; split
  · simp only; rw [aget_aput, if_neg (fun e => h e.symm)]
  · rfl
theorem zfold_ok (z : ByteArray) (l : List ActV) (S : St) (h : aget S.there z = none) : (l.foldl (St.zstep z) S).puts ≤ S.puts + l.length ∧ aget (l.foldl (St.zstep z) S).there z = none := by
  induction l generalizing S with
  | nil => exact ⟨Nat.le_refl _, h⟩
  | cons a l ih =>
    rw [List.foldl_cons, List.length_cons]
    have hs : (S.zstep z a).puts ≤ S.puts + 1 ∧ aget (S.zstep z a).there z = none := by
      unfold St.zstep; split
      · exact ⟨Nat.le_succ _, h⟩
      · rename_i hne; exact ⟨put_puts _ _ _, by rw [put_there S a.blob hne]; exact h⟩
    obtain ⟨h1, h2⟩ := ih _ hs.2
    exact ⟨by have := hs.1; omega, h2⟩
theorem runZ_ok (z : ByteArray) (l : List ActV) : (runZ z l).puts ≤ l.length ∧ aget (runZ z l).there z = none := by
  have := zfold_ok z l St.new rfl; simpa [runZ, St.new] using this
theorem put_get (S : St) (k v : ByteArray) (h : S.putErr k v = 0) : (S.put k v).get k = v ∧ (S.put k v).getErr k = 0 ∧ (S.put k v).puts = S.puts + 1 := by
  have e : S.put k v = ⟨aput S.ever k (S.versions k ++ [v]), aput S.there k ((S.versions k).length + 1), S.puts + 1⟩ := by rw [St.put, if_pos h]
  rw [e]
  refine ⟨?_, ?_, rfl⟩
  · simp only [St.get, St.versions, aget_aput, if_true, Option.getD_some]
    simp [List.getD_eq_getElem?_getD]
  · simp only [St.getErr, aget_aput, if_true]; rfl
def wantZ (n m : Nat) : Int := if n = 0 ∨ n > 200 then 1 else if m > 40000 then 10 else 0
theorem putErr_zero (S : St) (n m : Nat) (h : S.puts < 2000) : S.putErr (zeroS n) (zeroS m) = wantZ n m := by
  unfold St.putErr wantZ; rw [zeroS_size, zeroS_size]
  split
  · rfl
  · split
    · rfl
    · rw [if_neg (by omega)]

/-- the store lies from B on, and none of its blocks is one of N -/
def Off (w : World) (v : Value) (S : St) (B : Nat) (N : Nat → Prop) : Prop := (∃ F : Nat → Prop, IsStore w v S F ∧ ∀ k, F k → B ≤ k ∧ ¬ N k) ∧ ∀ k, N k → k < w.heap.size
theorem Off.below {w w' : World} {v : Value} {S : St} {B : Nat} {N : Nat → Prop} (h : Off w v S B N) (k : Below w.heap.size w w') : Off w' v S B N := by
  obtain ⟨⟨F, h1, h2⟩, h3⟩ := h
  exact ⟨⟨F, h1.keep (Keep.of_below k (F := fun _ => False)) fun _ _ e => e, h2⟩, fun i hi => Nat.lt_of_lt_of_le (h3 i hi) k.size⟩
theorem Off.more {w : World} {v : Value} {S : St} {B : Nat} {N : Nat → Prop} (h : Off w v S B N) (o : Obj) : Off (w.alloc o) v S B (fun k => N k ∨ k = w.heap.size) := by
  obtain ⟨⟨F, h1, h2⟩, h3⟩ := h
  refine ⟨⟨F, h1.keep (Keep.alloc (fun _ => False) w o) fun _ _ e => e, fun k hk => ⟨(h2 k hk).1, fun e => ?_⟩⟩, fun k hk => ?_⟩
  · rcases e with e | e
    · exact (h2 k hk).2 e
    · have := h1.lt k hk; omega
  · rw [size_alloc]; rcases hk with hk | hk
    · have := h3 k hk; omega
    · omega
theorem off_put {w : World} {v : Value} {S : St} {B : Nat} {N : Nat → Prop} (h : Off w v S B N) (hB : B ≤ w.heap.size) (key blob : ByteArray) : Calls Try.prog 19 #[v, .string key, .string blob] w fun e w' => e = .returned (.int .i64 (S.putErr key blob)) ∧ Off w' v (S.put key blob) B N ∧ Keep (fun k => B ≤ k ∧ ¬ N k) w w' := by
  obtain ⟨⟨F, h1, h2⟩, h3⟩ := h
  refine (store_put h1 key blob).mono fun e w' ⟨e1, e2, e3⟩ => ⟨e1, ⟨⟨_, e2, fun k hk => ?_⟩, fun k hk => Nat.lt_of_lt_of_le (h3 k hk) e3.size⟩, e3.mono fun k hk => h2 k hk⟩
  rcases hk with hk | hk
  · exact h2 k hk
  · exact ⟨Nat.le_trans hB hk.1, fun e => by have := h3 k e; omega⟩
theorem Off.row {w w' : World} {v u : Value} {S : St} {B n : Nat} {N : Nat → Prop} {e : TypeId} {xs : List Value} (h : Off w v S B N) (hb : Below w.heap.size w w') (ho : w'.ownsRow w.heap.size e 1 u n xs) : Off w' v S B (fun k => N k ∨ u.ownBlock = some k) := by
  obtain ⟨⟨F, h1, h2⟩, h3⟩ := h
  refine ⟨⟨F, h1.keep (Keep.of_below hb (F := fun _ => False)) fun _ _ e => e, fun k hk => ⟨(h2 k hk).1, fun e => ?_⟩⟩, fun k hk => ?_⟩
  · rcases e with e | e
    · exact (h2 k hk).2 e
    · have := h1.lt k hk; have := (World.ownsRow.lt ho k e).1; omega
  · rcases hk with hk | hk
    · exact Nat.lt_of_lt_of_le (h3 k hk) hb.size
    · exact (World.ownsRow.lt ho k hk).2
theorem Off.store {w : World} {v : Value} {S : St} {B : Nat} {N : Nat → Prop} (h : Off w v S B N) : ∃ F, IsStore w v S F := by obtain ⟨⟨F, h1, h2⟩, h3⟩ := h; exact ⟨F, h1⟩

theorem act_at {w wr : World} {A : Option Addr} {n c k : Nat} {l : List ActV} {x : ActV} (hv : rowsOf 4 actV w (.slice A n c) l) (hb : Below w.heap.size w wr) (hx : l[k]? = some x) (b off : Nat) (hA : A = some ⟨b, off, none⟩) :
    wr.cell? ⟨b, off + k * 4, none⟩ = some (.int .i64 x.op) ∧ wr.cell? ⟨b, off + k * 4 + 1, none⟩ = some (.int .i64 x.k) ∧ wr.cell? ⟨b, off + k * 4 + 2, none⟩ = some (.string x.key) ∧ wr.cell? ⟨b, off + k * 4 + 3, none⟩ = some (.string x.blob) := by
  obtain ⟨A', c', e, _, _, h3⟩ := hv.below hb
  have hlt := (List.getElem?_eq_some_iff.1 hx).1
  obtain ⟨b', off', rfl, hc⟩ := h3 (by omega)
  cases e
  cases hA
  exact ⟨hc k x hx 0 _ rfl, hc k x hx 1 _ rfl, hc k x hx 2 _ rfl, hc k x hx 3 _ rfl⟩

set_option maxRecDepth 100000 in
set_option maxHeartbeats 4000000 in
theorem bounds_calls (w : World) (v : Value) (l : List ActV) (lo bi : Int) (hv : rowsOf 4 actV w v l) (hw : ∀ a ∈ l, a.wf) (hl0 : -9223372036854775808 ≤ lo) (hl1 : lo ≤ 9223372036854775807) (hb0 : -9223372036854775808 ≤ bi) (hb1 : bi ≤ 9223372036854775807) :
    Calls Try.prog 8 #[v, .int .i64 lo, .int .i64 bi] w fun e w' => e = .returned (.bool true) ∧ Below w.heap.size w w' := by
  obtain ⟨B, hB⟩ : ∃ B, B = w.heap.size := ⟨_, rfl⟩
  rw [← hB]
  have HB := Lib.hid hB
  clear hB
  have HV := Lib.hid hv
  have HW := Lib.hid hw
  obtain ⟨A, c, rfl, hlc, hmx, h3⟩ := hv
  clear hw h3
  go_enter Try.func8, Try.ntmps8
  go_wp2_with fail
  refine (shown_calls _).mono ?_
  rintro e w1 ⟨rfl, hb1'⟩
  have W1 : Hid (Below w.heap.size w w1) := hb1'
  clear hb1'
  go_wp2_with fail
  refine (light_calls w1 _ l (HV.out.below W1.out) HW.out).mono ?_
  rintro e w2 ⟨rfl, hd2⟩
  have W2 : Hid (Below w.heap.size w w2) := W1.out.trans (hd2.below.mono W1.out.size)
  clear hd2
  go_wp2_with fail
  refine (storeB_new w2 B (by rw [HB.out]; exact W2.out.size)).mono ?_
  rintro e w3 ⟨vs, rfl, hS, hb3⟩
  obtain ⟨bs, rfl⟩ := hS.ptr
  have S3 := Lib.hid hS
  have W3 : Hid (Below w.heap.size w w3) := W2.out.trans (hb3.mono W2.out.size)
  clear hS hb3
  cases hlb : lightB l with
  | false =>
    have HLB := Lib.hid hlb
    clear hlb
    go_wp2_with fail
    go_ret
    exact ⟨rfl, by rw [HB.out]; exact W3.out⟩
  | true =>
  have HLB := Lib.hid hlb
  clear hlb
  by_cases h20 : (20 : Int) < l.length
  · go_wp2_with fail
    go_ret
    exact ⟨rfl, by rw [HB.out]; exact W3.out⟩
  have hp := pickZ_lt lo (n := 210) (by omega)
  obtain ⟨n, hn'⟩ : ∃ n : Nat, pickZ lo 210 = n := ⟨(pickZ lo 210).toNat, by omega⟩
  rw [hn'] at hp
  have hn210 : n < 210 := by omega
  have HN := Lib.hid hn'
  clear hn' hp
  have hmk := run_make_u8 n (by omega)
  go_wp2_with fail
  refine (pick_calls lo 210 _ hl0 hl1 (by omega) (by omega)).mono ?_
  rintro e w4 ⟨rfl, rfl⟩
  rw [HN.out]
  go_wp2_with fail
  obtain ⟨bk, hbk⟩ : ∃ bk, bk = w3.heap.size := ⟨_, rfl⟩
  rw [← hbk]
  have hoff : Off (w3.alloc (zeroO n)) (.pointer (some ⟨bs, 0, none⟩)) (runZ (zeroS n) (l.take 0)) B (fun k => k = bk) := by
    have h0 : Off w3 (.pointer (some ⟨bs, 0, none⟩)) St.new B (fun _ => False) := ⟨⟨_, S3.out, fun k hk => ⟨hk.1, fun e => e⟩⟩, fun _ e => e.elim⟩
    have := h0.more (zeroO n)
    rw [← hbk] at this
    obtain ⟨⟨F, a1, a2⟩, a3⟩ := this
    exact ⟨⟨F, a1, fun k hk => ⟨(a2 k hk).1, fun e => (a2 k hk).2 (Or.inr e)⟩⟩, fun k hk => a3 k (Or.inr hk)⟩
  have hz0 : (w3.alloc (zeroO n)).heap[bk]? = some (zeroO n) := by rw [hbk]; exact (MapKept.heap_alloc w3 _).1
  have HO : Hid (Off (w3.alloc (zeroO n)) (.pointer (some ⟨bs, 0, none⟩)) (runZ (zeroS n) (l.take 0)) B (fun k => k = bk) ∧ (w3.alloc (zeroO n)).heap[bk]? = some (zeroO n) ∧ Keep (fun k => B ≤ k) w (w3.alloc (zeroO n))) := ⟨hoff, hz0, Keep.of_below (W3.out.trans ((Below.refl _ _).alloc W3.out.size _))⟩
  have HBK := Lib.hid hbk
  clear hoff hz0 hbk
  go_loopw [11] (fun i wr => ∃ k : Nat, k ≤ l.length ∧ i = .int .i64 k ∧ Hid (Off wr (.pointer (some ⟨bs, 0, none⟩)) (runZ (zeroS n) (l.take k)) B (fun k => k = bk) ∧ wr.heap[bk]? = some (zeroO n) ∧ Keep (fun k => B ≤ k) w wr)) (fun i _ => l.length - (intOf i).toNat)
  case atStart => exact ⟨0, Nat.zero_le _, rfl, HO⟩
  case round =>
    clear HO
    obtain ⟨k, hk, rfl, HO⟩ := hrel
    have hBr : B ≤ wr.heap.size := by rw [HB.out]; exact HO.out.2.2.size
    by_cases hlt : k < l.length
    · obtain ⟨x, hx⟩ : ∃ x, l[k]? = some x := ⟨_, List.getElem?_eq_getElem hlt⟩
      have hxw := HW.out x (List.mem_of_getElem? hx)
      have hA : ∃ b off, A = some ⟨b, off, none⟩ := by
        obtain ⟨A', c', e, _, _, h3⟩ := HV.out
        obtain ⟨b', off', rfl, hc⟩ := h3 (by omega)
        cases e; exact ⟨b', off', rfl⟩
      obtain ⟨b, off, rfl⟩ := hA
      have HX := Lib.hid hx
      have CC : ∀ wz, Keep (fun k => B ≤ k) w wz → wz.cell? ⟨b, off + k * 4, none⟩ = some (.int .i64 x.op) ∧ wz.cell? ⟨b, off + k * 4 + 1, none⟩ = some (.int .i64 x.k) ∧ wz.cell? ⟨b, off + k * 4 + 2, none⟩ = some (.string x.key) ∧ wz.cell? ⟨b, off + k * 4 + 3, none⟩ = some (.string x.blob) := fun wz hz =>
        act_at HV.out (by rw [HB.out] at hz; exact hz.new) HX.out b off rfl
      have HC := Lib.hid CC
      clear hx CC
      have Q0 := Lib.hid (HC.out wr HO.out.2.2)
      have R0 := Lib.hid (run_conv_u8 n bk wr HO.out.2.1)
      go_wp2_with fail
      go_region_held3 (fun w' => w'.cell? ⟨b, off + k * 4, none⟩ = some (.int .i64 x.op) ∧ w'.cell? ⟨b, off + k * 4 + 1, none⟩ = some (.int .i64 x.k) ∧ w'.cell? ⟨b, off + k * 4 + 2, none⟩ = some (.string x.key) ∧ w'.cell? ⟨b, off + k * 4 + 3, none⟩ = some (.string x.blob) ∧ (convert 54 9 (.slice (some ⟨bk, 0, none⟩) n n)).run Try.prog w' = .ok (.string (zeroS n)) w')
        (first | exact ⟨Q0.out.1, Q0.out.2.1, Q0.out.2.2.1, Q0.out.2.2.2, run_conv_u8 n bk _ HO.out.2.1⟩ | exact ⟨Q1.out.1, Q1.out.2.1, Q1.out.2.2.1, Q1.out.2.2.2, run_conv_u8 n bk _ HO1.out.2.1⟩) (first
        | (go_at_call 16; refine (key_calls x.op x.k x.key x.blob _ hxw.2.1.1 hxw.2.1.2).mono ?_; rintro e w5 ⟨rfl, hb'⟩; have hb : Below wr.heap.size wr w5 := (Below.refl wr.heap.size wr).drew.trans hb'; have HO1 : Hid (Off w5 (.pointer (some ⟨bs, 0, none⟩)) (runZ (zeroS n) (l.take k)) B (fun k => k = bk) ∧ w5.heap[bk]? = some (zeroO n) ∧ Keep (fun k => B ≤ k) w w5) := Lib.hid ⟨HO.out.1.below hb, (Keep.of_below hb (F := fun _ => False)).at HO.out.2.1 (fun e => e), HO.out.2.2.same (Keep.of_below hb)⟩; have Q1 := Lib.hid (HC.out w5 HO1.out.2.2); clear hb hb'))
      by_cases hko : keyOf x.k x.key = zeroS n
      · have e4 : ((keyOf x.k x.key).toList != (zeroS n).toList) = false := by rw [hko]; simp
        have e5 : ((keyOf x.k x.key).toList == (zeroS n).toList) = true := by rw [hko]; simp
        have HR1 : Hid (runZ (zeroS n) (l.take (k + 1)) = runZ (zeroS n) (l.take k)) := Lib.hid (by rw [runZ_succ _ HX.out, St.zstep, if_pos hko])
        clear hko
        simp only [e5, Bool.not_true]
        clear e4 e5
        go_wp2_with fail
        refine ⟨⟨k + 1, by omega, by simp, by rw [HR1.out]; exact HO1⟩, ?_⟩
        simp only [intOf]; omega
      · have e4 : ((keyOf x.k x.key).toList != (zeroS n).toList) = true := by simp; exact fun e => hko (list_inj e)
        have e5 : ((keyOf x.k x.key).toList == (zeroS n).toList) = false := by simp; exact fun e => hko (list_inj e)
        have HR1 : Hid (runZ (zeroS n) (l.take (k + 1)) = (runZ (zeroS n) (l.take k)).put (keyOf x.k x.key) x.blob) := Lib.hid (by rw [runZ_succ _ HX.out, St.zstep, if_neg hko])
        have hB5 : B ≤ w5.heap.size := by rw [HB.out]; exact HO1.out.2.2.size
        clear hko HO Q0 R0
        simp only [e5, Bool.not_false]
        clear e4 e5
        go_wp2_with fail
        go_region_held3 (fun w' => w'.cell? ⟨b, off + k * 4, none⟩ = some (.int .i64 x.op) ∧ w'.cell? ⟨b, off + k * 4 + 1, none⟩ = some (.int .i64 x.k) ∧ w'.cell? ⟨b, off + k * 4 + 2, none⟩ = some (.string x.key) ∧ w'.cell? ⟨b, off + k * 4 + 3, none⟩ = some (.string x.blob))
          (first | exact Q1.out | exact Q2.out | exact Q3.out) (first
          | (go_at_call 16; refine (key_calls x.op x.k x.key x.blob _ hxw.2.1.1 hxw.2.1.2).mono ?_; rintro e w6 ⟨rfl, hb'⟩; have hb : Below w5.heap.size w5 w6 := (Below.refl w5.heap.size w5).drew.trans hb'; have hB6 : B ≤ w6.heap.size := Nat.le_trans hB5 hb.size; have HO2 : Hid (Off w6 (.pointer (some ⟨bs, 0, none⟩)) (runZ (zeroS n) (l.take k)) B (fun k => k = bk) ∧ w6.heap[bk]? = some (zeroO n) ∧ Keep (fun k => B ≤ k) w w6) := Lib.hid ⟨HO1.out.1.below hb, (Keep.of_below hb (F := fun _ => False)).at HO1.out.2.1 (fun e => e), HO1.out.2.2.same (Keep.of_below hb)⟩; have Q2 := Lib.hid (HC.out w6 HO2.out.2.2); clear hb hb')
          | (go_at_call 19; refine (off_put HO2.out.1 hB6 _ _).mono ?_; rintro e w7 ⟨rfl, ho7, hk7⟩; have HO3 : Hid (Off w7 (.pointer (some ⟨bs, 0, none⟩)) (runZ (zeroS n) (l.take (k + 1))) B (fun k => k = bk) ∧ w7.heap[bk]? = some (zeroO n) ∧ Keep (fun k => B ≤ k) w w7) := Lib.hid ⟨by rw [HR1.out]; exact ho7, hk7.at HO2.out.2.1 (fun e => e.2 rfl), HO2.out.2.2.same (hk7.mono fun _ e => e.1)⟩; have Q3 := Lib.hid (HC.out w7 HO3.out.2.2); clear ho7 hk7))
        go_wp2_with fail
        refine ⟨⟨k + 1, by omega, by simp, HO3⟩, ?_⟩
        simp only [intOf]; omega
    · have hkl : l.take k = l := List.take_of_length_le (by omega)
      rw [hkl] at HO
      clear hkl
      have hp := pickZ_lt bi (n := 20) (by omega)
      obtain ⟨m0, hm'⟩ : ∃ m0 : Nat, pickZ bi 20 = m0 := ⟨(pickZ bi 20).toNat, by omega⟩
      rw [hm'] at hp
      have hm20 : m0 < 20 := by omega
      have HM := Lib.hid hm'
      clear hm' hp
      obtain ⟨m, hm⟩ : ∃ m : Nat, m = 39990 + m0 := ⟨_, rfl⟩
      have hmw : IntKind.i64.wrap ((39990 : Int) + m0) = m := by rw [IntKind.wrap_i64]; omega
      have hmk2 := run_make_u8 m (by omega)
      have HMM := Lib.hid hm
      clear hm
      obtain ⟨S, hS⟩ : ∃ S, runZ (zeroS n) l = S := ⟨_, rfl⟩
      have hok := runZ_ok (zeroS n) l
      rw [hS] at hok HO
      have HOK := Lib.hid hok
      clear hS hok
      go_wp2_with fail
      refine (pick_calls bi 20 _ hb0 hb1 (by omega) (by omega)).mono ?_
      rintro e w5 ⟨rfl, rfl⟩
      rw [HM.out]
      go_wp2_with fail
      have hom := HO.out.1.more (zeroO m)
      obtain ⟨wa, hwa⟩ : ∃ wa, wr.alloc (zeroO m) = wa := ⟨_, rfl⟩
      have hka : Keep (fun _ => False) wr wa := by rw [← hwa]; exact Keep.alloc _ _ _
      have hzm : wa.heap[wr.heap.size]? = some (zeroO m) := by rw [← hwa]; exact (MapKept.heap_alloc wr _).1
      have hzn := hka.at HO.out.2.1 (fun e => e)
      rw [hwa] at hom
      obtain ⟨bm, hbm⟩ : ∃ bm, wr.heap.size = bm := ⟨_, rfl⟩
      rw [hbm] at hom hzm ⊢
      rw [hwa]
      have KA : Hid (Keep (fun k => B ≤ k) w wa) := HO.out.2.2.same (hka.mono fun _ e => e.elim)
      have OA := Lib.hid hom
      have ZM := Lib.hid hzm
      have ZN := Lib.hid hzn
      clear hom hka hzm hzn hwa hbm HO hmk hmk2
      obtain ⟨FA, hFA⟩ := OA.out.store
      refine (store_puts hFA).mono ?_
      rintro e w6 ⟨rfl, rfl⟩
      obtain ⟨pz, hpz⟩ : ∃ pz : Int, (S.puts : Int) = pz := ⟨_, rfl⟩
      rw [hpz]
      have HPZ := Lib.hid hpz
      clear hpz
      go_wp2_with fail
      refine (store_list hFA _).mono ?_
      rintro e w6 ⟨v6, rfl, hv6, hb6⟩
      have hs6 := strs_own hv6
      have V6 := Lib.hid hs6
      have O6 := Lib.hid (OA.out.row hb6 hv6)
      have ZM6 := Lib.hid ((Keep.of_below hb6 (F := fun _ => False)).at ZM.out (fun e => e))
      have ZN6 := Lib.hid ((Keep.of_below hb6 (F := fun _ => False)).at ZN.out (fun e => e))
      have K6 : Hid (Keep (fun k => B ≤ k) w w6) := KA.out.same (Keep.of_below hb6)
      clear hv6 hs6 hb6 hFA OA ZM ZN KA
      have r1 := run_conv_u8 n bk w6 ZN6.out
      have r2 := run_conv_u8 m bm w6 ZM6.out
      have hB6 : B ≤ w6.heap.size := by rw [HB.out]; exact K6.out.size
      go_wp2_with fail
      refine (off_put O6.out hB6 _ _).mono ?_
      rintro e w7 ⟨rfl, ho7, hk7⟩
      have hpe := putErr_zero S n m (by have := HOK.out.1; omega)
      rw [hpe]
      have O7 := Lib.hid ho7
      have K7 : Hid (Keep (fun k => B ≤ k) w w7) := K6.out.same (hk7.mono fun _ e => e.1)
      have V7 := Lib.hid (V6.out.keep hk7 fun b hb e => e.2 (Or.inr hb))
      have ZM7 := Lib.hid (hk7.at ZM6.out fun e => e.2 (Or.inl (Or.inr rfl)))
      have ZN7 := Lib.hid (hk7.at ZN6.out fun e => e.2 (Or.inl (Or.inl rfl)))
      have HPE := Lib.hid hpe
      clear ho7 hk7 r1 r2 hpe
      have r1 := run_conv_u8 n bk w7 ZN7.out
      have r2 := run_conv_u8 m bm w7 ZM7.out
      by_cases hmb : m > 40000
      · by_cases hn0 : n = 0
        · have hwz : wantZ n m = 1 := by unfold wantZ; rw [if_pos (Or.inl hn0)]
          rw [hwz]
          have hput : S.put (zeroS n) (zeroS m) = S := by rw [St.put, if_neg (by rw [HPE.out, hwz]; decide)]
          rw [hput] at O7
          have hge : S.getErr (zeroS n) = 4 := by unfold St.getErr; rw [HOK.out.2]; rfl
          have hg : S.get (zeroS n) = ⟨#[]⟩ := by unfold St.get; rw [HOK.out.2]; rfl
          have HGE := Lib.hid hge
          have HG := Lib.hid hg
          clear hwz hput hge hg
          obtain ⟨F7, hF7⟩ := O7.out.store
          have t1 : (40000 : Int) < m := by omega
          have t2 : ((n : Int) == 0) = true := by simp; omega
          have t4 : (n : Int) = 0 := by omega
          clear hn0
          go_wp2_with fail
          refine (store_get hF7 _).mono ?_
          rintro e w8 ⟨rfl, rfl⟩
          rw [HGE.out, HG.out]
          go_wp2_with fail
          refine (store_puts hF7).mono ?_
          rintro e w8 ⟨rfl, rfl⟩
          rw [HPZ.out]
          go_wp2_with fail
          refine (store_list hF7 _).mono ?_
          rintro e w8 ⟨v8, rfl, hv8, hb8⟩
          have V8 := Lib.hid (strs_own hv8)
          have K8 : Hid (Keep (fun k => B ≤ k) w w8) := K7.out.same (Keep.of_below hb8)
          have X8 := Lib.hid (V7.out.below hb8)
          clear hv8 hb8 hF7
          go_wp2_with fail
          refine (same_calls w8 _ _ _ _ V8.out X8.out).mono ?_
          rintro e w9 ⟨rfl, hd9⟩
          rw [decide_eq_true rfl]
          have K9 : Hid (Below w.heap.size w w9) := by have := K8.out.same (hd9.keep _); rw [HB.out] at this; exact this.new
          clear hd9
          go_wp2_with fail
          go_ret
          exact ⟨rfl, by rw [HB.out]; exact K9.out⟩
        by_cases hn2 : n > 200
        · have hwz : wantZ n m = 1 := by unfold wantZ; rw [if_pos (Or.inr hn2)]
          rw [hwz]
          have hput : S.put (zeroS n) (zeroS m) = S := by rw [St.put, if_neg (by rw [HPE.out, hwz]; decide)]
          rw [hput] at O7
          have hge : S.getErr (zeroS n) = 4 := by unfold St.getErr; rw [HOK.out.2]; rfl
          have hg : S.get (zeroS n) = ⟨#[]⟩ := by unfold St.get; rw [HOK.out.2]; rfl
          have HGE := Lib.hid hge
          have HG := Lib.hid hg
          clear hwz hput hge hg
          obtain ⟨F7, hF7⟩ := O7.out.store
          have t1 : (40000 : Int) < m := by omega
          have t2 : ((n : Int) == 0) = false := by simp; omega
          have t4 : ¬ (n : Int) = 0 := by omega
          have t3 : (200 : Int) < n := by omega
          go_wp2_with fail
          refine (store_get hF7 _).mono ?_
          rintro e w8 ⟨rfl, rfl⟩
          rw [HGE.out, HG.out]
          go_wp2_with fail
          refine (store_puts hF7).mono ?_
          rintro e w8 ⟨rfl, rfl⟩
          rw [HPZ.out]
          go_wp2_with fail
          refine (store_list hF7 _).mono ?_
          rintro e w8 ⟨v8, rfl, hv8, hb8⟩
          have V8 := Lib.hid (strs_own hv8)
          have K8 : Hid (Keep (fun k => B ≤ k) w w8) := K7.out.same (Keep.of_below hb8)
          have X8 := Lib.hid (V7.out.below hb8)
          clear hv8 hb8 hF7
          go_wp2_with fail
          refine (same_calls w8 _ _ _ _ V8.out X8.out).mono ?_
          rintro e w9 ⟨rfl, hd9⟩
          rw [decide_eq_true rfl]
          have K9 : Hid (Below w.heap.size w w9) := by have := K8.out.same (hd9.keep _); rw [HB.out] at this; exact this.new
          clear hd9
          go_wp2_with fail
          go_ret
          exact ⟨rfl, by rw [HB.out]; exact K9.out⟩
        have hwz : wantZ n m = 10 := by unfold wantZ; rw [if_neg (by omega), if_pos hmb]
        rw [hwz]
        have hput : S.put (zeroS n) (zeroS m) = S := by rw [St.put, if_neg (by rw [HPE.out, hwz]; decide)]
        rw [hput] at O7
        have hge : S.getErr (zeroS n) = 4 := by unfold St.getErr; rw [HOK.out.2]; rfl
        have hg : S.get (zeroS n) = ⟨#[]⟩ := by unfold St.get; rw [HOK.out.2]; rfl
        have HGE := Lib.hid hge
        have HG := Lib.hid hg
        clear hwz hput hge hg
        obtain ⟨F7, hF7⟩ := O7.out.store
        have t1 : (40000 : Int) < m := by omega
        have t2 : ((n : Int) == 0) = false := by simp; omega
        have t4 : ¬ (n : Int) = 0 := by omega
        have t3 : ¬ (200 : Int) < n := by omega
        go_wp2_with fail
        refine (store_get hF7 _).mono ?_
        rintro e w8 ⟨rfl, rfl⟩
        rw [HGE.out, HG.out]
        go_wp2_with fail
        refine (store_puts hF7).mono ?_
        rintro e w8 ⟨rfl, rfl⟩
        rw [HPZ.out]
        go_wp2_with fail
        refine (store_list hF7 _).mono ?_
        rintro e w8 ⟨v8, rfl, hv8, hb8⟩
        have V8 := Lib.hid (strs_own hv8)
        have K8 : Hid (Keep (fun k => B ≤ k) w w8) := K7.out.same (Keep.of_below hb8)
        have X8 := Lib.hid (V7.out.below hb8)
        clear hv8 hb8 hF7
        go_wp2_with fail
        refine (same_calls w8 _ _ _ _ V8.out X8.out).mono ?_
        rintro e w9 ⟨rfl, hd9⟩
        rw [decide_eq_true rfl]
        have K9 : Hid (Below w.heap.size w w9) := by have := K8.out.same (hd9.keep _); rw [HB.out] at this; exact this.new
        clear hd9
        go_wp2_with fail
        go_ret
        exact ⟨rfl, by rw [HB.out]; exact K9.out⟩
      · by_cases hn0 : n = 0
        · have hwz : wantZ n m = 1 := by unfold wantZ; rw [if_pos (Or.inl hn0)]
          rw [hwz]
          have hput : S.put (zeroS n) (zeroS m) = S := by rw [St.put, if_neg (by rw [HPE.out, hwz]; decide)]
          rw [hput] at O7
          have hge : S.getErr (zeroS n) = 4 := by unfold St.getErr; rw [HOK.out.2]; rfl
          have hg : S.get (zeroS n) = ⟨#[]⟩ := by unfold St.get; rw [HOK.out.2]; rfl
          have HGE := Lib.hid hge
          have HG := Lib.hid hg
          clear hwz hput hge hg
          obtain ⟨F7, hF7⟩ := O7.out.store
          have t1 : ¬ (40000 : Int) < m := by omega
          have t2 : ((n : Int) == 0) = true := by simp; omega
          have t4 : (n : Int) = 0 := by omega
          clear hn0
          go_wp2_with fail
          refine (store_get hF7 _).mono ?_
          rintro e w8 ⟨rfl, rfl⟩
          rw [HGE.out, HG.out]
          go_wp2_with fail
          refine (store_puts hF7).mono ?_
          rintro e w8 ⟨rfl, rfl⟩
          rw [HPZ.out]
          go_wp2_with fail
          refine (store_list hF7 _).mono ?_
          rintro e w8 ⟨v8, rfl, hv8, hb8⟩
          have V8 := Lib.hid (strs_own hv8)
          have K8 : Hid (Keep (fun k => B ≤ k) w w8) := K7.out.same (Keep.of_below hb8)
          have X8 := Lib.hid (V7.out.below hb8)
          clear hv8 hb8 hF7
          go_wp2_with fail
          refine (same_calls w8 _ _ _ _ V8.out X8.out).mono ?_
          rintro e w9 ⟨rfl, hd9⟩
          rw [decide_eq_true rfl]
          have K9 : Hid (Below w.heap.size w w9) := by have := K8.out.same (hd9.keep _); rw [HB.out] at this; exact this.new
          clear hd9
          go_wp2_with fail
          go_ret
          exact ⟨rfl, by rw [HB.out]; exact K9.out⟩
        by_cases hn2 : n > 200
        · have hwz : wantZ n m = 1 := by unfold wantZ; rw [if_pos (Or.inr hn2)]
          rw [hwz]
          have hput : S.put (zeroS n) (zeroS m) = S := by rw [St.put, if_neg (by rw [HPE.out, hwz]; decide)]
          rw [hput] at O7
          have hge : S.getErr (zeroS n) = 4 := by unfold St.getErr; rw [HOK.out.2]; rfl
          have hg : S.get (zeroS n) = ⟨#[]⟩ := by unfold St.get; rw [HOK.out.2]; rfl
          have HGE := Lib.hid hge
          have HG := Lib.hid hg
          clear hwz hput hge hg
          obtain ⟨F7, hF7⟩ := O7.out.store
          have t1 : ¬ (40000 : Int) < m := by omega
          have t2 : ((n : Int) == 0) = false := by simp; omega
          have t4 : ¬ (n : Int) = 0 := by omega
          have t3 : (200 : Int) < n := by omega
          go_wp2_with fail
          refine (store_get hF7 _).mono ?_
          rintro e w8 ⟨rfl, rfl⟩
          rw [HGE.out, HG.out]
          go_wp2_with fail
          refine (store_puts hF7).mono ?_
          rintro e w8 ⟨rfl, rfl⟩
          rw [HPZ.out]
          go_wp2_with fail
          refine (store_list hF7 _).mono ?_
          rintro e w8 ⟨v8, rfl, hv8, hb8⟩
          have V8 := Lib.hid (strs_own hv8)
          have K8 : Hid (Keep (fun k => B ≤ k) w w8) := K7.out.same (Keep.of_below hb8)
          have X8 := Lib.hid (V7.out.below hb8)
          clear hv8 hb8 hF7
          go_wp2_with fail
          refine (same_calls w8 _ _ _ _ V8.out X8.out).mono ?_
          rintro e w9 ⟨rfl, hd9⟩
          rw [decide_eq_true rfl]
          have K9 : Hid (Below w.heap.size w w9) := by have := K8.out.same (hd9.keep _); rw [HB.out] at this; exact this.new
          clear hd9
          go_wp2_with fail
          go_ret
          exact ⟨rfl, by rw [HB.out]; exact K9.out⟩
        have hwz : wantZ n m = 0 := by unfold wantZ; rw [if_neg (by omega), if_neg (by omega)]
        rw [hwz]
        obtain ⟨hg, hge, hpp⟩ := put_get S (zeroS n) (zeroS m) (by rw [HPE.out, hwz])
        have hpp' : (((S.put (zeroS n) (zeroS m)).puts : Nat) : Int) = pz + 1 := by rw [hpp, ← HPZ.out]; omega
        have hpb : pz + 1 ≤ 100 := by have := HOK.out.1; rw [← HPZ.out]; omega
        have hpb2 : 0 ≤ pz := by rw [← HPZ.out]; omega
        have hpw : IntKind.i64.wrap (pz + 1) = pz + 1 := by rw [IntKind.wrap_i64]; omega
        have HG := Lib.hid hg
        have HGE := Lib.hid hge
        have HPP := Lib.hid hpp'
        clear hwz hg hge hpp hpp'
        obtain ⟨F7, hF7⟩ := O7.out.store
        have t1 : ¬ (40000 : Int) < m := by omega
        have t2 : ((n : Int) == 0) = false := by simp; omega
        have t3 : ¬ (200 : Int) < n := by omega
        have t4 : ¬ (n : Int) = 0 := by omega
        go_wp2_with fail
        refine (store_get hF7 _).mono ?_
        rintro e w8 ⟨rfl, rfl⟩
        rw [HGE.out, HG.out]
        go_wp2_with fail
        refine (store_puts hF7).mono ?_
        rintro e w8 ⟨rfl, rfl⟩
        rw [HPP.out]
        have K9 : Hid (Below w.heap.size w w7) := by have := K7.out; rw [HB.out] at this; exact this.new
        go_wp2_with fail
        go_ret
        exact ⟨rfl, by rw [HB.out]; exact K9.out⟩
end Go.Proofs.Ytcalfjakgidhfaa
