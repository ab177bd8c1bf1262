/- The store's methods: what each does to a store in memory. -/
import Derived.Test.YtcalfjakgidhfaaProg
import Derived.Test.YtcalfjakgidhfaaBMem
import Derived.WalkKit
import Derived.OwnWalk
import Derived.StillTailTactics
import Derived.Deep.RegionLaw
import Derived.Deep.RegionHeld3
import Derived.Deep.QuietTactic
import Derived.BigQuiet
import Derived.KernelRfl
import Derived.Outline
namespace Go.Proofs.Ytcalfjakgidhfaa
open Go.RowKit
set_option linter.unusedVariables false
set_option linter.unusedSimpArgs false

structure St where
  ever : List (ByteArray × List ByteArray)
  there : List (ByteArray × Nat)
  puts : Nat

/-- what a store's maps hold together -/
structure St.ok (S : St) : Prop where
  puts : S.puts ≤ 2000
  tlen : S.there.length ≤ S.puts
  len : ∀ k l, aget S.ever k = some l → l.length ≤ S.puts
  there : ∀ k n, aget S.there k = some n → ∃ l, aget S.ever k = some l ∧ 1 ≤ n ∧ n ≤ l.length

def St.new : St := ⟨[], [], 0⟩
def St.versions (S : St) (k : ByteArray) : List ByteArray := (aget S.ever k).getD []
def St.putErr (S : St) (k v : ByteArray) : Int := if k.size = 0 ∨ k.size > 200 then 1 else if v.size > 40000 then 10 else if S.puts = 2000 then 11 else 0
def St.put (S : St) (k v : ByteArray) : St := if S.putErr k v = 0 then ⟨aput S.ever k (S.versions k ++ [v]), aput S.there k ((S.versions k).length + 1), S.puts + 1⟩ else S
def St.del (S : St) (k : ByteArray) : St := ⟨S.ever, adel S.there k, S.puts⟩
def St.delErr (S : St) (k : ByteArray) : Int := if (aget S.there k).isSome then 0 else 4
def St.get (S : St) (k : ByteArray) : ByteArray := match aget S.there k with | some n => (S.versions k).getD (n - 1) ByteArray.empty | none => ByteArray.empty
def St.getErr (S : St) (k : ByteArray) : Int := if (aget S.there k).isSome then 0 else 4

/-- The rows of a store's versions: each slice with the blobs that it holds. -/
abbrev StRows := List (ByteArray × (Value × List ByteArray))

/-- v points to a store S; its blocks are those of F. -/
def IsStore (w : World) (v : Value) (S : St) (F : Nat → Prop) : Prop :=
  ∃ b be bt, ∃ rows : StRows, v = .pointer (some ⟨b, 0, none⟩) ∧ w.heap[b]? = some (.cells #[.map (some be), .map (some bt), .int .i64 S.puts] 69 (0, 0)) ∧
    smap w Value.string be (amap (·.1) rows) ∧ S.ever = amap (·.2) rows ∧ smap w Value.string bt (amap (fun n => Value.int .i64 (Int.ofNat n)) S.there) ∧
    (∀ k r, aget rows k = some r → w.ownsRow 0 9 1 r.1 r.2.length (strV r.2)) ∧
    (∀ k k' r r', aget rows k = some r → aget rows k' = some r' → k ≠ k' → r.1.ownBlock = none ∨ r.1.ownBlock ≠ r'.1.ownBlock) ∧
    be ≠ bt ∧ F b ∧ F be ∧ F bt ∧ (∀ k r g, aget rows k = some r → r.1.ownBlock = some g → F g) ∧ (∀ k, F k → k < w.heap.size) ∧ S.ok

theorem IsStore.keep {w w' : World} {v : Value} {S : St} {F G : Nat → Prop} (h : IsStore w v S F) (k : Keep G w w') (hd : ∀ i, F i → ¬ G i) : IsStore w' v S F := by
  obtain ⟨b, be, bt, rows, h1, h2, h3, h4, h5, h6, h7, hne, h8, h9, h10, h11, h12, h13⟩ := h
  exact ⟨b, be, bt, rows, h1, k.at h2 (hd _ h8), k.smap h3 (hd _ h9), h4, k.smap h5 (hd _ h10), fun i r hr => k.own (h6 i r hr) (fun g hg => hd _ (h11 i r g hr hg)), h7, hne, h8, h9, h10, h11,
    fun i hi => Nat.lt_of_lt_of_le (h12 i hi) k.size, h13⟩

theorem IsStore.wider {w : World} {v : Value} {S : St} {F G : Nat → Prop} (h : IsStore w v S F) (hG : ∀ k, F k → G k) (hlt : ∀ k, G k → k < w.heap.size) : IsStore w v S G := by
  obtain ⟨b, be, bt, rows, h1, h2, h3, h4, h5, h6, h7, hne, h8, h9, h10, h11, h12, h13⟩ := h
  exact ⟨b, be, bt, rows, h1, h2, h3, h4, h5, h6, h7, hne, hG _ h8, hG _ h9, hG _ h10, fun i r g hr hg => hG _ (h11 i r g hr hg), hlt, h13⟩
theorem IsStore.lt {w : World} {v : Value} {S : St} {F : Nat → Prop} (h : IsStore w v S F) : ∀ k, F k → k < w.heap.size := by
  obtain ⟨b, be, bt, rows, h1, h2, h3, h4, h5, h6, h7, hne, h8, h9, h10, h11, h12, h13⟩ := h; exact h12
theorem IsStore.ok {w : World} {v : Value} {S : St} {F : Nat → Prop} (h : IsStore w v S F) : S.ok := by
  obtain ⟨b, be, bt, rows, h1, h2, h3, h4, h5, h6, h7, hne, h8, h9, h10, h11, h12, h13⟩ := h; exact h13
theorem St.ok.del {S : St} (h : S.ok) (k : ByteArray) : (S.del k).ok := ⟨h.puts, Nat.le_trans (List.length_filter_le _ _) h.tlen, h.len, fun j n hj => by
  simp only [St.del] at hj ⊢; rw [aget_adel] at hj; split at hj
  · cases hj
  · exact h.there j n hj⟩
theorem St.new_ok : St.new.ok := ⟨by simp [St.new], by simp [St.new], by simp [St.new, aget], by simp [St.new, aget]⟩

set_option maxHeartbeats 400000 in
theorem store_new (w : World) : Calls Try.prog 15 #[] w fun e w' => ∃ v, e = .returned v ∧ IsStore w' v St.new (fun k => w.heap.size ≤ k ∧ k < w'.heap.size) ∧ Below w.heap.size w w' := by
  have hmm := @run_makeMap Try.prog
  go_enter Try.func15, Try.ntmps15
  go_wp2
  go_ret
  refine ⟨_, rfl, ⟨w.heap.size + 1 + 1, w.heap.size, w.heap.size + 1, [], rfl, ?_, ?_, rfl, ?_, ?_, ?_, by simp, ?_, ?_, ?_, ?_, ?_, St.new_ok⟩, ?_⟩
  · rw [get_alloc, size_alloc, size_alloc]; simp; rfl
  · exact ((smap_made w Value.string).alloc _).alloc _
  · have := smap_made (w.alloc (.map #[] 0)) Value.string
    rw [size_alloc] at this
    exact this.alloc _
  · simp [aget]
  · simp [aget]
  · simp [size_alloc]; try omega
  · simp [size_alloc]; try omega
  · simp [size_alloc]; try omega
  · simp [aget]
  · intro k hk; exact hk.2
  · exact (((Below.refl _ _).alloc (Nat.le_refl _) _).alloc (by simp) _).alloc (by simp [size_alloc]; omega) _

theorem law66 : MK Try.prog 9 Value.string := mk_string Try.underlying9
theorem zero_int (w : World) : (zeroValue 3).run Try.prog w = .ok (.int .i64 0) w := by kernel_rfl
theorem zero_strs (w : World) : (zeroValue 37).run Try.prog w = .ok (.slice none 0 0) w := by kernel_rfl

theorem info9 : (Try.prog.info? 9).map (fun i => (i.zero, i.size, i.bytes)) = some (some (.string ⟨#[]⟩), 1, 16) := by kernel_rfl

theorem own_nil (w : World) (base e size : Nat) : w.ownsRow base e size (.slice none 0 0) 0 [] := World.ownsRow_nil w base e size

/-- one blob more, in memory -/
theorem put_append {w : World} {v : Value} {l : List ByteArray} (ho : w.ownsRow 0 9 1 v l.length (strV l)) (blob : ByteArray) (hl : l.length ≤ 2000) :
    ∃ A c w', (Builtin.append_ #[37, 37] 37 #[v, .slice (some ⟨w.heap.size, 0, none⟩) 1 1]).run Try.prog (w.alloc (.cells #[.string blob] 9)).drew = .ok (.slice A (l.length + 1) c) w' ∧
      w'.ownsRow 0 9 1 (.slice A (l.length + 1) c) (l ++ [blob]).length (strV (l ++ [blob])) ∧ Keep (fun k => v.ownBlock = some k) w w' ∧ ((Value.slice A (l.length + 1) c).ownBlock = v.ownBlock ∨ (Value.slice A (l.length + 1) c).ownBlock = some (w.heap.size + 1)) ∧ w.heap.size < w'.heap.size := by
  obtain ⟨i0, hi, hz0, hz1, hz2⟩ := info_parts info9
  have ho1 : (w.drew.alloc (.cells #[.string blob] 9)).ownsRow 0 9 1 v l.length (strV l) := World.ownsRow.alloc (w := w.drew) ho _
  obtain ⟨v', w', hr, h2, h3, h4, h5⟩ := run_append_own_at (P := Try.prog) (w.drew.alloc (.cells #[.string blob] 9)) 0 37 37 9 i0 (.string ⟨#[]⟩) 1 16 Try.underlying37 hi hz0 hz1 hz2 rfl (by decide) v l.length (strV l) ho1
    ⟨w.heap.size, 0, none⟩ 1 1 [.string blob] rfl (cell_one_new w.drew _ _) (by simp [Value.oneCell']) (by unfold maxLen; omega) (by omega) (Nat.zero_le _)
  have hex : ∃ A c, v' = .slice A (l.length + 1) c := by
    rcases h2.2 with ⟨rfl, h0⟩ | ⟨g, cap, cur, hv, _⟩
    · omega
    · exact ⟨_, _, hv⟩
  obtain ⟨A, c, rfl⟩ := hex
  refine ⟨A, c, w', hr, by simpa [strV] using h2, ?_, by simpa [size_alloc] using h5, by have := h3.size; rw [size_alloc] at this; exact this⟩
  exact (((Keep.drew _ w).same (Keep.alloc _ w.drew _))).same (Keep.of_grown h3 fun k hk => hk)
end Go.Proofs.Ytcalfjakgidhfaa
