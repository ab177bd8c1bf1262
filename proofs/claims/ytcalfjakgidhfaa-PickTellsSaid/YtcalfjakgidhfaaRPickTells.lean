/- PickTells. No condition. -/
import Derived.Test.YtcalfjakgidhfaaRows
import Derived.Test.YtcalfjakgidhfaaBOpen
import Derived.Test.YtcalfjakgidhfaaL13t
import Derived.Lib.SmallJoins
namespace Go.Proofs.Ytcalfjakgidhfaa.pickTells
open Go.ChangeShapes Go.WideShapes Go.ChangeAt Go.RowKit
open Go.ChangeMaps (open_string shut_string)
open Go.Joins (open_agg4)
set_option linter.unusedVariables false
set_option linter.unusedSimpArgs false

theorem own : ownKnob Try.prog.godebug = none := by kernel_rfl
theorem laidOut : laidOutB Try.prog = true := by kernel_rfl

def putD {H : Type} (a : PutV) : DataW H := .agg [.lit (.int .i64 a.k), .lit (.string a.blob.data.toList), .lit (.bool a.gone)]
theorem put_elem {H : Type} {enc : TypeId × Value → H} {w : World} {n : Nat} {cs : List Value} {d : DataW H} {p : List MemPlace} (h : DataW.trod enc Try.prog w 0 (fun _ => true) true n 73 cs = some (d, p)) :
    ∃ a, cs = putV a ∧ d = putD a ∧ (-9223372036854775808 ≤ a.k ∧ a.k ≤ 9223372036854775807) := by
  obtain ⟨xs, m, hx, hl, hxl, hf⟩ := trod_fields Try.underlying73 h
  obtain ⟨c0, c1, c2, rfl⟩ := three_of (hl.trans (by kernel_rfl))
  obtain ⟨y0, e0, f0⟩ := hf 0 _ c0 rfl (by kernel_rfl) rfl
  obtain ⟨y1, e1, f1⟩ := hf 1 _ c1 rfl (by kernel_rfl) rfl
  obtain ⟨y2, e2, f2⟩ := hf 2 _ c2 rfl (by kernel_rfl) rfl
  obtain ⟨z0, z1, z2, rfl⟩ := three_of (hxl.trans (by kernel_rfl))
  simp at e0 e1 e2
  subst e0 e1 e2
  obtain ⟨n0, h0, rfl, w0⟩ := DataW.trod_int Try.underlying3 f0
  obtain ⟨s1, h1, rfl, _⟩ := DataW.trod_string Try.underlying9 f1
  obtain ⟨b2, h2, rfl, _⟩ := DataW.trod_bool Try.underlying4 f2
  cases h0; cases h1; cases h2
  exact ⟨⟨n0, s1, b2⟩, rfl, hx, bounds_i64 w0⟩

set_option maxRecDepth 100000 in
theorem lifted (os : Os) (started : os.Started) (H : Type) (enc : TypeId × Value → H) :
    ReturnsInHanded {} Try.checked os 12 .any (Rows.pickTellsSpec.pre6 enc Try.prog Try.f12 Rows.pickTellsRow.domain false) (Rows.pickTellsSpec.post enc Try.prog Try.f12 false true false false) := by
  refine returnsInHanded_of_change_sized (C := Try.checked) own started (by kernel_rfl) Try.func12
    (ChangeSpec.witness6 (enc := enc) (C := Try.checked) false ⟨#[], #[.slice none 0 0, .agg #[.int .u8 0, .int .i64 0, .string ByteArray.empty, .string ByteArray.empty], .int .i64 0, .string ByteArray.empty], []⟩ 8 (by kernel_rfl) (by kernel_rfl) (by kernel_rfl) (by kernel_rfl)) ?_
  intro W base args ds gs before hval0 hW hcnd hsz0 _
  have hsz : (DataW.weightsEach Try.prog (Try.f12.params.toList ++ Rows.pickTellsSpec.plain.varTypes Try.prog) (ds ++ gs)).all (· ≤ reachBytes) = true := hsz0
  have hval : ∀ (j : Nat) t v, Try.f12.params[j]? = some t → args[j]? = some v → Value.okWide Try.prog W .any base t v := hval0
  have hW' := hW
  obtain ⟨p, q, hA0, hV, rfl, hfz, hnd⟩ := hW
  have hA : DataW.TrodAll enc Try.prog W 0 (fun _ => true) true Try.f12.params.toList args.toList ds p := hA0
  rw [Try.params12] at hA hval hsz
  obtain ⟨v0, vs0, d0, ds0, p0, q0, hargs, rfl, rfl, h0, r0⟩ := trodAll_cons hA
  obtain ⟨v1, vs1, d1, ds1, p1, q1, rfl, rfl, rfl, h1, r1⟩ := trodAll_cons r0
  obtain ⟨v2, vs2, d2, ds2, p2, q2, rfl, rfl, rfl, h2, r2⟩ := trodAll_cons r1
  obtain ⟨v3, vs3, d3, ds3, p3, q3, rfl, rfl, rfl, h3, r3⟩ := trodAll_cons r2
  obtain ⟨rfl, rfl, rfl⟩ := trodAll_nil r3
  obtain rfl : args = #[v0, v1, v2, v3] := by cases args; simp_all
  obtain ⟨rfl, rfl⟩ := trodVars_none hV
  have k0 := h0
  have lt0 : ∀ x ∈ p0, x.block < W.heap.size := by obtain ⟨m, hm⟩ := k0; exact DataW.trod_lt m _ _ _ hm
  have k1 := h1
  have lt1 : ∀ x ∈ p1, x.block < W.heap.size := by obtain ⟨m, hm⟩ := k1; exact DataW.trod_lt m _ _ _ hm
  obtain ⟨a0, len0, cap0, rfl⟩ := okWide_slice Try.underlying41 (hval 0 41 v0 rfl rfl)
  obtain ⟨l0, hl0, hrows0, hwf0, hd0⟩ := open_rows (size := 3) (f := putV) (g := putD) (by decide) Try.underlying41 (by kernel_rfl) (fun _ => rfl) (fun n cs d p h => put_elem h) h0
  have hw0 : ∀ a ∈ l0, a.wf := fun a ha => by
    have hb := hwf0 a ha
    have he : ∃ sp, d0 = .slice (l0.map putD) sp := hd0.resolve_left fun e => by rw [e.2] at ha; cases ha
    obtain ⟨sp, rfl⟩ := he
    have hsz' : ∀ n ∈ (putD (H := H) a).weights Try.prog 73, n ≤ 140737488351232 := fun n hn => sized_elem hsz (j := 0) rfl rfl Try.underlying41 (List.mem_map.2 ⟨a, ha, rfl⟩) hn
    refine ⟨hb, ?_⟩
    have := hsz' a.blob.data.toList.length (by simp [putD, DataW.weights, DataW.weightsEach, Try.underlying73])
    rw [Array.length_toList] at this; exact this
  obtain ⟨c10, c11, c12, c13, y10, y11, y12, y13, m1, rfl, rfl, hp1, g10, g11, g12, g13⟩ := open_agg4 Try.underlying49 (by kernel_rfl) (by kernel_rfl) (hval 1 49 v1 rfl rfl) h1
  obtain ⟨z10, e10, rfl, _⟩ := DataW.trod_int Try.underlying5 g10
  obtain ⟨z11, e11, rfl, wz1⟩ := DataW.trod_int Try.underlying3 g11
  obtain ⟨z12, e12, rfl, _⟩ := DataW.trod_string Try.underlying9 g12
  obtain ⟨z13, e13, rfl, _⟩ := DataW.trod_string Try.underlying9 g13
  cases e10; cases e11; cases e12; cases e13
  have hk1 : z12.size ≤ 140737488351232 := by
    have := sized_arg hsz (j := 1) rfl rfl (n := z12.data.toList.length) (by simp [DataW.weights, DataW.weightsEach, Try.underlying49])
    rw [Array.length_toList] at this; exact this
  have hy1 : z13.size ≤ 140737488351232 := by
    have := sized_arg hsz (j := 1) rfl rfl (n := z13.data.toList.length) (by simp [DataW.weights, DataW.weightsEach, Try.underlying49])
    rw [Array.length_toList] at this; exact this
  obtain ⟨n2, rfl, rfl, rfl, w2⟩ := open_int Try.underlying3 (hval 2 3 v2 rfl rfl) h2
  have hb2 := bounds_i64 w2
  obtain ⟨n3, rfl, rfl, rfl, ws3⟩ := open_string Try.underlying9 (hval 3 9 v3 rfl rfl) h3
  have hn3 : n3.size ≤ 140737488351232 := by
    have := sized_arg hsz (j := 3) rfl rfl (n := n3.data.toList.length) (by simp [DataW.weights])
    rw [Array.length_toList] at this; exact this
  clear hA0 hval0 hsz0 hsz
  refine (tells_calls W _ l0 ⟨z10, z11, z12, z13⟩ n2 n3 hrows0 hw0 hk1 hy1 hb2.1 hb2.2 hn3).mono fun e W' ⟨he, bel⟩ => ?_
  subst he
  exact ⟨_, rfl, _, _, _, [], _, [], hW', trodAll_mk1 (shut_bool Try.underlying4 _), (trodAll_cons_mk (Below.trod laidOut (by kernel_rfl) (of_decide_eq_true (by kernel_rfl)) k0 bel lt0) (trodAll_cons_mk (Below.trod laidOut (by kernel_rfl) (of_decide_eq_true (by kernel_rfl)) k1 bel lt1) (trodAll_cons_mk (shut_int Try.underlying3 w2) (trodAll_cons_mk (shut_string Try.underlying9 ws3) trodAll_mk0)))), rfl, bel.frame _, fun h => by cases h⟩

theorem over : Rows.pickTellsRow.holds Try.pinned (OpenSpec.ofChange Rows.pickTellsSpec) :=
  OpenClaim.holds_of_wide 12 Try.f12 rfl rfl rfl rfl rfl rfl rfl ⟨rfl, rfl, rfl, rfl, rfl⟩ rfl rfl rfl rfl rfl (by kernel_rfl) Try.func12 (by kernel_rfl)
    (of_decide_eq_true (by kernel_rfl)) (by unfold Func.isWrapper; first | (rw [if_pos (by decide +kernel)]; kernel_rfl) | (rw [if_neg (by decide +kernel)]; exact ⟨rfl, rfl⟩))
    (fun os started H enc _ => lifted os started H enc)
theorem proved : Rows.PickTellsSaid := over
#print axioms proved
end Go.Proofs.Ytcalfjakgidhfaa.pickTells
namespace Go.Proofs.Ytcalfjakgidhfaa
theorem pickTells_holds : Rows.PickTellsSaid := pickTells.proved
end Go.Proofs.Ytcalfjakgidhfaa
