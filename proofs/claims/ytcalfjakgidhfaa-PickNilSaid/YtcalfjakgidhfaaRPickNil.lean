/- PickNil. No condition. -/
import Derived.Test.YtcalfjakgidhfaaRows
import Derived.Test.YtcalfjakgidhfaaBOpen
import Derived.Test.YtcalfjakgidhfaaL13n
import Derived.Lib.SmallJoins
namespace Go.Proofs.Ytcalfjakgidhfaa.pickNil
open Go.ChangeShapes Go.WideShapes Go.ChangeAt Go.RowKit
open Go.ChangeMaps (open_string shut_string)
open Go.Joins (open_agg4)
set_option linter.unusedVariables false
set_option linter.unusedSimpArgs false

theorem own : ownKnob Try.prog.godebug = none := by kernel_rfl
theorem laidOut : laidOutB Try.prog = true := by kernel_rfl

set_option maxRecDepth 100000 in
theorem lifted (os : Os) (started : os.Started) (H : Type) (enc : TypeId × Value → H) :
    ReturnsInHanded {} Try.checked os 10 .any (Rows.pickNilSpec.pre6 enc Try.prog Try.f10 Rows.pickNilRow.domain false) (Rows.pickNilSpec.post enc Try.prog Try.f10 false true false false) := by
  refine returnsInHanded_of_change_sized (C := Try.checked) own started (by kernel_rfl) Try.func10
    (ChangeSpec.witness6 (enc := enc) (C := Try.checked) false ⟨#[], #[.agg #[.int .u8 0, .int .i64 0, .string ByteArray.empty, .string ByteArray.empty], .int .i64 0, .string ByteArray.empty], []⟩ 8 (by kernel_rfl) (by kernel_rfl) (by kernel_rfl) (by kernel_rfl)) ?_
  intro W base args ds gs before hval0 hW hcnd hsz0 _
  have hsz : (DataW.weightsEach Try.prog (Try.f10.params.toList ++ Rows.pickNilSpec.plain.varTypes Try.prog) (ds ++ gs)).all (· ≤ reachBytes) = true := hsz0
  have hval : ∀ (j : Nat) t v, Try.f10.params[j]? = some t → args[j]? = some v → Value.okWide Try.prog W .any base t v := hval0
  have hW' := hW
  obtain ⟨p, q, hA0, hV, rfl, hfz, hnd⟩ := hW
  have hA : DataW.TrodAll enc Try.prog W 0 (fun _ => true) true Try.f10.params.toList args.toList ds p := hA0
  rw [Try.params10] at hA hval hsz
  obtain ⟨v0, vs0, d0, ds0, p0, q0, hargs, rfl, rfl, h0, r0⟩ := trodAll_cons hA
  obtain ⟨v1, vs1, d1, ds1, p1, q1, rfl, rfl, rfl, h1, r1⟩ := trodAll_cons r0
  obtain ⟨v2, vs2, d2, ds2, p2, q2, rfl, rfl, rfl, h2, r2⟩ := trodAll_cons r1
  obtain ⟨rfl, rfl, rfl⟩ := trodAll_nil r2
  obtain rfl : args = #[v0, v1, v2] := by cases args; simp_all
  obtain ⟨rfl, rfl⟩ := trodVars_none hV
  have k0 := h0
  have lt0 : ∀ x ∈ p0, x.block < W.heap.size := by obtain ⟨m, hm⟩ := k0; exact DataW.trod_lt m _ _ _ hm
  obtain ⟨c00, c01, c02, c03, y00, y01, y02, y03, m0, rfl, rfl, hp0, g00, g01, g02, g03⟩ := open_agg4 Try.underlying49 (by kernel_rfl) (by kernel_rfl) (hval 0 49 v0 rfl rfl) h0
  obtain ⟨z00, e00, rfl, _⟩ := DataW.trod_int Try.underlying5 g00
  obtain ⟨z01, e01, rfl, wz0⟩ := DataW.trod_int Try.underlying3 g01
  obtain ⟨z02, e02, rfl, _⟩ := DataW.trod_string Try.underlying9 g02
  obtain ⟨z03, e03, rfl, _⟩ := DataW.trod_string Try.underlying9 g03
  cases e00; cases e01; cases e02; cases e03
  have hk0 : z02.size ≤ 140737488351232 := by
    have := sized_arg hsz (j := 0) rfl rfl (n := z02.data.toList.length) (by simp [DataW.weights, DataW.weightsEach, Try.underlying49])
    rw [Array.length_toList] at this; exact this
  have hy0 : z03.size ≤ 140737488351232 := by
    have := sized_arg hsz (j := 0) rfl rfl (n := z03.data.toList.length) (by simp [DataW.weights, DataW.weightsEach, Try.underlying49])
    rw [Array.length_toList] at this; exact this
  obtain ⟨n1, rfl, rfl, rfl, w1⟩ := open_int Try.underlying3 (hval 1 3 v1 rfl rfl) h1
  have hb1 := bounds_i64 w1
  obtain ⟨n2, rfl, rfl, rfl, ws2⟩ := open_string Try.underlying9 (hval 2 9 v2 rfl rfl) h2
  have hn2 : n2.size ≤ 140737488351232 := by
    have := sized_arg hsz (j := 2) rfl rfl (n := n2.data.toList.length) (by simp [DataW.weights])
    rw [Array.length_toList] at this; exact this
  clear hA0 hval0 hsz0 hsz
  refine (nil_calls W ⟨z00, z01, z02, z03⟩ n1 n2 hk0 hy0 hb1.1 hb1.2 hn2).mono fun e W' ⟨he, bel⟩ => ?_
  subst he
  exact ⟨_, rfl, _, _, _, [], _, [], hW', trodAll_mk1 (shut_bool Try.underlying4 _), (trodAll_cons_mk (Below.trod laidOut (by kernel_rfl) (of_decide_eq_true (by kernel_rfl)) k0 bel lt0) (trodAll_cons_mk (shut_int Try.underlying3 w1) (trodAll_cons_mk (shut_string Try.underlying9 ws2) trodAll_mk0))), rfl, bel.frame _, fun h => by cases h⟩

theorem over : Rows.pickNilRow.holds Try.pinned (OpenSpec.ofChange Rows.pickNilSpec) :=
  OpenClaim.holds_of_wide 10 Try.f10 rfl rfl rfl rfl rfl rfl rfl ⟨rfl, rfl, rfl, rfl, rfl⟩ rfl rfl rfl rfl rfl (by kernel_rfl) Try.func10 (by kernel_rfl)
    (of_decide_eq_true (by kernel_rfl)) (by unfold Func.isWrapper; first | (rw [if_pos (by decide +kernel)]; kernel_rfl) | (rw [if_neg (by decide +kernel)]; exact ⟨rfl, rfl⟩))
    (fun os started H enc _ => lifted os started H enc)
theorem proved : Rows.PickNilSaid := over
#print axioms proved
end Go.Proofs.Ytcalfjakgidhfaa.pickNil
namespace Go.Proofs.Ytcalfjakgidhfaa
theorem pickNil_holds : Rows.PickNilSaid := pickNil.proved
end Go.Proofs.Ytcalfjakgidhfaa
