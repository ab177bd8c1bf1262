/- PickOld. No condition. -/
import Derived.Test.YtcalfjakgidhfaaRows
import Derived.Test.YtcalfjakgidhfaaBOpen
import Derived.Test.YtcalfjakgidhfaaL13o
import Derived.Lib.SmallJoins
namespace Go.Proofs.Ytcalfjakgidhfaa.pickOld
open Go.ChangeShapes Go.WideShapes Go.ChangeAt Go.RowKit
open Go.ChangeMaps (open_string shut_string)
open Go.Joins (open_agg4)
set_option linter.unusedVariables false
set_option linter.unusedSimpArgs false

theorem own : ownKnob Try.prog.godebug = none := by kernel_rfl
theorem laidOut : laidOutB Try.prog = true := by kernel_rfl

def putD {H : Type} (a : PutV) : DataW H := .agg [.lit (.int .i64 a.k), .lit (.string a.blob.data.toList), .lit (.bool a.gone)]
theorem put_elem {H : Type} {enc : TypeId × Value → H} {w : World} {n : Nat} {cs : List Value} {d : DataW H} {p : List MemPlace} (h : DataW.trod enc Try.prog w 0 (fun _ => true) true n 73 cs = some (d, p)) :
    ∃ a, cs = putV a ∧ d = putD a ∧ (-9223372036854775808 ≤ a.k ∧ a.k ≤ 9223372036854775807) := by
  obtain ⟨xs, m, hx, hl, hxl, hf⟩ := trod_fields Try.underlying73 h
  obtain ⟨c0, c1, c2, rfl⟩ := three_of (hl.trans (by kernel_rfl))
  obtain ⟨y0, e0, f0⟩ := hf 0 _ c0 rfl (by kernel_rfl) rfl
  obtain ⟨y1, e1, f1⟩ := hf 1 _ c1 rfl (by kernel_rfl) rfl
  obtain ⟨y2, e2, f2⟩ := hf 2 _ c2 rfl (by kernel_rfl) rfl
  obtain ⟨z0, z1, z2, rfl⟩ := three_of (hxl.trans (by kernel_rfl))
  simp at e0 e1 e2
  subst e0 e1 e2
  obtain ⟨n0, h0, rfl, w0⟩ := DataW.trod_int Try.underlying3 f0
  obtain ⟨s1, h1, rfl, _⟩ := DataW.trod_string Try.underlying9 f1
  obtain ⟨b2, h2, rfl, _⟩ := DataW.trod_bool Try.underlying4 f2
  cases h0; cases h1; cases h2
  exact ⟨⟨n0, s1, b2⟩, rfl, hx, bounds_i64 w0⟩

set_option maxRecDepth 100000 in
theorem lifted (os : Os) (started : os.Started) (H : Type) (enc : TypeId × Value → H) :
    ReturnsInHanded {} Try.checked os 5 .any (Rows.pickOldSpec.pre6 enc Try.prog Try.f5 Rows.pickOldRow.domain false) (Rows.pickOldSpec.post enc Try.prog Try.f5 false true false false) := by
  refine returnsInHanded_of_change_sized (C := Try.checked) own started (by kernel_rfl) Try.func5
    (ChangeSpec.witness6 (enc := enc) (C := Try.checked) false ⟨#[], #[.slice none 0 0, .int .i64 0, .int .i64 0], []⟩ 8 (by kernel_rfl) (by kernel_rfl) (by kernel_rfl) (by kernel_rfl)) ?_
  intro W base args ds gs before hval0 hW hcnd hsz0 _
  have hsz : (DataW.weightsEach Try.prog (Try.f5.params.toList ++ Rows.pickOldSpec.plain.varTypes Try.prog) (ds ++ gs)).all (· ≤ reachBytes) = true := hsz0
  have hval : ∀ (j : Nat) t v, Try.f5.params[j]? = some t → args[j]? = some v → Value.okWide Try.prog W .any base t v := hval0
  have hW' := hW
  obtain ⟨p, q, hA0, hV, rfl, hfz, hnd⟩ := hW
  have hA : DataW.TrodAll enc Try.prog W 0 (fun _ => true) true Try.f5.params.toList args.toList ds p := hA0
  rw [Try.params5] at hA hval hsz
  obtain ⟨v0, vs0, d0, ds0, p0, q0, hargs, rfl, rfl, h0, r0⟩ := trodAll_cons hA
  obtain ⟨v1, vs1, d1, ds1, p1, q1, rfl, rfl, rfl, h1, r1⟩ := trodAll_cons r0
  obtain ⟨v2, vs2, d2, ds2, p2, q2, rfl, rfl, rfl, h2, r2⟩ := trodAll_cons r1
  obtain ⟨rfl, rfl, rfl⟩ := trodAll_nil r2
  obtain rfl : args = #[v0, v1, v2] := by cases args; simp_all
  obtain ⟨rfl, rfl⟩ := trodVars_none hV
  have k0 := h0
  have lt0 : ∀ x ∈ p0, x.block < W.heap.size := by obtain ⟨m, hm⟩ := k0; exact DataW.trod_lt m _ _ _ hm
  obtain ⟨a0, len0, cap0, rfl⟩ := okWide_slice Try.underlying41 (hval 0 41 v0 rfl rfl)
  obtain ⟨l0, hl0, hrows0, hwf0, hd0⟩ := open_rows (size := 3) (f := putV) (g := putD) (by decide) Try.underlying41 (by kernel_rfl) (fun _ => rfl) (fun n cs d p h => put_elem h) h0
  have hw0 : ∀ a ∈ l0, a.wf := fun a ha => by
    have hb := hwf0 a ha
    have he : ∃ sp, d0 = .slice (l0.map putD) sp := hd0.resolve_left fun e => by rw [e.2] at ha; cases ha
    obtain ⟨sp, rfl⟩ := he
    have hsz' : ∀ n ∈ (putD (H := H) a).weights Try.prog 73, n ≤ 140737488351232 := fun n hn => sized_elem hsz (j := 0) rfl rfl Try.underlying41 (List.mem_map.2 ⟨a, ha, rfl⟩) hn
    refine ⟨hb, ?_⟩
    have := hsz' a.blob.data.toList.length (by simp [putD, DataW.weights, DataW.weightsEach, Try.underlying73])
    rw [Array.length_toList] at this; exact this
  obtain ⟨n1, rfl, rfl, rfl, w1⟩ := open_int Try.underlying3 (hval 1 3 v1 rfl rfl) h1
  have hb1 := bounds_i64 w1
  obtain ⟨n2, rfl, rfl, rfl, w2⟩ := open_int Try.underlying3 (hval 2 3 v2 rfl rfl) h2
  have hb2 := bounds_i64 w2
  clear hA0 hval0 hsz0 hsz
  refine (old_calls W _ l0 n1 n2 hrows0 hw0 hb1.1 hb1.2 hb2.1 hb2.2).mono fun e W' ⟨he, bel⟩ => ?_
  subst he
  exact ⟨_, rfl, _, _, _, [], _, [], hW', trodAll_mk1 (shut_bool Try.underlying4 _), (trodAll_cons_mk (Below.trod laidOut (by kernel_rfl) (of_decide_eq_true (by kernel_rfl)) k0 bel lt0) (trodAll_cons_mk (shut_int Try.underlying3 w1) (trodAll_cons_mk (shut_int Try.underlying3 w2) trodAll_mk0))), rfl, bel.frame _, fun h => by cases h⟩

theorem over : Rows.pickOldRow.holds Try.pinned (OpenSpec.ofChange Rows.pickOldSpec) :=
  OpenClaim.holds_of_wide 5 Try.f5 rfl rfl rfl rfl rfl rfl rfl ⟨rfl, rfl, rfl, rfl, rfl⟩ rfl rfl rfl rfl rfl (by kernel_rfl) Try.func5 (by kernel_rfl)
    (of_decide_eq_true (by kernel_rfl)) (by unfold Func.isWrapper; first | (rw [if_pos (by decide +kernel)]; kernel_rfl) | (rw [if_neg (by decide +kernel)]; exact ⟨rfl, rfl⟩))
    (fun os started H enc _ => lifted os started H enc)
theorem proved : Rows.PickOldSaid := over
#print axioms proved
end Go.Proofs.Ytcalfjakgidhfaa.pickOld
namespace Go.Proofs.Ytcalfjakgidhfaa
theorem pickOld_holds : Rows.PickOldSaid := pickOld.proved
end Go.Proofs.Ytcalfjakgidhfaa
