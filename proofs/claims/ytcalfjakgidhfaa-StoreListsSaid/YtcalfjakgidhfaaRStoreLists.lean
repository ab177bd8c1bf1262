/- StoreLists. No condition. -/
import Derived.Test.YtcalfjakgidhfaaRows
import Derived.Test.YtcalfjakgidhfaaBOpen
import Derived.Test.YtcalfjakgidhfaaL12j
import Derived.Lib.SmallJoins
namespace Go.Proofs.Ytcalfjakgidhfaa.storeLists
open Go.ChangeShapes Go.WideShapes Go.ChangeAt Go.RowKit
open Go.ChangeMaps (open_string shut_string)
open Go.Joins (open_agg4)
set_option linter.unusedVariables false
set_option linter.unusedSimpArgs false

theorem own : ownKnob Try.prog.godebug = none := by kernel_rfl
theorem laidOut : laidOutB Try.prog = true := by kernel_rfl

def actD {H : Type} (a : ActV) : DataW H := .agg [.lit (.int .i64 a.op), .lit (.int .i64 a.k), .lit (.string a.key.data.toList), .lit (.string a.blob.data.toList)]
theorem act_elem {H : Type} {enc : TypeId × Value → H} {w : World} {n : Nat} {cs : List Value} {d : DataW H} {p : List MemPlace} (h : DataW.trod enc Try.prog w 0 (fun _ => true) true n 30 cs = some (d, p)) :
    ∃ a, cs = actV a ∧ d = actD a ∧ ((-9223372036854775808 ≤ a.op ∧ a.op ≤ 9223372036854775807) ∧ (-9223372036854775808 ≤ a.k ∧ a.k ≤ 9223372036854775807)) := by
  obtain ⟨xs, m, hx, hl, hxl, hf⟩ := trod_fields Try.underlying30 h
  obtain ⟨c0, c1, c2, c3, rfl⟩ := four_of (hl.trans (by kernel_rfl))
  obtain ⟨y0, e0, f0⟩ := hf 0 _ c0 rfl (by kernel_rfl) rfl
  obtain ⟨y1, e1, f1⟩ := hf 1 _ c1 rfl (by kernel_rfl) rfl
  obtain ⟨y2, e2, f2⟩ := hf 2 _ c2 rfl (by kernel_rfl) rfl
  obtain ⟨y3, e3, f3⟩ := hf 3 _ c3 rfl (by kernel_rfl) rfl
  obtain ⟨z0, z1, z2, z3, rfl⟩ := four_of (hxl.trans (by kernel_rfl))
  simp at e0 e1 e2 e3
  subst e0 e1 e2 e3
  obtain ⟨n0, h0, rfl, w0⟩ := DataW.trod_int Try.underlying3 f0
  obtain ⟨n1, h1, rfl, w1⟩ := DataW.trod_int Try.underlying3 f1
  obtain ⟨s2, h2, rfl, _⟩ := DataW.trod_string Try.underlying9 f2
  obtain ⟨s3, h3, rfl, _⟩ := DataW.trod_string Try.underlying9 f3
  cases h0; cases h1; cases h2; cases h3
  exact ⟨⟨n0, n1, s2, s3⟩, rfl, hx, bounds_i64 w0, bounds_i64 w1⟩

set_option maxRecDepth 100000 in
theorem lifted (os : Os) (started : os.Started) (H : Type) (enc : TypeId × Value → H) :
    ReturnsInHanded {} Try.checked os 9 .any (Rows.storeListsSpec.pre6 enc Try.prog Try.f9 Rows.storeListsRow.domain false) (Rows.storeListsSpec.post enc Try.prog Try.f9 false true false false) := by
  refine returnsInHanded_of_change_sized (C := Try.checked) own started (by kernel_rfl) Try.func9
    (ChangeSpec.witness6 (enc := enc) (C := Try.checked) false ⟨#[], #[.slice none 0 0, .slice none 0 0], []⟩ 8 (by kernel_rfl) (by kernel_rfl) (by kernel_rfl) (by kernel_rfl)) ?_
  intro W base args ds gs before hval0 hW hcnd hsz0 _
  have hsz : (DataW.weightsEach Try.prog (Try.f9.params.toList ++ Rows.storeListsSpec.plain.varTypes Try.prog) (ds ++ gs)).all (· ≤ reachBytes) = true := hsz0
  have hval : ∀ (j : Nat) t v, Try.f9.params[j]? = some t → args[j]? = some v → Value.okWide Try.prog W .any base t v := hval0
  have hW' := hW
  obtain ⟨p, q, hA0, hV, rfl, hfz, hnd⟩ := hW
  have hA : DataW.TrodAll enc Try.prog W 0 (fun _ => true) true Try.f9.params.toList args.toList ds p := hA0
  rw [Try.params9] at hA hval hsz
  obtain ⟨v0, vs0, d0, ds0, p0, q0, hargs, rfl, rfl, h0, r0⟩ := trodAll_cons hA
  obtain ⟨v1, vs1, d1, ds1, p1, q1, rfl, rfl, rfl, h1, r1⟩ := trodAll_cons r0
  obtain ⟨rfl, rfl, rfl⟩ := trodAll_nil r1
  obtain rfl : args = #[v0, v1] := by cases args; simp_all
  obtain ⟨rfl, rfl⟩ := trodVars_none hV
  have k0 := h0
  have lt0 : ∀ x ∈ p0, x.block < W.heap.size := by obtain ⟨m, hm⟩ := k0; exact DataW.trod_lt m _ _ _ hm
  have k1 := h1
  have lt1 : ∀ x ∈ p1, x.block < W.heap.size := by obtain ⟨m, hm⟩ := k1; exact DataW.trod_lt m _ _ _ hm
  obtain ⟨a0, len0, cap0, rfl⟩ := okWide_slice Try.underlying22 (hval 0 22 v0 rfl rfl)
  obtain ⟨l0, hl0, hrows0, hwf0, hd0⟩ := open_rows (size := 4) (f := actV) (g := actD) (by decide) Try.underlying22 (by kernel_rfl) (fun _ => rfl) (fun n cs d p h => act_elem h) h0
  have hw0 : ∀ a ∈ l0, a.wf := fun a ha => by
    have hb := hwf0 a ha
    have he : ∃ sp, d0 = .slice (l0.map actD) sp := hd0.resolve_left fun e => by rw [e.2] at ha; cases ha
    obtain ⟨sp, rfl⟩ := he
    have hsz' : ∀ n ∈ (actD (H := H) a).weights Try.prog 30, n ≤ 140737488351232 := fun n hn => sized_elem hsz (j := 0) rfl rfl Try.underlying22 (List.mem_map.2 ⟨a, ha, rfl⟩) hn
    refine ⟨hb.1, hb.2, ?_, ?_⟩
    · have := hsz' a.key.data.toList.length (by simp [actD, DataW.weights, DataW.weightsEach, Try.underlying30])
      rw [Array.length_toList] at this; exact this
    · have := hsz' a.blob.data.toList.length (by simp [actD, DataW.weights, DataW.weightsEach, Try.underlying30])
      rw [Array.length_toList] at this; exact this
  obtain ⟨a1, len1, cap1, rfl⟩ := okWide_slice Try.underlying22 (hval 1 22 v1 rfl rfl)
  obtain ⟨l1, hl1, hrows1, hwf1, hd1⟩ := open_rows (size := 4) (f := actV) (g := actD) (by decide) Try.underlying22 (by kernel_rfl) (fun _ => rfl) (fun n cs d p h => act_elem h) h1
  have hw1 : ∀ a ∈ l1, a.wf := fun a ha => by
    have hb := hwf1 a ha
    have he : ∃ sp, d1 = .slice (l1.map actD) sp := hd1.resolve_left fun e => by rw [e.2] at ha; cases ha
    obtain ⟨sp, rfl⟩ := he
    have hsz' : ∀ n ∈ (actD (H := H) a).weights Try.prog 30, n ≤ 140737488351232 := fun n hn => sized_elem hsz (j := 1) rfl rfl Try.underlying22 (List.mem_map.2 ⟨a, ha, rfl⟩) hn
    refine ⟨hb.1, hb.2, ?_, ?_⟩
    · have := hsz' a.key.data.toList.length (by simp [actD, DataW.weights, DataW.weightsEach, Try.underlying30])
      rw [Array.length_toList] at this; exact this
    · have := hsz' a.blob.data.toList.length (by simp [actD, DataW.weights, DataW.weightsEach, Try.underlying30])
      rw [Array.length_toList] at this; exact this
  clear hA0 hval0 hsz0 hsz
  refine (slists_calls W _ l0 _ l1 hrows0 hw0 hrows1 hw1).mono fun e W' ⟨he, bel⟩ => ?_
  subst he
  exact ⟨_, rfl, _, _, _, [], _, [], hW', trodAll_mk1 (shut_bool Try.underlying4 _), (trodAll_cons_mk (Below.trod laidOut (by kernel_rfl) (of_decide_eq_true (by kernel_rfl)) k0 bel lt0) (trodAll_cons_mk (Below.trod laidOut (by kernel_rfl) (of_decide_eq_true (by kernel_rfl)) k1 bel lt1) trodAll_mk0)), rfl, bel.frame _, fun h => by cases h⟩

theorem over : Rows.storeListsRow.holds Try.pinned (OpenSpec.ofChange Rows.storeListsSpec) :=
  OpenClaim.holds_of_wide 9 Try.f9 rfl rfl rfl rfl rfl rfl rfl ⟨rfl, rfl, rfl, rfl, rfl⟩ rfl rfl rfl rfl rfl (by kernel_rfl) Try.func9 (by kernel_rfl)
    (of_decide_eq_true (by kernel_rfl)) (by unfold Func.isWrapper; first | (rw [if_pos (by decide +kernel)]; kernel_rfl) | (rw [if_neg (by decide +kernel)]; exact ⟨rfl, rfl⟩))
    (fun os started H enc _ => lifted os started H enc)
theorem proved : Rows.StoreListsSaid := over
#print axioms proved
end Go.Proofs.Ytcalfjakgidhfaa.storeLists
namespace Go.Proofs.Ytcalfjakgidhfaa
theorem storeLists_holds : Rows.StoreListsSaid := storeLists.proved
end Go.Proofs.Ytcalfjakgidhfaa
