/- AuditLives. No condition but that of the given card: the two tables of unicode/utf8 that the row lists read as the program's text lays them. -/
import Derived.Test.YtgacfkenndhcnaaDoorTie
import Derived.Test.YtgacfkenndhcnaaDoorCards
import Derived.Test.YtgacfkenndhcnaaDoorZL9
import Derived.Test.YtgacfkenndhcnaaDoorZFAuditLives
import Derived.ProofKit
import Derived.OpenShut
import Derived.LaidMore
import Derived.Lay
import Derived.SevenTiedAt
import Derived.Stop.Joined
import Derived.Lib.SmallJoins
import Derived.Lib.LaidIn
import Derived.Lib.LaidU8T
namespace Go.Proofs.YtgacfkenndhcnaaDoor.auditLives
open Go.ChangeShapes Go.WideShapes Go.ChangeAt Go.RowKit
open Go.ChangeMaps (open_string shut_string)
set_option linter.unusedVariables false
set_option linter.unusedSimpArgs false

theorem own : ownKnob Tryd.prog.godebug = none := by kernel_rfl
theorem bounds_i64 {n : Int} (h : (Lit.int .i64 n).wf = true) : -9223372036854775808 ≤ n ∧ n ≤ 9223372036854775807 := by
  simp [Lit.wf, IntKind.min, IntKind.max, IntKind.bits, IntKind.signed] at h; omega
theorem bounds_u64 {n : Int} (h : (Lit.int .u64 n).wf = true) : 0 ≤ n ∧ n < 18446744073709551616 := by
  simp [Lit.wf, IntKind.min, IntKind.max, IntKind.bits, IntKind.signed] at h; omega
theorem laidOut : laidOutB Tryd.prog = true := k2
theorem tabs {W : World} (h : laidMetH Tryd.prog Rows.auditLivesRow.laid W) : Tabs W := by
  rw [MakeChecks.laidMetH_plain _ _ _ (by kernel_rfl)] at h
  have e1 : (Rows.laid_unicode_utf8_acceptRanges : DataW Unit) = Lib.acceptData := by kernel_rfl
  have e2 : (Rows.laid_unicode_utf8_first : DataW Unit) = Lib.firstData := by kernel_rfl
  have h1 := Lib.laidMet.reads h (.head _)
  have h2 := Lib.laidMet.reads h (.tail _ (.head _))
  rw [e1] at h1
  rw [e2] at h2
  exact utf8Tabs_of_readsT (U8Types.of196 Tryd.laysValid) ⟨by kernel_rfl, by kernel_rfl, by kernel_rfl, by kernel_rfl, by kernel_rfl, by kernel_rfl, by kernel_rfl⟩ h2 h1

set_option maxRecDepth 100000 in
theorem lifted (os : Os) (started : os.Started) (H : Type) (enc : TypeId × Value → H) :
    ReturnsInHanded {} Tryd.checked os 3 .any (fun w args => (Rows.auditLivesSpec.pre enc Tryd.prog Tryd.f3 Rows.auditLivesRow.domain false w args ∧ laidMetH Tryd.prog Rows.auditLivesRow.laid w) ∧ sizedMet enc Tryd.prog Tryd.f3 (OpenSpec.ofChange Rows.auditLivesSpec) false w args)
      (Rows.auditLivesSpec.post enc Tryd.prog Tryd.f3 false true false false) := by
  refine returnsInHanded_of_change_and (C := Tryd.checked) (X := fun w _ => laidMetH Tryd.prog Rows.auditLivesRow.laid w) (fun _ _ _ hh h => h.of_heap hh) own started (by kernel_rfl) Tryd.func3
    (ChangeSpec.witness_shaped (enc := enc) (C := Tryd.checked) (os := os) (X := fun w _ => laidMetH Tryd.prog Rows.auditLivesRow.laid w) false (World.laidAll Tryd.prog os Rows.auditLivesRow.laid) #[.slice none 0 0, .string ⟨#[]⟩, .string ⟨#[]⟩] 8 (World.laidAll_os _ _ _)
      (World.shaped_of_ZipB (by kernel_rfl) (by kernel_rfl)) (by kernel_rfl) (by kernel_rfl) (by kernel_rfl)
      (by rw [MakeChecks.laidMetH_plain _ _ _ (by kernel_rfl)]; exact laidMet_laidAll _ (by kernel_rfl) (by kernel_rfl))) ?_
  intro W base args ds gs before hval0 hW hc hsz0 hL _
  have hsz : (DataW.weightsEach Tryd.prog (Tryd.f3.params.toList ++ Rows.auditLivesSpec.plain.varTypes Tryd.prog) (ds ++ gs)).all (· ≤ reachBytes) = true := hsz0
  have hT := tabs hL
  have hval : ∀ (j : Nat) t v, Tryd.f3.params[j]? = some t → args[j]? = some v → Value.okWide Tryd.prog W .any base t v := hval0
  have hW' := hW
  obtain ⟨p, q, hA0, hV, rfl, _, _⟩ := hW
  have hA : DataW.TrodAll enc Tryd.prog W 0 (fun _ => true) true Tryd.f3.params.toList args.toList ds p := hA0
  rw [Tryd.params3] at hA hval hsz
  obtain ⟨v0, vs0, d0, ds0, p0, q0, hargs, rfl, rfl, h0, r0⟩ := trodAll_cons hA
  obtain ⟨v1, vs1, d1, ds1, p1, q1, rfl, rfl, rfl, h1, r1⟩ := trodAll_cons r0
  obtain ⟨v2, vs2, d2, ds2, p2, q2, rfl, rfl, rfl, h2, r2⟩ := trodAll_cons r1
  obtain ⟨rfl, rfl, rfl⟩ := trodAll_nil r2
  obtain rfl : args = #[v0, v1, v2] := by cases args; simp_all
  obtain ⟨rfl, rfl⟩ := trodVars_none hV
  have k0 := h0
  have lt0 : ∀ x ∈ p0, x.block < W.heap.size := by obtain ⟨m, hm⟩ := k0; exact DataW.trod_lt m _ _ _ hm
  obtain ⟨a0, len0, cap0, rfl⟩ := okWide_slice Tryd.underlying22 (hval 0 22 v0 rfl rfl)
  obtain ⟨l0, hl0, hrows0, hw0, hd0⟩ := open_rows (size := 23) (f := fun a : StA × DataW H => stepC a.1) (g := stepD) (Wf := fun a => a.1.vn.oneCell' = true) (by decide) Tryd.underlying22 (by kernel_rfl) (fun _ => rfl) (fun n cs d p h => step_elem h) h0
  have hs0 : ∀ s ∈ l0.map (·.1), sizesOk s ∧ s.vn.oneCell' = true := fun s hs => by
    obtain ⟨a, ha, rfl⟩ := List.mem_map.1 hs
    refine ⟨?_, hw0 a ha⟩
    have he : ∃ sp, d0 = .slice (l0.map stepD) sp := hd0.resolve_left fun e => by rw [e.2] at ha; cases ha
    obtain ⟨sp, rfl⟩ := he
    have hsz' : ∀ n ∈ (stepD (H := H) a).weights Tryd.prog 37, n ≤ 140737488351232 := fun n hn => sized_elem hsz (j := 0) rfl rfl Tryd.underlying22 (List.mem_map.2 ⟨a, ha, rfl⟩) hn
    have hz : ∀ s : ByteArray, s.data.toList.length ∈ (stepD (H := H) a).weights Tryd.prog 37 → s.size ≤ 140737488355328 := fun s hs => by
      have := hsz' _ hs
      rw [Array.length_toList] at this
      exact Nat.le_trans this (by decide)
    refine ⟨hz _ ?_, hz _ ?_, hz _ ?_, hz _ ?_, hz _ ?_, hz _ ?_⟩ <;> simp [stepD, cmdD, resD, chD, DataW.weights, DataW.weightsEach, Tryd.underlying37, Tryd.underlying31, Tryd.underlying35]
  obtain ⟨s1, rfl, rfl, rfl, w1⟩ := open_string Tryd.underlying9 (hval 1 9 v1 rfl rfl) h1
  have b1 : s1.size ≤ 140737488355328 := by
    have := sized_arg hsz (j := 1) rfl rfl (n := s1.data.toList.length) (by simp [DataW.weights])
    rw [Array.length_toList] at this; exact Nat.le_trans this (by decide)
  obtain ⟨s2, rfl, rfl, rfl, w2⟩ := open_string Tryd.underlying9 (hval 2 9 v2 rfl rfl) h2
  have b2 : s2.size ≤ 140737488355328 := by
    have := sized_arg hsz (j := 2) rfl rfl (n := s2.data.toList.length) (by simp [DataW.weights])
    rw [Array.length_toList] at this; exact Nat.le_trans this (by decide)
  clear hA0 hval0 hsz0 hsz
  simp only [List.append_nil] at hW'
  refine (auditLives_calls W _ (l0.map (·.1)) s1 s2 (rows_map hrows0) hs0 b1 b2 hT).mono fun e W' ⟨he, bel⟩ => ?_
  subst he
  exact ⟨_, rfl, _, _, _, [], _, [], hW', trodAll_mk1 (shut_bool Tryd.underlying4 _), (trodAll_cons_mk (Below.trod laidOut (by kernel_rfl) (of_decide_eq_true (by kernel_rfl)) k0 bel lt0) (trodAll_cons_mk (shut_string Tryd.underlying9 w1) (trodAll_cons_mk (shut_string Tryd.underlying9 w2) trodAll_mk0))), rfl, bel.frame _, fun h => by cases h⟩

theorem over : Rows.AuditLivesSaid :=
  OpenClaim.holds_of_wide 3 Tryd.f3 rfl rfl rfl rfl rfl rfl rfl ⟨rfl, rfl, rfl, rfl, rfl⟩ rfl rfl rfl rfl rfl named Tryd.func3 closed
    instances (by unfold Func.isWrapper; first | (rw [if_pos (by decide +kernel)]; kernel_rfl) | (rw [if_neg (by decide +kernel)]; exact ⟨rfl, rfl⟩))
    (fun os started H enc _ => lifted os started H enc)
theorem proved : Rows.AuditLivesCardSaid :=
  Claim7.holds_tied_plain_at .later [] [.data, .pinned] true (true, "77d45c508eba58b8c16f41f39f4856e8757a44169e251e661c67cbe1c1ba3a12") false over (fun _ h => by cases h) wfText (fun _ h => by cases h) auditLives_row_tie rfl ⟨rfl, rfl⟩ main rfl
    (fun f fn hf hfn => by
      obtain rfl : f = 3 := Option.some.inj (named.symm.trans hf) |>.symm
      obtain rfl : fn = Tryd.f3 := (Option.some.inj (Tryd.func3.symm.trans hfn)).symm
      exact ⟨looks, fun j t ht => by
        rw [Tryd.params3] at ht
        have hm : t ∈ [22, 9, 9] := by simpa using Array.mem_of_getElem? ht
        have hall : ([22, 9, 9].all fun u => !Tryd.prog.wantsStandIn u) = true := by kernel_rfl
        exact (show Tryd.prog.wantsStandIn t = false by simpa using List.all_eq_true.1 hall t hm)⟩)
    goes
#print axioms proved
end Go.Proofs.YtgacfkenndhcnaaDoor.auditLives
namespace Go.Proofs.YtgacfkenndhcnaaDoor
theorem auditLives_holds : Rows.AuditLivesCardSaid := auditLives.proved
end Go.Proofs.YtgacfkenndhcnaaDoor
