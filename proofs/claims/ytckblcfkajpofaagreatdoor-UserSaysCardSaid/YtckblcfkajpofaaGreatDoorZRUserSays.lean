/- UserSays. No condition but that of the given card: the two tables of unicode/utf8 that the row lists read as the program's text lays them. -/
import Derived.Test.YtckblcfkajpofaaGreatDoorTie
import Derived.Test.YtckblcfkajpofaaGreatDoorCards
import Derived.Test.YtckblcfkajpofaaGreatDoorZUz
import Derived.Test.YtckblcfkajpofaaGreatDoorZFUserSays
import Derived.ProofKit
import Derived.OpenShut
import Derived.LaidMore
import Derived.Lay
import Derived.SevenTiedAt
import Derived.Stop.Joined
import Derived.Lib.SmallJoins
import Derived.Lib.LaidIn
import Derived.Lib.LaidU8T
import Derived.Test.YtckblcfkajpofaaGreatDoorZBOpen
namespace Go.Proofs.YtckblcfkajpofaaGreatDoor.userSays
open Go.ChangeShapes Go.WideShapes Go.ChangeAt Go.RowKit
open Go.ChangeMaps (open_string shut_string)
set_option linter.unusedVariables false
set_option linter.unusedSimpArgs false

theorem own : ownKnob Tryz.prog.godebug = none := by kernel_rfl
theorem bounds_i64 {n : Int} (h : (Lit.int .i64 n).wf = true) : -9223372036854775808 ≤ n ∧ n ≤ 9223372036854775807 := by
  simp [Lit.wf, IntKind.min, IntKind.max, IntKind.bits, IntKind.signed] at h; omega
theorem bounds_u64 {n : Int} (h : (Lit.int .u64 n).wf = true) : 0 ≤ n ∧ n < 18446744073709551616 := by
  simp [Lit.wf, IntKind.min, IntKind.max, IntKind.bits, IntKind.signed] at h; omega
theorem laidOut : laidOutB Tryz.prog = true := k2
def actD {H : Type} (a : ActU) : DataW H := .agg [.lit (.int .i64 a.op), .lit (.int .i64 a.file), .lit (.int .i64 a.who)]
theorem act_elem {H : Type} {enc : TypeId × Value → H} {w : World} {n : Nat} {cs : List Value} {d : DataW H} {p : List MemPlace} (h : DataW.trod enc Tryz.prog w 0 (fun _ => true) true n 109 cs = some (d, p)) :
    ∃ a : ActU, cs = actRow a ∧ d = actD a ∧ a.wf := by
  obtain ⟨xs, m, hx, hl, hxl, hf⟩ := trod_fields Tryz.underlying109 h
  obtain ⟨c0, c1, c2, rfl⟩ := three_of (hl.trans (by kernel_rfl))
  obtain ⟨y0, e0, f0⟩ := hf 0 _ c0 rfl (by kernel_rfl) rfl
  obtain ⟨y1, e1, f1⟩ := hf 1 _ c1 rfl (by kernel_rfl) rfl
  obtain ⟨y2, e2, f2⟩ := hf 2 _ c2 rfl (by kernel_rfl) rfl
  obtain ⟨z0, z1, z2, rfl⟩ := three_of (hxl.trans (by kernel_rfl))
  simp at e0 e1 e2
  subst e0 e1 e2
  obtain ⟨n0, h0, rfl, w0⟩ := DataW.trod_int Tryz.underlying3 f0
  obtain ⟨n1, h1, rfl, w1⟩ := DataW.trod_int Tryz.underlying3 f1
  obtain ⟨n2, h2, rfl, w2⟩ := DataW.trod_int Tryz.underlying3 f2
  cases h0; cases h1; cases h2
  exact ⟨⟨n0, n1, n2⟩, rfl, hx, (bounds_i64 w0).1, (bounds_i64 w0).2, (bounds_i64 w1).1, (bounds_i64 w1).2, (bounds_i64 w2).1, (bounds_i64 w2).2⟩
theorem tabs {W : World} (h : laidMetH Tryz.prog Rows.userSaysRow.laid W) : Tabs W := by
  rw [MakeChecks.laidMetH_plain _ _ _ (by kernel_rfl)] at h
  have e1 : (Rows.laid_unicode_utf8_acceptRanges : DataW Unit) = Lib.acceptData := by kernel_rfl
  have e2 : (Rows.laid_unicode_utf8_first : DataW Unit) = Lib.firstData := by kernel_rfl
  have h1 := Lib.laidMet.reads h (.head _)
  have h2 := Lib.laidMet.reads h (.tail _ (.head _))
  rw [e1] at h1
  rw [e2] at h2
  exact utf8Tabs_of_readsT (U8Types.of196 Tryz.laysValid) ⟨by kernel_rfl, by kernel_rfl, by kernel_rfl, by kernel_rfl, by kernel_rfl, by kernel_rfl, by kernel_rfl⟩ h2 h1

set_option maxRecDepth 100000 in
theorem lifted (os : Os) (started : os.Started) (H : Type) (enc : TypeId × Value → H) :
    ReturnsInHanded {} Tryz.checked os 16 .any (fun w args => (Rows.userSaysSpec.pre enc Tryz.prog Tryz.f16 Rows.userSaysRow.domain false w args ∧ laidMetH Tryz.prog Rows.userSaysRow.laid w) ∧ sizedMet enc Tryz.prog Tryz.f16 (OpenSpec.ofChange Rows.userSaysSpec) false w args)
      (Rows.userSaysSpec.post enc Tryz.prog Tryz.f16 false true false false) := by
  refine returnsInHanded_of_change_and (C := Tryz.checked) (X := fun w _ => laidMetH Tryz.prog Rows.userSaysRow.laid w) (fun _ _ _ hh h => h.of_heap hh) own started (by kernel_rfl) Tryz.func16
    (ChangeSpec.witness_shaped (enc := enc) (C := Tryz.checked) (os := os) (X := fun w _ => laidMetH Tryz.prog Rows.userSaysRow.laid w) false (World.laidAll Tryz.prog os Rows.userSaysRow.laid) #[.int .u64 0, .slice none 0 0, .int .i64 0] 8 (World.laidAll_os _ _ _)
      (World.shaped_of_ZipB (by kernel_rfl) (by kernel_rfl)) (by kernel_rfl) (by kernel_rfl) (by kernel_rfl)
      (by rw [MakeChecks.laidMetH_plain _ _ _ (by kernel_rfl)]; exact laidMet_laidAll _ (by kernel_rfl) (by kernel_rfl))) ?_
  intro W base args ds gs before hval0 hW hc _ hL _
  have hT := tabs hL
  have hval : ∀ (j : Nat) t v, Tryz.f16.params[j]? = some t → args[j]? = some v → Value.okWide Tryz.prog W .any base t v := hval0
  have hW' := hW
  obtain ⟨p, q, hA0, hV, rfl, _, _⟩ := hW
  have hA : DataW.TrodAll enc Tryz.prog W 0 (fun _ => true) true Tryz.f16.params.toList args.toList ds p := hA0
  rw [Tryz.params16] at hA hval
  obtain ⟨v0, vs0, d0, ds0, p0, q0, hargs, rfl, rfl, h0, r0⟩ := trodAll_cons hA
  obtain ⟨v1, vs1, d1, ds1, p1, q1, rfl, rfl, rfl, h1, r1⟩ := trodAll_cons r0
  obtain ⟨v2, vs2, d2, ds2, p2, q2, rfl, rfl, rfl, h2, r2⟩ := trodAll_cons r1
  obtain ⟨rfl, rfl, rfl⟩ := trodAll_nil r2
  obtain rfl : args = #[v0, v1, v2] := by cases args; simp_all
  obtain ⟨rfl, rfl⟩ := trodVars_none hV
  obtain ⟨n0, rfl, rfl, rfl, w0⟩ := open_int Tryz.underlying22 (hval 0 22 v0 rfl rfl) h0
  obtain ⟨m0, rfl⟩ := Int.eq_ofNat_of_zero_le (bounds_u64 w0).1
  have b0 : m0 < 18446744073709551616 := by have := (bounds_u64 w0).2; omega
  have k1 := h1
  have lt1 : ∀ x ∈ p1, x.block < W.heap.size := by obtain ⟨m, hm⟩ := k1; exact DataW.trod_lt m _ _ _ hm
  obtain ⟨a1, len1, cap1, rfl⟩ := okWide_slice Tryz.underlying106 (hval 1 106 v1 rfl rfl)
  obtain ⟨l1, hl1, hrows1, hw1, hd1⟩ := open_rows (size := 3) (f := actRow) (g := actD) (Wf := ActU.wf) (by decide) Tryz.underlying106 (by kernel_rfl) (fun _ => rfl) (fun n cs d p h => act_elem h) h1
  obtain ⟨n2, rfl, rfl, rfl, w2⟩ := open_int Tryz.underlying3 (hval 2 3 v2 rfl rfl) h2
  have b2 := bounds_i64 w2
  clear hA0 hval0
  simp only [List.append_nil] at hW'
  refine (userSays_calls W m0 _ l1 n2 b0 hrows1 hw1 b2.1 b2.2 hT).mono fun e W' ⟨he, bel⟩ => ?_
  subst he
  exact ⟨_, rfl, _, _, _, [], _, [], hW', trodAll_mk1 (shut_bool Tryz.underlying4 _), (trodAll_cons_mk (shut_int Tryz.underlying22 w0) (trodAll_cons_mk (Below.trod laidOut (by kernel_rfl) (of_decide_eq_true (by kernel_rfl)) k1 bel lt1) (trodAll_cons_mk (shut_int Tryz.underlying3 w2) trodAll_mk0))), rfl, bel.frame _, fun h => by cases h⟩

theorem over : Rows.UserSaysSaid :=
  OpenClaim.holds_of_wide 16 Tryz.f16 rfl rfl rfl rfl rfl rfl rfl ⟨rfl, rfl, rfl, rfl, rfl⟩ rfl rfl rfl rfl rfl named Tryz.func16 closed
    instances (by unfold Func.isWrapper; first | (rw [if_pos (by decide +kernel)]; kernel_rfl) | (rw [if_neg (by decide +kernel)]; exact ⟨rfl, rfl⟩))
    (fun os started H enc _ => lifted os started H enc)
theorem proved : Rows.UserSaysCardSaid :=
  Claim7.holds_tied_plain_at .later [] [.data, .pinned] true (true, "e9414ad5a2084fd5440ff1748876c9e8780747e27cf36968c8e2823baace9633") true over (fun _ h => by cases h) wfText (fun _ h => by cases h) userSays_row_tie rfl ⟨rfl, rfl⟩ main rfl
    (fun f fn hf hfn => by
      obtain rfl : f = 16 := Option.some.inj (named.symm.trans hf) |>.symm
      obtain rfl : fn = Tryz.f16 := (Option.some.inj (Tryz.func16.symm.trans hfn)).symm
      exact ⟨looks, fun j t ht => by
        rw [Tryz.params16] at ht
        have hm : t ∈ [22, 106, 3] := by simpa using Array.mem_of_getElem? ht
        have hall : ([22, 106, 3].all fun u => !Tryz.prog.wantsStandIn u) = true := by kernel_rfl
        exact (show Tryz.prog.wantsStandIn t = false by simpa using List.all_eq_true.1 hall t hm)⟩)
    goes
#print axioms proved
end Go.Proofs.YtckblcfkajpofaaGreatDoor.userSays
namespace Go.Proofs.YtckblcfkajpofaaGreatDoor
theorem userSays_holds : Rows.UserSaysCardSaid := userSays.proved
end Go.Proofs.YtckblcfkajpofaaGreatDoor
