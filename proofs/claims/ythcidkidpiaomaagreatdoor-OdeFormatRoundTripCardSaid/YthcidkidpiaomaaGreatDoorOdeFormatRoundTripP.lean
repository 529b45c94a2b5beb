/- OdeFormatRoundTrip: the tied card: for every input the law returns true and its arguments read afterwards as before. The package variables start as the program's text lays them. -/
import Derived.Test.YthcidkidpiaomaaGreatDoorKf26
import Derived.Test.YthcidkidpiaomaaGreatDoorKg01
import Derived.Test.YthcidkidpiaomaaGreatDoorKg02
import Derived.Test.YthcidkidpiaomaaGreatDoorKg03
import Derived.Test.YthcidkidpiaomaaGreatDoorRows
import Derived.Test.YthcidkidpiaomaaGreatDoorCards
import Derived.Test.YthcidkidpiaomaaGreatDoorTie
import Derived.ProofKit
import Derived.OpenShut
import Derived.ShutString
import Derived.Lay
import Derived.LaidOnce
import Derived.SevenTiedAt
namespace Go.Proofs.YthcidkidpiaomaaGreatDoor.odeFormatRoundTrip
open Go.ChangeShapes Go.WideShapes Go.ChangeAt Go.RowKit
open Go.ChangeMaps (open_string shut_string)
set_option linter.unusedVariables false

theorem own : ownKnob Tryz.prog.godebug = none := by kernel_rfl
set_option maxRecDepth 100000 in
theorem lifted (os : Os) (started : os.Started) (H : Type) (enc : TypeId × Value → H) :
    ReturnsInHanded {} Tryz.checked os 5 .any (fun w args => (Rows.odeFormatRoundTripSpec.pre enc Tryz.prog Tryz.f5 [] false w args ∧ laidMetH Tryz.prog Rows.odeFormatRoundTripRow.laid w) ∧ sizedMet enc Tryz.prog Tryz.f5 (OpenSpec.ofChange Rows.odeFormatRoundTripSpec) false w args)
      (Rows.odeFormatRoundTripSpec.post enc Tryz.prog Tryz.f5 false true false false) := by
  refine returnsInHanded_of_change_and (C := Tryz.checked) (X := fun w _ => laidMetH Tryz.prog Rows.odeFormatRoundTripRow.laid w) (fun _ _ _ hh h => h.of_heap hh) own started (by kernel_rfl) Tryz.func5
    (ChangeSpec.witness_shaped (enc := enc) (C := Tryz.checked) (os := os) (X := fun w _ => laidMetH Tryz.prog Rows.odeFormatRoundTripRow.laid w) false (Od.start os) #[.agg #[.slice none 0 0, .slice none 0 0, .slice none 0 0, .int .i64 0, .int .i64 0, .int .u8 0]] 8 (Od.start_os os)
      (Od.start_shaped os) (by kernel_rfl) (by kernel_rfl) (by kernel_rfl)
      (Od.start_met os _)) ?_
  intro W base args ds gs before hval0 hW _ _ hL hsz
  have hval : ∀ (j : Nat) t v, Tryz.f5.params[j]? = some t → args[j]? = some v → Value.okWide Tryz.prog W .any base t v := hval0
  have hW' := hW
  obtain ⟨p, q, hA0, hV, rfl, hfz, hnd⟩ := hW
  have hA : DataW.TrodAll enc Tryz.prog W 0 (fun _ => true) true Tryz.f5.params.toList args.toList ds p := hA0
  rw [Tryz.params5] at hA hval
  obtain ⟨v0, vs0, d0, ds0, p0, q0, hargs, rfl, rfl, h0, r0⟩ := trodAll_cons hA
  obtain ⟨rfl, rfl, rfl⟩ := trodAll_nil r0
  obtain rfl : args = #[v0] := by cases args; simp_all
  obtain ⟨rfl, rfl⟩ := trodVars_none hV
  obtain ⟨vf0, ve0, vx0, a0, b0, k0, fs0, e0, xs0, rfl, RF0, RN0, RI0, wa0, wb0, wk0⟩ := Od.open_input (hval 0 31 v0 rfl rfl) h0
  clear hA0 hval0
  simp only [List.append_nil] at hW'
  refine (Od.OdeFormatRoundTrip_walk vf0 ve0 vx0 a0 b0 k0 fs0 e0 xs0 W RF0 RN0 RI0 wa0 wb0 wk0 (Od.lb_of_laid hL)).mono fun e W' ⟨he, hb⟩ => ?_
  subst he
  exact ⟨_, rfl, _, _, _, [], _, [], hW', trodAll_mk1 (shut_bool Tryz.underlying4 _), (trodAll_cons_mk (Od.kept (by kernel_rfl) (of_decide_eq_true (by kernel_rfl)) h0 hb) trodAll_mk0), rfl, hb.frame _, fun h => by cases h⟩

set_option maxRecDepth 100000 in
set_option maxHeartbeats 0 in
theorem facts : joinedFacts Tryz.pinned.checked.prog 5 Tryz.f5 Rows.odeFormatRoundTripSpec Rows.odeFormatRoundTripRow = true := by
  unfold joinedFacts
  repeat' (rw [Bool.and_eq_true]; refine ⟨?_, ?_⟩)
  all_goals as_aux_lemma => kernel_rfl
theorem over : Rows.odeFormatRoundTripRow.holds Tryz.pinned (OpenSpec.ofChange Rows.odeFormatRoundTripSpec) :=
  OpenClaim.holds_of_wide 5 Tryz.f5 rfl rfl rfl rfl rfl rfl rfl ⟨rfl, rfl, rfl, rfl, rfl⟩ rfl rfl rfl rfl rfl (by kernel_rfl) Tryz.func5 facts
    (of_decide_eq_true (by kernel_rfl)) (by unfold Func.isWrapper; first | (rw [if_pos (by decide +kernel)]; kernel_rfl) | (rw [if_neg (by decide +kernel)]; exact ⟨rfl, rfl⟩))
    (fun os started H enc _ => lifted os started H enc)

theorem proved : Rows.OdeFormatRoundTripCardSaid :=
  Claim7.holds_tied_plain_at .later [] Rows.odeFormatRoundTripCard.laidKinds true Rows.odeFormatRoundTripCard.stood.harness Rows.odeFormatRoundTripCard.stood.looks over (fun _ h => by cases h) (by as_aux_lemma => kernel_rfl) (fun _ h => by cases h) odeFormatRoundTrip_row_tie rfl ⟨rfl, rfl⟩ (by as_aux_lemma => kernel_rfl) rfl
    (fun f fn hf hfn => by
      obtain rfl : f = 5 := Option.some.inj ((show Tryz.prog.funcNamed "armillary/armillarylaw07.OdeFormatRoundTrip" = some 5 by as_aux_lemma => kernel_rfl).symm.trans hf) |>.symm
      obtain rfl : fn = Tryz.f5 := (Option.some.inj (Tryz.func5.symm.trans hfn)).symm
      exact ⟨by as_aux_lemma => kernel_rfl, fun j t ht => by
        rw [Tryz.params5] at ht
        have hm : t ∈ [31] := by simpa using Array.mem_of_getElem? ht
        have hall : ([31].all fun u => !Tryz.prog.wantsStandIn u) = true := by as_aux_lemma => kernel_rfl
        exact (show Tryz.prog.wantsStandIn t = false by simpa using List.all_eq_true.1 hall t hm)⟩)
    (by as_aux_lemma => kernel_rfl)
#print axioms proved
end Go.Proofs.YthcidkidpiaomaaGreatDoor.odeFormatRoundTrip
