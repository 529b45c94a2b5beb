/- OdeConstants: the tied card: for every input the law returns true and its arguments read afterwards as before. The package variables start as the program's text lays them. -/
import Derived.Test.YthcidkidpiaomaaGreatDoorKc03
import Derived.Test.YthcidkidpiaomaaGreatDoorKb34
import Derived.Test.YthcidkidpiaomaaGreatDoorKc01
import Derived.Test.YthcidkidpiaomaaGreatDoorRows
import Derived.Test.YthcidkidpiaomaaGreatDoorCards
import Derived.Test.YthcidkidpiaomaaGreatDoorTie
import Derived.ProofKit
import Derived.OpenShut
import Derived.ShutString
import Derived.Lay
import Derived.LaidOnce
import Derived.SevenTiedAt
namespace Go.Proofs.YthcidkidpiaomaaGreatDoor.odeConstants
open Go.ChangeShapes Go.WideShapes Go.ChangeAt Go.RowKit
open Go.ChangeMaps (open_string shut_string)
set_option linter.unusedVariables false

theorem own : ownKnob Tryz.prog.godebug = none := by kernel_rfl
set_option maxRecDepth 100000 in
theorem lifted (os : Os) (started : os.Started) (H : Type) (enc : TypeId × Value → H) :
    ReturnsInHanded {} Tryz.checked os 11 .any (fun w args => (Rows.odeConstantsSpec.pre enc Tryz.prog Tryz.f11 [] false w args ∧ laidMetH Tryz.prog Rows.odeConstantsRow.laid w) ∧ sizedMet enc Tryz.prog Tryz.f11 (OpenSpec.ofChange Rows.odeConstantsSpec) false w args)
      (Rows.odeConstantsSpec.post enc Tryz.prog Tryz.f11 false true false false) := by
  refine returnsInHanded_of_change_and (C := Tryz.checked) (X := fun w _ => laidMetH Tryz.prog Rows.odeConstantsRow.laid w) (fun _ _ _ hh h => h.of_heap hh) own started (by kernel_rfl) Tryz.func11
    (ChangeSpec.witness_shaped (enc := enc) (C := Tryz.checked) (os := os) (X := fun w _ => laidMetH Tryz.prog Rows.odeConstantsRow.laid w) false (Od.start os) #[.int .u16 0, .int .u16 0, .agg #[.int .i64 0, .int .i64 0]] 8 (Od.start_os os)
      (Od.start_shaped os) (by kernel_rfl) (by kernel_rfl) (by kernel_rfl)
      (Od.start_met os _)) ?_
  intro W base args ds gs before hval0 hW _ _ hL hsz
  have hval : ∀ (j : Nat) t v, Tryz.f11.params[j]? = some t → args[j]? = some v → Value.okWide Tryz.prog W .any base t v := hval0
  have hW' := hW
  obtain ⟨p, q, hA0, hV, rfl, hfz, hnd⟩ := hW
  have hA : DataW.TrodAll enc Tryz.prog W 0 (fun _ => true) true Tryz.f11.params.toList args.toList ds p := hA0
  rw [Tryz.params11] at hA hval
  obtain ⟨v0, vs0, d0, ds0, p0, q0, hargs, rfl, rfl, h0, r0⟩ := trodAll_cons hA
  obtain ⟨v1, vs1, d1, ds1, p1, q1, rfl, rfl, rfl, h1, r1⟩ := trodAll_cons r0
  obtain ⟨v2, vs2, d2, ds2, p2, q2, rfl, rfl, rfl, h2, r2⟩ := trodAll_cons r1
  obtain ⟨rfl, rfl, rfl⟩ := trodAll_nil r2
  obtain rfl : args = #[v0, v1, v2] := by cases args; simp_all
  obtain ⟨rfl, rfl⟩ := trodVars_none hV
  obtain ⟨a0, rfl, rfl, rfl, w0⟩ := open_int Tryz.underlying73 (hval 0 73 v0 rfl rfl) h0
  obtain ⟨a1, rfl, rfl, rfl, w1⟩ := open_int Tryz.underlying73 (hval 1 73 v1 rfl rfl) h1
  obtain ⟨a2, b2, rfl, wa2, wb2⟩ := Od.open_iv (hval 2 29 v2 rfl rfl) h2
  clear hA0 hval0
  simp only [List.append_nil] at hW'
  refine (Od.OdeConstants_walk a0 a1 a2 b2 W w0 w1 wa2 wb2 (Od.lb_of_laid hL)).mono fun e W' ⟨he, hb⟩ => ?_
  subst he
  exact ⟨_, rfl, _, _, _, [], _, [], hW', trodAll_mk1 (shut_bool Tryz.underlying4 _), (trodAll_cons_mk (shut_int Tryz.underlying73 w0) (trodAll_cons_mk (shut_int Tryz.underlying73 w1) (trodAll_cons_mk (Od.kept (by kernel_rfl) (of_decide_eq_true (by kernel_rfl)) h2 hb) trodAll_mk0))), rfl, hb.frame _, fun h => by cases h⟩

set_option maxRecDepth 100000 in
set_option maxHeartbeats 0 in
theorem facts : joinedFacts Tryz.pinned.checked.prog 11 Tryz.f11 Rows.odeConstantsSpec Rows.odeConstantsRow = true := by
  unfold joinedFacts
  repeat' (rw [Bool.and_eq_true]; refine ⟨?_, ?_⟩)
  all_goals as_aux_lemma => kernel_rfl
theorem over : Rows.odeConstantsRow.holds Tryz.pinned (OpenSpec.ofChange Rows.odeConstantsSpec) :=
  OpenClaim.holds_of_wide 11 Tryz.f11 rfl rfl rfl rfl rfl rfl rfl ⟨rfl, rfl, rfl, rfl, rfl⟩ rfl rfl rfl rfl rfl (by kernel_rfl) Tryz.func11 facts
    (of_decide_eq_true (by kernel_rfl)) (by unfold Func.isWrapper; first | (rw [if_pos (by decide +kernel)]; kernel_rfl) | (rw [if_neg (by decide +kernel)]; exact ⟨rfl, rfl⟩))
    (fun os started H enc _ => lifted os started H enc)

theorem proved : Rows.OdeConstantsCardSaid :=
  Claim7.holds_tied_plain_at .later [] Rows.odeConstantsCard.laidKinds true Rows.odeConstantsCard.stood.harness Rows.odeConstantsCard.stood.looks over (fun _ h => by cases h) (by kernel_rfl) (fun _ h => by cases h) odeConstants_row_tie rfl ⟨rfl, rfl⟩ (by kernel_rfl) rfl
    (fun f fn hf hfn => by
      obtain rfl : f = 11 := Option.some.inj ((show Tryz.prog.funcNamed "armillary/armillarylaw07.OdeConstants" = some 11 by kernel_rfl).symm.trans hf) |>.symm
      obtain rfl : fn = Tryz.f11 := (Option.some.inj (Tryz.func11.symm.trans hfn)).symm
      exact ⟨by kernel_rfl, fun j t ht => by
        rw [Tryz.params11] at ht
        have hm : t ∈ [73, 73, 29] := by simpa using Array.mem_of_getElem? ht
        have hall : ([73, 73, 29].all fun u => !Tryz.prog.wantsStandIn u) = true := by kernel_rfl
        exact (show Tryz.prog.wantsStandIn t = false by simpa using List.all_eq_true.1 hall t hm)⟩)
    (by kernel_rfl)
#print axioms proved
end Go.Proofs.YthcidkidpiaomaaGreatDoor.odeConstants
