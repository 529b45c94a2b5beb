/- OdeIsotonicity: the tied card: for every input the law returns true and its arguments read afterwards as before. The package variables start as the program's text lays them. -/
import Derived.Test.YthcidkidpiaomaaGreatDoorKf26
import Derived.Test.YthcidkidpiaomaaGreatDoorKi01
import Derived.Test.YthcidkidpiaomaaGreatDoorKi02
import Derived.Test.YthcidkidpiaomaaGreatDoorKi03
import Derived.Test.YthcidkidpiaomaaGreatDoorRows
import Derived.Test.YthcidkidpiaomaaGreatDoorCards
import Derived.Test.YthcidkidpiaomaaGreatDoorTie
import Derived.ProofKit
import Derived.OpenShut
import Derived.ShutString
import Derived.Lay
import Derived.LaidOnce
import Derived.SevenTiedAt
namespace Go.Proofs.YthcidkidpiaomaaGreatDoor.odeIsotonicity
open Go.ChangeShapes Go.WideShapes Go.ChangeAt Go.RowKit
open Go.ChangeMaps (open_string shut_string)
set_option linter.unusedVariables false

theorem own : ownKnob Tryz.prog.godebug = none := by kernel_rfl
set_option maxRecDepth 100000 in
theorem lifted (os : Os) (started : os.Started) (H : Type) (enc : TypeId × Value → H) :
    ReturnsInHanded {} Tryz.checked os 8 .any (fun w args => (Rows.odeIsotonicitySpec.pre enc Tryz.prog Tryz.f8 [] false w args ∧ laidMetH Tryz.prog Rows.odeIsotonicityRow.laid w) ∧ sizedMet enc Tryz.prog Tryz.f8 (OpenSpec.ofChange Rows.odeIsotonicitySpec) false w args)
      (Rows.odeIsotonicitySpec.post enc Tryz.prog Tryz.f8 false true false false) := by
  refine returnsInHanded_of_change_and (C := Tryz.checked) (X := fun w _ => laidMetH Tryz.prog Rows.odeIsotonicityRow.laid w) (fun _ _ _ hh h => h.of_heap hh) own started (by kernel_rfl) Tryz.func8
    (ChangeSpec.witness_shaped (enc := enc) (C := Tryz.checked) (os := os) (X := fun w _ => laidMetH Tryz.prog Rows.odeIsotonicityRow.laid w) false (Od.start os) #[.agg #[.slice none 0 0, .slice none 0 0, .slice none 0 0, .int .i64 0, .int .i64 0, .int .u8 0], .agg #[.slice none 0 0, .slice none 0 0, .slice none 0 0, .int .i64 0, .int .i64 0, .int .u8 0], .slice none 0 0] 8 (Od.start_os os)
      (Od.start_shaped os) (by kernel_rfl) (by kernel_rfl) (by kernel_rfl)
      (Od.start_met os _)) ?_
  intro W base args ds gs before hval0 hW _ _ hL hsz
  have hval : ∀ (j : Nat) t v, Tryz.f8.params[j]? = some t → args[j]? = some v → Value.okWide Tryz.prog W .any base t v := hval0
  have hW' := hW
  obtain ⟨p, q, hA0, hV, rfl, hfz, hnd⟩ := hW
  have hA : DataW.TrodAll enc Tryz.prog W 0 (fun _ => true) true Tryz.f8.params.toList args.toList ds p := hA0
  rw [Tryz.params8] at hA hval
  obtain ⟨v0, vs0, d0, ds0, p0, q0, hargs, rfl, rfl, h0, r0⟩ := trodAll_cons hA
  obtain ⟨v1, vs1, d1, ds1, p1, q1, rfl, rfl, rfl, h1, r1⟩ := trodAll_cons r0
  obtain ⟨v2, vs2, d2, ds2, p2, q2, rfl, rfl, rfl, h2, r2⟩ := trodAll_cons r1
  obtain ⟨rfl, rfl, rfl⟩ := trodAll_nil r2
  obtain rfl : args = #[v0, v1, v2] := by cases args; simp_all
  obtain ⟨rfl, rfl⟩ := trodVars_none hV
  obtain ⟨vf0, ve0, vx0, a0, b0, k0, fs0, e0, xs0, rfl, RF0, RN0, RI0, wa0, wb0, wk0⟩ := Od.open_input (hval 0 31 v0 rfl rfl) h0
  obtain ⟨vf1, ve1, vx1, a1, b1, k1, fs1, e1, xs1, rfl, RF1, RN1, RI1, wa1, wb1, wk1⟩ := Od.open_input (hval 1 31 v1 rfl rfl) h1
  obtain ⟨e2, R2⟩ := Od.open_u16s (hval 2 61 v2 rfl rfl) h2
  clear hA0 hval0
  simp only [List.append_nil] at hW'
  refine (Od.OdeIsotonicity_walk vf0 ve0 vx0 a0 b0 k0 fs0 e0 xs0 vf1 ve1 vx1 a1 b1 k1 fs1 e1 xs1 v2 e2 W RF0 RN0 RI0 wa0 wb0 wk0 RF1 RN1 RI1 wa1 wb1 wk1 R2 (Od.lb_of_laid hL)).mono fun e W' ⟨he, hb⟩ => ?_
  subst he
  exact ⟨_, rfl, _, _, _, [], _, [], hW', trodAll_mk1 (shut_bool Tryz.underlying4 _), (trodAll_cons_mk (Od.kept (by kernel_rfl) (of_decide_eq_true (by kernel_rfl)) h0 hb) (trodAll_cons_mk (Od.kept (by kernel_rfl) (of_decide_eq_true (by kernel_rfl)) h1 hb) (trodAll_cons_mk (Od.kept (by kernel_rfl) (of_decide_eq_true (by kernel_rfl)) h2 hb) trodAll_mk0))), rfl, hb.frame _, fun h => by cases h⟩

set_option maxRecDepth 100000 in
set_option maxHeartbeats 0 in
theorem facts : joinedFacts Tryz.pinned.checked.prog 8 Tryz.f8 Rows.odeIsotonicitySpec Rows.odeIsotonicityRow = true := by
  unfold joinedFacts
  repeat' (rw [Bool.and_eq_true]; refine ⟨?_, ?_⟩)
  all_goals as_aux_lemma => kernel_rfl
theorem over : Rows.odeIsotonicityRow.holds Tryz.pinned (OpenSpec.ofChange Rows.odeIsotonicitySpec) :=
  OpenClaim.holds_of_wide 8 Tryz.f8 rfl rfl rfl rfl rfl rfl rfl ⟨rfl, rfl, rfl, rfl, rfl⟩ rfl rfl rfl rfl rfl (by kernel_rfl) Tryz.func8 facts
    (of_decide_eq_true (by kernel_rfl)) (by unfold Func.isWrapper; first | (rw [if_pos (by decide +kernel)]; kernel_rfl) | (rw [if_neg (by decide +kernel)]; exact ⟨rfl, rfl⟩))
    (fun os started H enc _ => lifted os started H enc)

theorem proved : Rows.OdeIsotonicityCardSaid :=
  Claim7.holds_tied_plain_at .later [] Rows.odeIsotonicityCard.laidKinds true Rows.odeIsotonicityCard.stood.harness Rows.odeIsotonicityCard.stood.looks over (fun _ h => by cases h) (by as_aux_lemma => kernel_rfl) (fun _ h => by cases h) odeIsotonicity_row_tie rfl ⟨rfl, rfl⟩ (by as_aux_lemma => kernel_rfl) rfl
    (fun f fn hf hfn => by
      obtain rfl : f = 8 := Option.some.inj ((show Tryz.prog.funcNamed "armillary/armillarylaw07.OdeIsotonicity" = some 8 by as_aux_lemma => kernel_rfl).symm.trans hf) |>.symm
      obtain rfl : fn = Tryz.f8 := (Option.some.inj (Tryz.func8.symm.trans hfn)).symm
      exact ⟨by as_aux_lemma => kernel_rfl, fun j t ht => by
        rw [Tryz.params8] at ht
        have hm : t ∈ [31, 31, 61] := by simpa using Array.mem_of_getElem? ht
        have hall : ([31, 31, 61].all fun u => !Tryz.prog.wantsStandIn u) = true := by as_aux_lemma => kernel_rfl
        exact (show Tryz.prog.wantsStandIn t = false by simpa using List.all_eq_true.1 hall t hm)⟩)
    (by as_aux_lemma => kernel_rfl)
#print axioms proved
end Go.Proofs.YthcidkidpiaomaaGreatDoor.odeIsotonicity
