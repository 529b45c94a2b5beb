/- CodecMatchesReference: the tied card: for every input the law returns true and its arguments read afterwards as before. The package variables start as the program's text lays them. -/
import Derived.Test.YteljhjljigbcjaaGreatDoorCodecMatchesReferenceW
import Derived.Test.YteljhjljigbcjaaGreatDoorCvZ
import Derived.Test.YteljhjljigbcjaaGreatDoorRows
import Derived.Test.YteljhjljigbcjaaGreatDoorCards
import Derived.Test.YteljhjljigbcjaaGreatDoorTie
import Derived.ProofKit
import Derived.OpenShut
import Derived.ShutString
import Derived.Lay
import Derived.LaidOnce
import Derived.SevenTiedAt
namespace Go.Proofs.YteljhjljigbcjaaGreatDoor.codecMatchesReference
open Go.ChangeShapes Go.WideShapes Go.ChangeAt Go.RowKit
open Go.ChangeMaps (open_string shut_string)
set_option linter.unusedVariables false

theorem own : ownKnob Tryz.prog.godebug = none := by kernel_rfl
set_option maxRecDepth 100000 in
theorem lifted (os : Os) (started : os.Started) (H : Type) (enc : TypeId × Value → H) :
    ReturnsInHanded {} Tryz.checked os 3 .any (fun w args => (Rows.codecMatchesReferenceSpec.pre enc Tryz.prog Tryz.f3 [] false w args ∧ laidMetH Tryz.prog Rows.codecMatchesReferenceRow.laid w) ∧ sizedMet enc Tryz.prog Tryz.f3 (OpenSpec.ofChange Rows.codecMatchesReferenceSpec) false w args)
      (Rows.codecMatchesReferenceSpec.post enc Tryz.prog Tryz.f3 false true false false) := by
  refine returnsInHanded_of_change_and (C := Tryz.checked) (X := fun w _ => laidMetH Tryz.prog Rows.codecMatchesReferenceRow.laid w) (fun _ _ _ hh h => h.of_heap hh) own started (by kernel_rfl) Tryz.func3
    (ChangeSpec.witness_shaped (enc := enc) (C := Tryz.checked) (os := os) (X := fun w _ => laidMetH Tryz.prog Rows.codecMatchesReferenceRow.laid w) false (World.laidAll Tryz.prog os Rows.codecMatchesReferenceRow.laid) #[.int .i64 0, .slice none 0 0, .agg #[.int .i64 0, .string ByteArray.empty, .slice none 0 0], .agg #[.int .i64 0, .int .i64 0, .int .i64 0, .int .i64 0, .int .u32 0, .int .i64 0, .string ByteArray.empty, .slice none 0 0]] 8 (World.laidAll_os _ _ _)
      (World.shaped_of_ZipB (by kernel_rfl) (by kernel_rfl)) (by kernel_rfl) (by kernel_rfl) (by kernel_rfl)
      (by rw [MakeChecks.laidMetH_plain _ _ _ (by kernel_rfl)]; exact laidMet_laidAll _ (by kernel_rfl) (by kernel_rfl))) ?_
  intro W base args ds gs before hval0 hW _ _ hL hsz
  have hval : ∀ (j : Nat) t v, Tryz.f3.params[j]? = some t → args[j]? = some v → Value.okWide Tryz.prog W .any base t v := hval0
  have hW' := hW
  obtain ⟨p, q, hA0, hV, rfl, hfz, hnd⟩ := hW
  have hA : DataW.TrodAll enc Tryz.prog W 0 (fun _ => true) true Tryz.f3.params.toList args.toList ds p := hA0
  rw [Tryz.params3] at hA hval
  obtain ⟨v0, vs0, d0, ds0, p0, q0, hargs, rfl, rfl, h0, r0⟩ := trodAll_cons hA
  obtain ⟨v1, vs1, d1, ds1, p1, q1, rfl, rfl, rfl, h1, r1⟩ := trodAll_cons r0
  obtain ⟨v2, vs2, d2, ds2, p2, q2, rfl, rfl, rfl, h2, r2⟩ := trodAll_cons r1
  obtain ⟨v3, vs3, d3, ds3, p3, q3, rfl, rfl, rfl, h3, r3⟩ := trodAll_cons r2
  obtain ⟨rfl, rfl, rfl⟩ := trodAll_nil r3
  obtain rfl : args = #[v0, v1, v2, v3] := by cases args; simp_all
  obtain ⟨rfl, rfl⟩ := trodVars_none hV
  obtain ⟨a0, rfl, rfl, rfl, w0⟩ := open_int Tryz.underlying2 (hval 0 2 v0 rfl rfl) h0
  obtain ⟨R1, T1⟩ := Cv.open_bytes (hval 1 22 v1 rfl rfl) h1
  obtain ⟨a2, s2, u2, R2, rfl, w2, T2⟩ := Cv.open_entry (hval 2 24 v2 rfl rfl) h2
  obtain ⟨a3, b3, c3, e3, f3, g3, s3, u3, R3, rfl, w3, T3⟩ := Cv.open_message (hval 3 27 v3 rfl rfl) h3
  clear hA0 hval0
  simp only [List.append_nil] at hW'
  rw [MakeChecks.laidMetH_plain _ _ _ (by kernel_rfl)] at hL
  refine (Cv.CodecMatchesReference_walk a0 v1 R1 a2 s2 u2 R2 a3 b3 c3 e3 f3 g3 s3 u3 R3 w0 T1 w2 T2 w3 T3 W rfl).mono fun e W' ⟨he, hb⟩ => ?_
  subst he
  exact ⟨_, rfl, _, _, _, [], _, [], hW', trodAll_mk1 (shut_bool Tryz.underlying4 _), (trodAll_cons_mk (shut_int Tryz.underlying2 w0) (trodAll_cons_mk (Cv.kept (by kernel_rfl) (of_decide_eq_true (by kernel_rfl)) h1 hb) (trodAll_cons_mk (Cv.kept (by kernel_rfl) (of_decide_eq_true (by kernel_rfl)) h2 hb) (trodAll_cons_mk (Cv.kept (by kernel_rfl) (of_decide_eq_true (by kernel_rfl)) h3 hb) trodAll_mk0)))), rfl, hb.frame _, fun h => by cases h⟩

theorem over : Rows.codecMatchesReferenceRow.holds Tryz.pinned (OpenSpec.ofChange Rows.codecMatchesReferenceSpec) :=
  OpenClaim.holds_of_wide 3 Tryz.f3 rfl rfl rfl rfl rfl rfl rfl ⟨rfl, rfl, rfl, rfl, rfl⟩ rfl rfl rfl rfl rfl (by kernel_rfl) Tryz.func3 (by kernel_rfl)
    (of_decide_eq_true (by kernel_rfl)) (by unfold Func.isWrapper; first | (rw [if_pos (by decide +kernel)]; kernel_rfl) | (rw [if_neg (by decide +kernel)]; exact ⟨rfl, rfl⟩))
    (fun os started H enc _ => lifted os started H enc)

theorem proved : Rows.CodecMatchesReferenceCardSaid :=
  Claim7.holds_tied_plain_at .later [] Rows.codecMatchesReferenceCard.laidKinds true Rows.codecMatchesReferenceCard.stood.harness Rows.codecMatchesReferenceCard.stood.looks over (fun _ h => by cases h) (by kernel_rfl) (fun _ h => by cases h) codecMatchesReference_row_tie rfl ⟨rfl, rfl⟩ (by kernel_rfl) rfl
    (fun f fn hf hfn => by
      obtain rfl : f = 3 := Option.some.inj ((show Tryz.prog.funcNamed "armillary/armillarylaw27.CodecMatchesReference" = some 3 by kernel_rfl).symm.trans hf) |>.symm
      obtain rfl : fn = Tryz.f3 := (Option.some.inj (Tryz.func3.symm.trans hfn)).symm
      exact ⟨by kernel_rfl, fun j t ht => by
        rw [Tryz.params3] at ht
        have hm : t ∈ [2, 22, 24, 27] := by simpa using Array.mem_of_getElem? ht
        have hall : ([2, 22, 24, 27].all fun u => !Tryz.prog.wantsStandIn u) = true := by kernel_rfl
        exact (show Tryz.prog.wantsStandIn t = false by simpa using List.all_eq_true.1 hall t hm)⟩)
    (by kernel_rfl)
#print axioms proved
end Go.Proofs.YteljhjljigbcjaaGreatDoor.codecMatchesReference
