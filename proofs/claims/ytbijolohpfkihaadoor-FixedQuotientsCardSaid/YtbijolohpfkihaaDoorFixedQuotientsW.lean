/- FixedQuotients: the walk. -/
import Derived.Test.YtbijolohpfkihaaDoorFxL
set_option linter.unusedVariables false
namespace Go.Proofs.YtbijolohpfkihaaDoor.Fx
open Go.RowKit Go.Proofs.YtbijolohpfkihaaDoorW.PrintWords

set_option maxRecDepth 100000 in
set_option maxHeartbeats 1000000 in
theorem FixedQuotients_walk (a b : Int) (wa : (Lit.int .i64 a).wf = true) (wb : (Lit.int .i64 b).wf = true) (w : World) (ht : Tabs w) :
    Calls Tryd.prog 6 #[.int .i64 a, .int .i64 b] w fun e w' => e = .returned (.bool true) ∧ Below w.heap.size w w' := by
  obtain ⟨A, hA⟩ : ∃ A, anyN a = A := ⟨_, rfl⟩
  obtain ⟨B, hB⟩ : ∃ B, anyN b = B := ⟨_, rfl⟩
  have hA1 := anyN_bd a
  have hB1 := anyN_bd b
  rw [hA] at hA1
  rw [hB] at hB1
  obtain ⟨hA1, hA2⟩ := hA1
  obtain ⟨hB1, hB2⟩ := hB1
  have HA := Aside0.mk hA
  have HB := Aside0.mk hB
  clear hA hB wa wb
  go_enter Tryd.func6, Tryd.ntmps6
  go_wp2_with fail
  refine (sanity_any _ ht).mono ?_
  rintro e w1 ⟨rfl, hb⟩
  go_wp2_with fail
  refine (Any_any a _).mono ?_
  rintro e w' ⟨rfl, rfl⟩
  rw [HA.out]
  go_wp2_with fail
  refine (Any_any b _).mono ?_
  rintro e w' ⟨rfl, rfl⟩
  rw [HB.out]
  go_wp2_with fail
  by_cases hz : B = 0
  · subst hz
    refine (toBelow (Div_zero A _) rfl).mono ?_
    rintro e w2 ⟨rfl, hb2⟩
    go_wp2
    go_ret
    exact ⟨rfl, below_next hb hb2⟩
  · have hz' : (B == 0) = false := by simpa using hz
    refine (toBelow (Div_any A B _ (by omega) (by omega) (by omega) (by omega) hz) rfl).mono ?_
    rintro e w2 ⟨rfl, hb2⟩
    by_cases hn : B < 0
    · have e1 : dlo (A * 65536) B = dn (-(A * 65536)) (-B) := by simp [dlo, hn]
      have e2 : dhi (A * 65536) B = up (-(A * 65536)) (-B) := by simp [dhi, hn]
      rw [e1, e2]
      clear e1 e2
      have hT := tdiv_near (-(A * 65536)) (-B) (by omega)
      have hbd := dn_bd (X := -(A * 65536)) (u := -B) (b := 140737488355328) (by omega) (by omega) (by omega) (by omega)
      obtain ⟨_, _, f3, f4, _⟩ := enc_facts (-(A * 65536)) (-B) (by omega)
      have henc := fun w => encloses_div (-(A * 65536)) (-B) w (by omega) (by omega) (by omega) (by omega)
      have hTT : (-(A * 65536)).tdiv (-B) = (A * 65536).tdiv B := by rw [Int.tdiv_neg, Int.neg_tdiv, Int.neg_neg]
      rw [hTT] at hT
      obtain ⟨T, hTe⟩ : ∃ T, (A * 65536).tdiv B = T := ⟨_, rfl⟩
      rw [hTe] at hT
      obtain ⟨lo, hlo⟩ : ∃ lo, dn (-(A * 65536)) (-B) = lo := ⟨_, rfl⟩
      obtain ⟨hi, hhi⟩ : ∃ hi, up (-(A * 65536)) (-B) = hi := ⟨_, rfl⟩
      rw [hlo, hhi] at f3 henc
      rw [hlo] at hT hbd f4
      rw [hhi] at f4
      rw [hlo, hhi]
      obtain ⟨t1, t2⟩ := hT
      obtain ⟨b1, b2⟩ := hbd
      have HENC := Aside0.mk henc
      clear henc hlo hhi hTT
      go_wp2_with fail
      refine (HENC.out _).mono ?_
      rintro e w' ⟨rfl, rfl⟩
      go_wp2
      go_ret
      exact ⟨rfl, below_next hb hb2⟩
    · have e1 : dlo (A * 65536) B = dn (A * 65536) B := by simp [dlo, hn]
      have e2 : dhi (A * 65536) B = up (A * 65536) B := by simp [dhi, hn]
      rw [e1, e2]
      clear e1 e2
      have hT := tdiv_near (A * 65536) B (by omega)
      have hbd := dn_bd (X := A * 65536) (u := B) (b := 140737488355328) (by omega) (by omega) (by omega) (by omega)
      obtain ⟨_, _, f3, f4, _⟩ := enc_facts (A * 65536) B (by omega)
      have henc := fun w => encloses_div (A * 65536) B w (by omega) (by omega) (by omega) (by omega)
      obtain ⟨T, hTe⟩ : ∃ T, (A * 65536).tdiv B = T := ⟨_, rfl⟩
      rw [hTe] at hT
      obtain ⟨lo, hlo⟩ : ∃ lo, dn (A * 65536) B = lo := ⟨_, rfl⟩
      obtain ⟨hi, hhi⟩ : ∃ hi, up (A * 65536) B = hi := ⟨_, rfl⟩
      rw [hlo, hhi] at f3 henc
      rw [hlo] at hT hbd f4
      rw [hhi] at f4
      rw [hlo, hhi]
      obtain ⟨t1, t2⟩ := hT
      obtain ⟨b1, b2⟩ := hbd
      have HENC := Aside0.mk henc
      clear henc hlo hhi
      go_wp2_with fail
      refine (HENC.out _).mono ?_
      rintro e w' ⟨rfl, rfl⟩
      go_wp2
      go_ret
      exact ⟨rfl, below_next hb hb2⟩
end Go.Proofs.YtbijolohpfkihaaDoor.Fx
