/- FixedRounding: the walk. -/
import Derived.Test.YtbijolohpfkihaaDoorFixedSymmetryW
import Derived.Laws.Rows
set_option linter.unusedVariables false
namespace Go.Proofs.YtbijolohpfkihaaDoor.Fx
open Go.RowKit Go.Proofs.YtbijolohpfkihaaDoorW.PrintWords

theorem tmod_bd (n : Int) (m : Int) (hm : 0 < m) : -m < n.tmod m ∧ n.tmod m < m := by
  rcases Int.le_total 0 n with h | h
  · rw [Int.tmod_eq_emod_of_nonneg h]
    have := Int.emod_nonneg n (show m ≠ 0 by omega); have := Int.emod_lt_of_pos n hm; omega
  · have e := Int.tmod_eq_emod_of_nonneg (a := -n) (b := m) (by omega)
    rw [Int.neg_tmod] at e
    have := Int.emod_nonneg (-n) (show m ≠ 0 by omega); have := Int.emod_lt_of_pos (-n) hm; omega

set_option maxRecDepth 100000 in
set_option maxHeartbeats 2000000 in
theorem FixedRounding_walk (a b r0 r1 : Int) (wa : (Lit.int .i64 a).wf = true) (wb : (Lit.int .i64 b).wf = true) (wr : (Lit.int .i64 r0).wf = true ∧ (Lit.int .i64 r1).wf = true) (w : World) (ht : Tabs w) :
    Calls Tryd.prog 5 #[.int .i64 a, .int .i64 b, .agg #[.int .i64 r0, .int .i64 r1]] w fun e w' => e = .returned (.bool true) ∧ Below w.heap.size w w' := by
  obtain ⟨A, hA⟩ : ∃ A, anyN a = A := ⟨_, rfl⟩
  obtain ⟨B, hB⟩ : ∃ B, anyN b = B := ⟨_, rfl⟩
  have hA1 := anyN_bd a
  have hB1 := anyN_bd b
  rw [hA] at hA1
  rw [hB] at hB1
  obtain ⟨hA1, hA2⟩ := hA1
  obtain ⟨hB1, hB2⟩ := hB1
  have HA := Aside0.mk hA
  have HB := Aside0.mk hB
  obtain ⟨q, m, hm, hq, hm0, hm1, hq0, hq1⟩ := modulus r1
  obtain ⟨n, hn⟩ : ∃ n, r0.tmod 1073741825 = n := ⟨_, rfl⟩
  have hn1 := tmod_bd r0 1073741825 (by omega)
  rw [hn] at hn1
  obtain ⟨hn1, hn2⟩ := hn1
  clear hA hB wa wb wr
  have hab := mul_bound (a := A) (b := B) (by omega) (by omega) (by omega) (by omega)
  have han := mul_bound (a := A) (b := n) (by omega) (by omega) (by omega) (by omega)
  have henc := fun w => encloses_div (A * B) 65536 w (by omega) (by omega) (by omega) (by omega)
  have henc2 := fun w => encloses_div (A * n) (1 + q) w (by omega) (by omega) (by omega) (by omega)
  have HENC := Aside0.mk henc
  have HENC2 := Aside0.mk henc2
  clear henc henc2
  obtain ⟨hab1, hab2⟩ := hab
  obtain ⟨han1, han2⟩ := han
  have hb0 : Below w.heap.size w (w.alloc (.cells #[.int .i64 r0, .int .i64 r1] 22)) := (Below.refl _ _).alloc (Nat.le_refl _) _
  have ht0 := ht.below hb0
  go_enter Tryd.func5, Tryd.ntmps5
  go_wp2_with fail
  refine (sanity_any _ ht0).mono ?_
  rintro e w1 ⟨rfl, hb⟩
  have c0 := alloc_cell hb 0
  have c1 := alloc_cell hb 1
  have hbw := hb0.trans (hb.mono (by simp))
  clear hb hb0 ht0
  go_wp2_with fail
  refine (Any_any a _).mono ?_
  rintro e w' ⟨rfl, rfl⟩
  rw [HA.out]
  go_wp2_with fail
  refine (Any_any b _).mono ?_
  rintro e w' ⟨rfl, rfl⟩
  rw [HB.out]
  go_wp2_with fail
  go_quiet (fail)
  go_wp2_with fail
  refine (toBelow (Mul_any A B _ (by omega) (by omega) (by omega) (by omega)) rfl).mono ?_
  rintro e w2 ⟨rfl, hb2⟩
  replace hbw := below_next (pw_below_drewN hbw _) hb2
  clear hb2
  go_wp2_with fail
  refine (toBelow (MulRatio_any A n (1 + q) _ (by omega) (by omega) (by omega) (by omega) (by omega) (by omega)) rfl).mono ?_
  rintro e w3 ⟨rfl, hb2⟩
  replace hbw := below_next hbw hb2
  clear hb2
  go_wp2_with fail
  refine (HENC.out _).mono ?_
  rintro e w' ⟨rfl, rfl⟩
  go_wp2_with fail
  refine (HENC2.out _).mono ?_
  rintro e w' ⟨rfl, rfl⟩
  go_wp2
  go_ret
  exact ⟨rfl, hbw⟩
end Go.Proofs.YtbijolohpfkihaaDoor.Fx
