/- FixedSymmetry: the walk. -/
import Derived.Test.YtbijolohpfkihaaDoorFxD
import Derived.Test.YtbijolohpfkihaaDoorFixedMonotonicityW
set_option linter.unusedVariables false
namespace Go.Proofs.YtbijolohpfkihaaDoor.Fx
open Go.RowKit Go.Proofs.YtbijolohpfkihaaDoorW.PrintWords

theorem dn_neg {X u : Int} (hu : 0 < u) : dn (-X) u = -(up X u) := by rw [up_neg hu]; omega
theorem up_neg' {X u : Int} (hu : 0 < u) : up (-X) u = -(dn X u) := by rw [up_neg hu, Int.neg_neg]
theorem dlo_neg {X b : Int} (hb : b ≠ 0) : dlo (-X) b = -(dhi X b) ∧ dhi (-X) b = -(dlo X b) := by
  by_cases h : b < 0
  · simp only [dlo, dhi, if_pos h]
    exact ⟨dn_neg (by omega), up_neg' (by omega)⟩
  · simp only [dlo, dhi, if_neg h]
    exact ⟨dn_neg (by omega), up_neg' (by omega)⟩
theorem dn_self {A d : Int} (hd : 0 < d) : dn (A * d) d = A ∧ up (A * d) d = A := by
  have e : A * d % d = 0 := Int.mul_emod_left _ _
  refine ⟨Int.mul_ediv_cancel _ (by omega), ?_⟩
  rw [up_exact e]; exact Int.mul_ediv_cancel _ (by omega)
theorem modulus (n : Int) : ∃ q m, n.tmod 1073741824 = m ∧ (m + 1073741824) % 1073741824 = q ∧ -1073741824 < m ∧ m < 1073741824 ∧ 0 ≤ q ∧ q < 1073741824 := by
  refine ⟨(n.tmod 1073741824 + 1073741824) % 1073741824, n.tmod 1073741824, rfl, rfl, ?_, ?_, by omega, by omega⟩
  · rcases Int.le_total 0 n with h | h
    · rw [Int.tmod_eq_emod_of_nonneg h]; omega
    · have := Int.tmod_eq_emod_of_nonneg (a := -n) (b := 1073741824) (by omega)
      rw [Int.neg_tmod] at this; omega
  · rcases Int.le_total 0 n with h | h
    · rw [Int.tmod_eq_emod_of_nonneg h]; omega
    · have := Int.tmod_eq_emod_of_nonneg (a := -n) (b := 1073741824) (by omega)
      rw [Int.neg_tmod] at this; omega

set_option maxRecDepth 100000 in
set_option maxHeartbeats 2000000 in
theorem FixedSymmetry_walk (a b n : Int) (wa : (Lit.int .i64 a).wf = true) (wb : (Lit.int .i64 b).wf = true) (wn : (Lit.int .i64 n).wf = true) (w : World) (ht : Tabs w) :
    Calls Tryd.prog 10 #[.int .i64 a, .int .i64 b, .int .i64 n] w fun e w' => e = .returned (.bool true) ∧ Below w.heap.size w w' := by
  obtain ⟨A, hA⟩ : ∃ A, anyN a = A := ⟨_, rfl⟩
  obtain ⟨B, hB⟩ : ∃ B, anyN b = B := ⟨_, rfl⟩
  have hA1 := anyN_bd a
  have hB1 := anyN_bd b
  rw [hA] at hA1
  rw [hB] at hB1
  obtain ⟨hA1, hA2⟩ := hA1
  obtain ⟨hB1, hB2⟩ := hB1
  have HA := Aside0.mk hA
  have HB := Aside0.mk hB
  obtain ⟨q, m, hm, hq, hm0, hm1, hq0, hq1⟩ := modulus n
  clear hA hB wa wb wn
  have hab := mul_bound (a := A) (b := B) (by omega) (by omega) (by omega) (by omega)
  have hlb := dn_bd (X := A * B) (u := 65536) (b := 4611686018427387904) (by omega) hab.1 hab.2 (by omega)
  have hub := up_bd (X := A * B) (u := 65536) (b := 4611686018427387904) (by omega) hab.1 hab.2 (by omega)
  clear hab
  obtain ⟨lo, hlo⟩ : ∃ lo, dn (A * B) 65536 = lo := ⟨_, rfl⟩
  obtain ⟨hi, hhi⟩ : ∃ hi, up (A * B) 65536 = hi := ⟨_, rfl⟩
  rw [hlo] at hlb
  rw [hhi] at hub
  obtain ⟨hlb1, hlb2⟩ := hlb
  obtain ⟨hub1, hub2⟩ := hub
  have HLO := Aside0.mk hlo
  have HHI := Aside0.mk hhi
  clear hlo hhi
  go_enter Tryd.func10, Tryd.ntmps10
  go_wp2_with fail
  refine (sanity_any _ ht).mono ?_
  rintro e w1 ⟨rfl, hb⟩
  go_wp2_with fail
  refine (Any_any a _).mono ?_
  rintro e w' ⟨rfl, rfl⟩
  rw [HA.out]
  go_wp2_with fail
  refine (Any_any b _).mono ?_
  rintro e w' ⟨rfl, rfl⟩
  rw [HB.out]
  go_wp2_with fail
  refine (toBelow (v' := .tuple #[.int .i64 lo, .int .i64 hi]) (Mul_any A B _ (by omega) (by omega) (by omega) (by omega)) (by rw [HLO.out, HHI.out])).mono ?_
  rintro e w2 ⟨rfl, hb2⟩
  replace hb := below_next hb hb2
  clear hb2
  go_wp2_with fail
  refine (toBelow (v' := .tuple #[.int .i64 (-hi), .int .i64 (-lo)]) (Mul_any (-A) B _ (by omega) (by omega) (by omega) (by omega)) (by rw [Int.neg_mul, dn_neg (by omega), up_neg' (by omega), HLO.out, HHI.out])).mono ?_
  rintro e w1 ⟨rfl, hb2⟩
  replace hb := below_next hb hb2
  clear hb2
  go_wp2_with fail
  refine (toBelow (v' := .tuple #[.int .i64 lo, .int .i64 hi]) (Mul_any B A _ (by omega) (by omega) (by omega) (by omega)) (by rw [Int.mul_comm B A, HLO.out, HHI.out])).mono ?_
  rintro e w2 ⟨rfl, hb2⟩
  replace hb := below_next hb hb2
  clear hb2
  go_wp2_with fail
  have hdiv : ∃ h i : Int, -140737488355329 ≤ h ∧ h ≤ 140737488355329 ∧ -140737488355329 ≤ i ∧ i ≤ 140737488355329 ∧ ∃ er : Int, (∀ w, Calls Tryd.prog 18 #[.int .i64 A, .int .i64 B] w fun e w' => e = .returned (.tuple #[.int .i64 h, .int .i64 i, .int .i64 er]) ∧ Below w.heap.size w w') ∧ (∀ w, Calls Tryd.prog 18 #[.int .i64 (-A), .int .i64 B] w fun e w' => e = .returned (.tuple #[.int .i64 (-i), .int .i64 (-h), .int .i64 er]) ∧ Below w.heap.size w w') := by
    by_cases hz : B = 0
    · subst hz
      exact ⟨0, 0, by omega, by omega, by omega, by omega, 3, fun w => toBelow (Div_zero A w) rfl, fun w => toBelow (Div_zero (-A) w) rfl⟩
    · have hd := dlo_bd (a := A * 65536) (b := B) (c := 140737488355328) hz (by omega) (by omega) (by omega)
      refine ⟨dlo (A * 65536) B, dhi (A * 65536) B, by omega, by omega, by omega, by omega, 0, fun w => toBelow (Div_any A B w (by omega) (by omega) (by omega) (by omega) hz) rfl, fun w => toBelow (Div_any (-A) B w (by omega) (by omega) (by omega) (by omega) hz) ?_⟩
      rw [Int.neg_mul, (dlo_neg hz).1, (dlo_neg hz).2]
  obtain ⟨h, i, h1, h2, i1, i2, er, hd1, hd2⟩ := hdiv
  have HD1 := Aside0.mk hd1
  have HD2 := Aside0.mk hd2
  clear hd1 hd2
  refine (HD1.out _).mono ?_
  rintro e w1 ⟨rfl, hb2⟩
  replace hb := below_next hb hb2
  clear hb2
  go_wp2_with fail
  refine (HD2.out _).mono ?_
  rintro e w2 ⟨rfl, hb2⟩
  replace hb := below_next hb hb2
  clear hb2
  go_wp2_with fail
  refine (toBelow (v' := .tuple #[.int .i64 A, .int .i64 A]) (Mul_any A 65536 _ (by omega) (by omega) (by omega) (by omega)) (by rw [(dn_self (by omega)).1, (dn_self (by omega)).2])).mono ?_
  rintro e w1 ⟨rfl, hb2⟩
  replace hb := below_next hb hb2
  clear hb2
  go_wp2_with fail
  refine (toBelow (v' := .tuple #[.int .i64 A, .int .i64 A, .int .i64 0]) (Div_any A 65536 _ (by omega) (by omega) (by omega) (by omega) (by omega)) (by rw [show dlo (A * 65536) 65536 = dn (A * 65536) 65536 from rfl, show dhi (A * 65536) 65536 = up (A * 65536) 65536 from rfl, (dn_self (by omega)).1, (dn_self (by omega)).2])).mono ?_
  rintro e w2 ⟨rfl, hb2⟩
  replace hb := below_next hb hb2
  clear hb2
  go_wp2_with fail
  refine (toBelow (v' := .tuple #[.int .i64 A, .int .i64 A, .int .i64 0]) (MulRatio_any A (1 + q) (1 + q) _ (by omega) (by omega) (by omega) (by omega) (by omega) (by omega)) (by rw [(dn_self (by omega)).1, (dn_self (by omega)).2])).mono ?_
  rintro e w1 ⟨rfl, hb2⟩
  replace hb := below_next hb hb2
  clear hb2
  go_wp2_with fail
  refine (toBelow (v' := .tuple #[.int .i64 (-A), .int .i64 (-A), .int .i64 0]) (MulRatio_any A (-(1 + q)) (1 + q) _ (by omega) (by omega) (by omega) (by omega) (by omega) (by omega)) (by rw [Int.mul_neg, dn_neg (by omega), up_neg' (by omega), (dn_self (by omega)).1, (dn_self (by omega)).2])).mono ?_
  rintro e w2 ⟨rfl, hb2⟩
  replace hb := below_next hb hb2
  clear hb2
  go_wp2
  go_ret
  exact ⟨rfl, hb⟩
end Go.Proofs.YtbijolohpfkihaaDoor.Fx
