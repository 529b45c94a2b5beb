/- FixedMatchesReference: the walk. -/
import Derived.Test.YtbijolohpfkihaaDoorFixedRoundingW
set_option linter.unusedVariables false
namespace Go.Proofs.YtbijolohpfkihaaDoor.Fx
open Go.RowKit Go.Proofs.YtbijolohpfkihaaDoorW.PrintWords

/-- R1.Sqrt: bisection -/
theorem RSqrt_neg (a : Int) (w : World) (h : a < 0) :
    Calls Tryd.prog 21 #[.int .i64 a] w fun e w' => e = .returned (.tuple #[.int .i64 0, .int .i64 0, .int .i64 4]) ∧ w = w' := by
  go_enter Tryd.func21, Tryd.ntmps21
  go_wp2
  go_ret3
  exact ⟨rfl, rfl⟩
set_option maxHeartbeats 1000000 in
theorem RSqrt_any (a : Int) (w : World) (h : 0 ≤ a) (h2 : a < 2147483648) :
    Calls Tryd.prog 21 #[.int .i64 a] w fun e w' => e = .returned (.tuple #[.int .i64 (isq (a * 65536)), .int .i64 (rup (a * 65536)), .int .i64 0]) ∧ w = w' := by
  have hs := isq_spec (n := a * 65536) (by omega)
  have hs0 := isq_nonneg (a * 65536)
  have hs1 := isq_le_of_lt_sq (n := a * 65536) (b := 16777216) (by omega) (by omega) (by omega)
  obtain ⟨s, hss⟩ : ∃ s, isq (a * 65536) = s := ⟨_, rfl⟩
  rw [hss] at hs hs0 hs1 ⊢
  have hr : rup (a * 65536) = if s * s < a * 65536 then s + 1 else s := by rw [← hss]; rfl
  obtain ⟨r, hrr⟩ : ∃ r, rup (a * 65536) = r := ⟨_, rfl⟩
  rw [hrr] at hr ⊢
  have HR := Aside0.mk hr
  have HS := Aside0.mk hs
  clear hss hrr hr hs
  go_enter Tryd.func21, Tryd.ntmps21
  go_wp2
  go_loopg [6, 7] 16777217 (fun g v6 v7 wr => ∃ lo hi : Int, v6 = .int .i64 lo ∧ v7 = .int .i64 hi ∧ 0 ≤ lo ∧ lo ≤ s ∧ s ≤ hi ∧ hi ≤ 16777216 ∧ hi - lo < g ∧ w = wr)
  case atStart => exact ⟨0, 16777216, rfl, rfl, by omega, hs0, hs1, by omega, by omega, rfl⟩
  case round =>
    obtain ⟨lo, hi, rfl, rfl, k0, k1, k2, k3, k4, rfl⟩ := hrel
    by_cases hlt : lo < hi
    · obtain ⟨m, hm⟩ : ∃ m, (lo + hi + 1) / 2 = m := ⟨_, rfl⟩
      have hm0 : lo < m := by omega
      have hm1 : m ≤ hi := by omega
      have hmm0 : 0 ≤ m * m := Int.mul_nonneg (by omega) (by omega)
      have hmm1 : m * m ≤ 281474976710656 := by have := sq_le (a := m) (b := 16777216) (by omega) (by omega); omega
      by_cases hc : m * m ≤ a * 65536
      · have hms : m ≤ s := by
          have h1 := HS.out.2
          have := lt_of_sq (a := m) (b := s + 1) (by omega) (by omega)
          omega
        go_wp2
        go_roundg (hi - m + 1).toNat
        case measure => omega
        case rel => exact ⟨m, hi, by rw [hm], rfl, by omega, hms, k2, k3, by omega, rfl⟩
      · have hms : s ≤ m - 1 := by
          have h1 := HS.out.1
          have := lt_of_sq (a := s) (b := m) (by omega) (by omega)
          omega
        go_wp2
        go_roundg (m - 1 - lo + 1).toNat
        case measure => omega
        case rel => exact ⟨lo, m - 1, rfl, rfl, k0, k1, hms, by omega, by omega, rfl⟩
    · have e : lo = s := by omega
      subst e
      have hss0 : 0 ≤ lo * lo := Int.mul_nonneg k0 k0
      have hss1 : lo * lo ≤ 281474976710656 := by have := HS.out.1; omega
      by_cases hc : lo * lo < a * 65536
      · have e1 : r = lo + 1 := by rw [HR.out, if_pos hc]
        have E1 := Aside0.mk e1
        clear e1
        go_wp2
        go_ret3
        exact ⟨by rw [E1.out]; rfl, rfl⟩
      · have e1 : r = lo := by rw [HR.out, if_neg hc]
        have E1 := Aside0.mk e1
        clear e1
        go_wp2
        go_ret3
        exact ⟨by rw [E1.out]; rfl, rfl⟩

theorem ofEq {P : Program} {f : Nat} {args : Array Value} {w : World} {v : Value} (h : Calls P f args w fun e w' => e = .returned v ∧ w = w') :
    Calls P f args w fun e w' => e = .returned v ∧ Below w.heap.size w w' :=
  h.mono fun _ _ ⟨e, k⟩ => ⟨e, by subst k; exact Below.refl _ _⟩

/-- what Sqrt and R1.Sqrt answer alike -/
theorem sqrt_both (a : Int) (h1 : -2147483648 ≤ a) (h2 : a < 2147483648) : ∃ lo hi er : Int,
    (∀ w, Calls Tryd.prog 20 #[.int .i64 a] w fun e w' => e = .returned (.tuple #[.int .i64 lo, .int .i64 hi, .int .i64 er]) ∧ Below w.heap.size w w') ∧
    (∀ w, Calls Tryd.prog 21 #[.int .i64 a] w fun e w' => e = .returned (.tuple #[.int .i64 lo, .int .i64 hi, .int .i64 er]) ∧ Below w.heap.size w w') := by
  by_cases h : a < 0
  · exact ⟨0, 0, 4, fun w => toBelow (Sqrt_neg a w h) rfl, fun w => ofEq (RSqrt_neg a w h)⟩
  · exact ⟨_, _, 0, fun w => toBelow (Sqrt_any a w (by omega) h2) rfl, fun w => ofEq (RSqrt_any a w (by omega) h2)⟩
theorem div_both (a b : Int) (h1 : -2147483648 ≤ a) (h2 : a ≤ 2147483648) (h3 : -2147483648 ≤ b) (h4 : b ≤ 2147483648) : ∃ lo hi er : Int,
    (∀ w, Calls Tryd.prog 18 #[.int .i64 a, .int .i64 b] w fun e w' => e = .returned (.tuple #[.int .i64 lo, .int .i64 hi, .int .i64 er]) ∧ Below w.heap.size w w') ∧
    (∀ w, Calls Tryd.prog 19 #[.int .i64 a, .int .i64 b] w fun e w' => e = .returned (.tuple #[.int .i64 lo, .int .i64 hi, .int .i64 er]) ∧ Below w.heap.size w w') := by
  by_cases h : b = 0
  · subst h
    exact ⟨0, 0, 3, fun w => toBelow (Div_zero a w) rfl, fun w => ofEq (RDiv_zero a w)⟩
  · exact ⟨_, _, 0, fun w => toBelow (Div_any a b w h1 h2 h3 h4 h) rfl, fun w => ofEq (RDiv_any a b w h1 h2 h)⟩
theorem ratio_both (a n d : Int) (h1 : -2147483648 ≤ a) (h2 : a ≤ 2147483648) : ∃ lo hi er : Int,
    (∀ w, Calls Tryd.prog 22 #[.int .i64 a, .int .i64 n, .int .i64 d] w fun e w' => e = .returned (.tuple #[.int .i64 lo, .int .i64 hi, .int .i64 er]) ∧ Below w.heap.size w w') ∧
    (∀ w, Calls Tryd.prog 23 #[.int .i64 a, .int .i64 n, .int .i64 d] w fun e w' => e = .returned (.tuple #[.int .i64 lo, .int .i64 hi, .int .i64 er]) ∧ Below w.heap.size w w') := by
  by_cases h : n < -1073741824 ∨ 1073741824 < n ∨ d < 1 ∨ 1073741824 < d
  · exact ⟨0, 0, 1, fun w => toBelow (MulRatio_bad a n d w h) rfl, fun w => ofEq (RMulRatio_bad a n d w h)⟩
  · exact ⟨_, _, 0, fun w => toBelow (MulRatio_any a n d w h1 h2 (by omega) (by omega) (by omega) (by omega)) rfl, fun w => ofEq (RMulRatio_any a n d w h1 h2 (by omega) (by omega) (by omega) (by omega))⟩

set_option maxRecDepth 100000 in
set_option maxHeartbeats 2000000 in
theorem FixedMatchesReference_walk (a b r0 r1 : Int) (wa : (Lit.int .i64 a).wf = true) (wb : (Lit.int .i64 b).wf = true) (wr : (Lit.int .i64 r0).wf = true ∧ (Lit.int .i64 r1).wf = true) (w : World) (ht : Tabs w) :
    Calls Tryd.prog 3 #[.int .i64 a, .int .i64 b, .agg #[.int .i64 r0, .int .i64 r1]] w fun e w' => e = .returned (.bool true) ∧ Below w.heap.size w w' := by
  obtain ⟨A, hA⟩ : ∃ A, anyN a = A := ⟨_, rfl⟩
  obtain ⟨B, hB⟩ : ∃ B, anyN b = B := ⟨_, rfl⟩
  have hA1 := anyN_bd a
  have hB1 := anyN_bd b
  rw [hA] at hA1
  rw [hB] at hB1
  obtain ⟨hA1, hA2⟩ := hA1
  obtain ⟨hB1, hB2⟩ := hB1
  have HA := Aside0.mk hA
  have HB := Aside0.mk hB
  clear hA hB wa wb wr
  obtain ⟨s0, s1, s2, S1, S2⟩ := sqrt_both A (by omega) (by omega)
  obtain ⟨d0, d1, d2, D1, D2⟩ := div_both A B (by omega) (by omega) (by omega) (by omega)
  obtain ⟨m0, m1, m2, M1, M2⟩ := ratio_both A r0 r1 (by omega) (by omega)
  have HS1 := Aside0.mk S1
  have HS2 := Aside0.mk S2
  have HD1 := Aside0.mk D1
  have HD2 := Aside0.mk D2
  have HM1 := Aside0.mk M1
  have HM2 := Aside0.mk M2
  clear S1 S2 D1 D2 M1 M2
  obtain ⟨va, hva⟩ : ∃ va : Bool, (decide (-2147483648 < a) && decide (a < 2147483648)) = va := ⟨_, rfl⟩
  have HVA := Aside0.mk hva
  clear hva
  have hb0 : Below w.heap.size w (w.alloc (.cells #[.int .i64 r0, .int .i64 r1] 22)) := (Below.refl _ _).alloc (Nat.le_refl _) _
  have ht0 := ht.below hb0
  go_enter Tryd.func3, Tryd.ntmps3
  go_wp2_with fail
  refine (sanity_any _ ht0).mono ?_
  rintro e w1 ⟨rfl, hb⟩
  go_wp2_with fail
  refine (toBelow (Valid_any a _) (congrArg Value.bool HVA.out)).mono ?_
  rintro e w2 ⟨rfl, hb2⟩
  replace hb := below_next hb hb2
  clear hb2
  go_wp2_with fail
  refine (toVal (ofEq (RValid_any a _)) (congrArg Value.bool HVA.out)).mono ?_
  rintro e w1 ⟨rfl, hb2⟩
  replace hb := below_next hb hb2
  clear hb2
  go_wp2_with fail
  refine (Any_any a _).mono ?_
  rintro e w' ⟨rfl, rfl⟩
  rw [HA.out]
  go_wp2_with fail
  refine (Any_any b _).mono ?_
  rintro e w' ⟨rfl, rfl⟩
  rw [HB.out]
  go_wp2_with fail
  refine (toBelow (Mul_any A B _ (by omega) (by omega) (by omega) (by omega)) rfl).mono ?_
  rintro e w2 ⟨rfl, hb2⟩
  replace hb := below_next hb hb2
  clear hb2
  go_wp2_with fail
  refine (ofEq (RMul_any A B _ (by omega) (by omega) (by omega) (by omega))).mono ?_
  rintro e w1 ⟨rfl, hb2⟩
  replace hb := below_next hb hb2
  clear hb2
  go_wp2_with fail
  refine (HD1.out _).mono ?_
  rintro e w2 ⟨rfl, hb2⟩
  replace hb := below_next hb hb2
  clear hb2
  go_wp2_with fail
  refine (HD2.out _).mono ?_
  rintro e w1 ⟨rfl, hb2⟩
  replace hb := below_next hb hb2
  clear hb2
  go_wp2_with fail
  refine (HS1.out _).mono ?_
  rintro e w2 ⟨rfl, hb2⟩
  replace hb := below_next hb hb2
  clear hb2
  go_wp2_with fail
  refine (HS2.out _).mono ?_
  rintro e w1 ⟨rfl, hb2⟩
  replace hb := below_next hb hb2
  clear hb2
  have c0 := alloc_cell hb 0
  have c1 := alloc_cell hb 1
  go_wp2_with fail
  refine (HM1.out _).mono ?_
  rintro e w2 ⟨rfl, hb2⟩
  replace hb := below_next hb hb2
  clear hb2 c0 c1
  have c0 := alloc_cell hb 0
  have c1 := alloc_cell hb 1
  go_wp2_with fail
  refine (HM2.out _).mono ?_
  rintro e w1 ⟨rfl, hb2⟩
  replace hb := below_next hb hb2
  clear hb2 c0 c1
  go_wp2
  go_ret
  exact ⟨rfl, hb0.trans (hb.mono (by simp))⟩
end Go.Proofs.YtbijolohpfkihaaDoor.Fx
