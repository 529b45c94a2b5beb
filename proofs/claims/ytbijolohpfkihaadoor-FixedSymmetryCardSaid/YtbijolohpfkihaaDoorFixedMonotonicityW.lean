/- FixedMonotonicity: the walk. -/
import Derived.Test.YtbijolohpfkihaaDoorFxL
set_option linter.unusedVariables false
namespace Go.Proofs.YtbijolohpfkihaaDoor.Fx
open Go.RowKit Go.Proofs.YtbijolohpfkihaaDoorW.PrintWords

theorem dn_mono {X Y u : Int} (hu : 0 < u) (h : X ≤ Y) : dn X u ≤ dn Y u := Int.ediv_le_ediv hu h
theorem up_neg {X u : Int} (hu : 0 < u) : up X u = -(dn (-X) u) := by
  unfold dn
  by_cases hz : X % u = 0
  · rw [up_exact hz, (neg_ediv_exact hz).1]; omega
  · have h2 : 2 ≤ u := by
      rcases Int.lt_or_le u 2 with h | h
      · obtain rfl : u = 1 := by omega
        exact absurd (Int.emod_one X) hz
      · exact h
    have hp : 1 ≤ X % u := by have := Int.emod_nonneg X (show u ≠ 0 by omega); omega
    rw [up_next hp, (neg_ediv_next h2 hp).1]; omega
theorem up_mono {X Y u : Int} (hu : 0 < u) (h : X ≤ Y) : up X u ≤ up Y u := by
  rw [up_neg hu, up_neg hu]
  have := dn_mono (X := -Y) (Y := -X) hu (by omega)
  omega
theorem isq_mono {m n : Int} (h0 : 0 ≤ m) (h : m ≤ n) : isq m ≤ isq n := by
  have a := (isq_spec h0).1
  have b := (isq_spec (n := n) (by omega)).2
  have := lt_of_sq (a := isq m) (b := isq n + 1) (by have := isq_nonneg n; omega) (by omega)
  omega
theorem rup_mono {m n : Int} (h0 : 0 ≤ m) (h : m ≤ n) : rup m ≤ rup n := by
  have a := isq_mono h0 h
  have b := isq_spec h0
  have c := isq_spec (n := n) (by omega)
  have d := isq_nonneg m
  unfold rup
  split
  · split
    · omega
    · rename_i h1 h2
      have : isq n * isq n = n := by omega
      rcases Int.lt_or_le (isq m) (isq n) with g | g
      · omega
      · have : isq m = isq n := by omega
        rw [this] at h1; omega
  · split <;> omega

theorem Div_pos (a b : Int) (w : World) (ha : -2147483648 ≤ a) (ha' : a ≤ 2147483648) (h0 : 0 < b) (hb' : b ≤ 2147483648) :
    Calls Tryd.prog 18 #[.int .i64 a, .int .i64 b] w fun e w' => e = .returned (.tuple #[.int .i64 (dn (a * 65536) b), .int .i64 (up (a * 65536) b), .int .i64 0]) ∧ Below w.heap.size w w' :=
  toBelow (Div_any a b w ha ha' (by omega) hb' (by omega)) (by simp [dlo, dhi, show ¬ b < 0 by omega])

set_option maxRecDepth 100000 in
set_option maxHeartbeats 2000000 in
theorem FixedMonotonicity_walk (a b c : Int) (wa : (Lit.int .i64 a).wf = true) (wb : (Lit.int .i64 b).wf = true) (wc : (Lit.int .i64 c).wf = true) (w : World) (ht : Tabs w) :
    Calls Tryd.prog 9 #[.int .i64 a, .int .i64 b, .int .i64 c] w fun e w' => e = .returned (.bool true) ∧ Below w.heap.size w w' := by
  obtain ⟨A, hA⟩ : ∃ A, anyN a = A := ⟨_, rfl⟩
  obtain ⟨B, hB⟩ : ∃ B, anyN b = B := ⟨_, rfl⟩
  obtain ⟨z, hZ⟩ : ∃ B, anyN c = B := ⟨_, rfl⟩
  have hA1 := anyN_bd a
  have hB1 := anyN_bd b
  have hZ1 := anyN_bd c
  rw [hA] at hA1
  rw [hB] at hB1
  rw [hZ] at hZ1
  obtain ⟨hA1, hA2⟩ := hA1
  obtain ⟨hB1, hB2⟩ := hB1
  obtain ⟨hZ1, hZ2⟩ := hZ1
  have HA := Aside0.mk hA
  have HB := Aside0.mk hB
  have HZ := Aside0.mk hZ
  obtain ⟨x, hx⟩ : ∃ x, min A B = x := ⟨_, rfl⟩
  obtain ⟨y, hy⟩ : ∃ y, max A B = y := ⟨_, rfl⟩
  obtain ⟨x0, hx0⟩ : ∃ x0, max x 0 = x0 := ⟨_, rfl⟩
  obtain ⟨y0, hy0⟩ : ∃ y0, max y 0 = y0 := ⟨_, rfl⟩
  have hx1 : -2147483648 < x := by omega
  have hy2 : y < 2147483648 := by omega
  have hxy : x ≤ y := by omega
  have hx3 : 0 ≤ x0 := by omega
  have hxy0 : x0 ≤ y0 := by omega
  have hy3 : y0 < 2147483648 := by omega
  clear hA hB hZ wa wb wc
  go_enter Tryd.func9, Tryd.ntmps9
  go_wp2_with fail
  refine (sanity_any _ ht).mono ?_
  rintro e w1 ⟨rfl, hb⟩
  go_wp2_with fail
  refine (Any_any a _).mono ?_
  rintro e w' ⟨rfl, rfl⟩
  rw [HA.out]
  go_wp2_with fail
  refine (Any_any b _).mono ?_
  rintro e w' ⟨rfl, rfl⟩
  rw [HB.out]
  go_wp2_with fail
  refine (Any_any a _).mono ?_
  rintro e w' ⟨rfl, rfl⟩
  rw [HA.out]
  go_wp2_with fail
  refine (Any_any b _).mono ?_
  rintro e w' ⟨rfl, rfl⟩
  rw [HB.out]
  go_wp2_with fail
  refine (Any_any c _).mono ?_
  rintro e w' ⟨rfl, rfl⟩
  rw [HZ.out]
  have s1 := isq_mono (m := x0 * 65536) (n := y0 * 65536) (by omega) (by omega)
  have s2 := rup_mono (m := x0 * 65536) (n := y0 * 65536) (by omega) (by omega)
  by_cases hz0 : 0 ≤ z
  · have hm := Int.mul_le_mul_of_nonneg_right hxy hz0
    have d1 := dn_mono (u := 65536) (by omega) hm
    have d2 := up_mono (u := 65536) (by omega) hm
    clear hm
    by_cases hz1 : 0 < z
    · have d3 := dn_mono (X := x * 65536) (Y := y * 65536) hz1 (by omega)
      have d4 := up_mono (X := x * 65536) (Y := y * 65536) hz1 (by omega)
      have d5 := dn_mono (X := x * 3) (Y := y * 3) (u := 1 + z % 1000) (by omega) (by omega)
      have d6 := up_mono (X := x * 3) (Y := y * 3) (u := 1 + z % 1000) (by omega) (by omega)
      go_wp2_with (first | (go_at_call 16; refine (toBelow (Mul_any _ _ _ (by omega) (by omega) (by omega) (by omega)) rfl).mono ?_; rintro e w2 ⟨rfl, hb2⟩; replace hb := below_next hb hb2; clear hb2) | (go_at_call 20; refine (toBelow (Sqrt_any _ _ (by omega) (by omega)) rfl).mono ?_; rintro e w2 ⟨rfl, hb2⟩; replace hb := below_next hb hb2; clear hb2) | (go_at_call 18; refine (Div_pos _ _ _ (by omega) (by omega) (by omega) (by omega)).mono ?_; rintro e w2 ⟨rfl, hb2⟩; replace hb := below_next hb hb2; clear hb2) | (go_at_call 22; refine (toBelow (MulRatio_any _ _ _ _ (by omega) (by omega) (by omega) (by omega) (by omega) (by omega)) rfl).mono ?_; rintro e w2 ⟨rfl, hb2⟩; replace hb := below_next hb hb2; clear hb2))
      go_ret
      exact ⟨rfl, hb⟩
    · go_wp2_with (first | (go_at_call 16; refine (toBelow (Mul_any _ _ _ (by omega) (by omega) (by omega) (by omega)) rfl).mono ?_; rintro e w2 ⟨rfl, hb2⟩; replace hb := below_next hb hb2; clear hb2) | (go_at_call 20; refine (toBelow (Sqrt_any _ _ (by omega) (by omega)) rfl).mono ?_; rintro e w2 ⟨rfl, hb2⟩; replace hb := below_next hb hb2; clear hb2) | (go_at_call 18; refine (Div_pos _ _ _ (by omega) (by omega) (by omega) (by omega)).mono ?_; rintro e w2 ⟨rfl, hb2⟩; replace hb := below_next hb hb2; clear hb2) | (go_at_call 22; refine (toBelow (MulRatio_any _ _ _ _ (by omega) (by omega) (by omega) (by omega) (by omega) (by omega)) rfl).mono ?_; rintro e w2 ⟨rfl, hb2⟩; replace hb := below_next hb hb2; clear hb2))
      go_ret
      exact ⟨rfl, hb⟩
  · have hm := Int.mul_le_mul_of_nonpos_right hxy (show z ≤ 0 by omega)
    have d1 := dn_mono (u := 65536) (by omega) hm
    have d2 := up_mono (u := 65536) (by omega) hm
    clear hm
    go_wp2_with (first | (go_at_call 16; refine (toBelow (Mul_any _ _ _ (by omega) (by omega) (by omega) (by omega)) rfl).mono ?_; rintro e w2 ⟨rfl, hb2⟩; replace hb := below_next hb hb2; clear hb2) | (go_at_call 20; refine (toBelow (Sqrt_any _ _ (by omega) (by omega)) rfl).mono ?_; rintro e w2 ⟨rfl, hb2⟩; replace hb := below_next hb hb2; clear hb2) | (go_at_call 18; refine (Div_pos _ _ _ (by omega) (by omega) (by omega) (by omega)).mono ?_; rintro e w2 ⟨rfl, hb2⟩; replace hb := below_next hb hb2; clear hb2) | (go_at_call 22; refine (toBelow (MulRatio_any _ _ _ _ (by omega) (by omega) (by omega) (by omega) (by omega) (by omega)) rfl).mono ?_; rintro e w2 ⟨rfl, hb2⟩; replace hb := below_next hb hb2; clear hb2))
    go_ret
    exact ⟨rfl, hb⟩
end Go.Proofs.YtbijolohpfkihaaDoor.Fx
