/- FixedRoots: the walk. -/
import Derived.Test.YtbijolohpfkihaaDoorFxD
set_option linter.unusedVariables false
namespace Go.Proofs.YtbijolohpfkihaaDoor.Fx
open Go.RowKit Go.Proofs.YtbijolohpfkihaaDoorW.PrintWords

set_option maxRecDepth 100000 in
set_option maxHeartbeats 2000000 in
theorem FixedRoots_walk (a : Int) (wa : (Lit.int .i64 a).wf = true) (w : World) (ht : Tabs w) :
    Calls Tryd.prog 7 #[.int .i64 a] w fun e w' => e = .returned (.bool true) ∧ Below w.heap.size w w' := by
  obtain ⟨A, hA⟩ : ∃ A, anyN a = A := ⟨_, rfl⟩
  have hA1 := anyN_bd a
  rw [hA] at hA1
  obtain ⟨hA1, hA2⟩ := hA1
  have HA := Aside0.mk hA
  clear hA wa
  go_enter Tryd.func7, Tryd.ntmps7
  go_wp2_with fail
  refine (sanity_any _ ht).mono ?_
  rintro e w1 ⟨rfl, hb⟩
  go_wp2_with fail
  refine (Any_any a _).mono ?_
  rintro e w' ⟨rfl, rfl⟩
  rw [HA.out]
  go_wp2_with fail
  by_cases hn : A < 0
  · refine (toBelow (Sqrt_neg _ _ hn) rfl).mono ?_
    rintro e w2 ⟨rfl, hb2⟩
    go_wp2
    go_ret
    exact ⟨rfl, below_next hb hb2⟩
  · refine (toBelow (Sqrt_any _ _ (by omega) (by omega)) rfl).mono ?_
    rintro e w2 ⟨rfl, hb2⟩
    have hs := isq_spec (n := A * 65536) (by omega)
    have hs0 := isq_nonneg (A * 65536)
    have hs1 := isq_le_of_lt_sq (n := A * 65536) (b := 11863284) (by omega) (by omega) (by omega)
    have hr : rup (A * 65536) = if isq (A * 65536) * isq (A * 65536) < A * 65536 then isq (A * 65536) + 1 else isq (A * 65536) := rfl
    obtain ⟨lo, hlo⟩ : ∃ lo, isq (A * 65536) = lo := ⟨_, rfl⟩
    obtain ⟨hi, hhi⟩ : ∃ hi, rup (A * 65536) = hi := ⟨_, rfl⟩
    rw [hhi] at hr
    rw [hlo] at hs hs0 hs1 hr
    rw [hlo, hhi]
    clear hlo hhi
    obtain ⟨k, hk⟩ : ∃ k, A % 11585237 = k := ⟨_, rfl⟩
    have hk0 : 0 ≤ k := by omega
    have hk1 : k ≤ 11585236 := by omega
    have hkk0 : 0 ≤ k * k := Int.mul_nonneg hk0 hk0
    have hkk1 : k * k ≤ 134217693175696 := by have := sq_le hk0 hk1; omega
    have hsq0 : 0 ≤ dn (k * k) 65536 := Int.ediv_nonneg hkk0 (by omega)
    have hsq1 : dn (k * k) 65536 ≤ 2147483647 := by unfold dn; omega
    have hsq2 : dn (k * k) 65536 * 65536 ≤ k * k := by unfold dn; omega
    have hbel : isq (dn (k * k) 65536 * 65536) ≤ k := by
      have := (isq_spec (n := dn (k * k) 65536 * 65536) (by omega)).1
      exact le_of_sq hk0 (by omega)
    have habv : ¬ (k ≤ rup (dn (k * k) 65536 * 65536)) → dn (k * k) 65536 * 65536 < k * k := by
      intro h
      rcases Int.lt_or_le (dn (k * k) 65536 * 65536) (k * k) with g | g
      · exact g
      · exfalso
        have e : dn (k * k) 65536 * 65536 = k * k := by omega
        have : isq (k * k) = k := isq_unique hk0 (Int.le_refl _) (sq_lt hk0 (by omega))
        unfold rup at h
        rw [e, this] at h
        split at h <;> omega
    have hll0 : 0 ≤ lo * lo := Int.mul_nonneg hs0 hs0
    have hll1 : lo * lo ≤ 140737488355328 := by omega
    obtain ⟨hs2, hs3⟩ := hs
    have hdec : hi = lo ∧ (lo * lo == A * 65536) = true ∧ A * 65536 ≤ hi * hi ∨ hi = lo + 1 ∧ (lo * lo == A * 65536) = false ∧ A * 65536 ≤ hi * hi := by
      split at hr
      · subst hr; refine .inr ⟨rfl, by rw [beq_eq_false_iff_ne]; omega, by omega⟩
      · subst hr; refine .inl ⟨rfl, by rw [beq_iff_eq]; omega, by omega⟩
    have hhh1 : hi * hi ≤ 140737536000000 := by
      have h1 : 0 ≤ hi := by rcases hdec with h | h <;> omega
      have h2 : hi ≤ 11863285 := by rcases hdec with h | h <;> omega
      have := sq_le h1 h2; omega
    have HDEC := Aside0.mk hdec
    have HABV := Aside0.mk habv
    clear hr hdec habv hsq2
    obtain ⟨sq, hsq⟩ : ∃ sq, dn (k * k) 65536 = sq := ⟨_, rfl⟩
    rw [hsq] at hsq0 hsq1 hbel HABV
    have HSQ := Aside0.mk hsq
    clear hsq
    obtain ⟨be, hbe⟩ : ∃ be, isq (sq * 65536) = be := ⟨_, rfl⟩
    obtain ⟨ab, hab⟩ : ∃ ab, rup (sq * 65536) = ab := ⟨_, rfl⟩
    rw [hbe] at hbel
    rw [hab] at HABV
    have HBE := Aside0.mk hbe
    have HAB := Aside0.mk hab
    clear hbe hab
    rcases HDEC.out with ⟨e, d1, d2⟩ | ⟨e, d1, d2⟩ <;> subst hi
    all_goals
      clear HDEC
      have ee : (lo == lo + 1) = false := by rw [beq_eq_false_iff_ne]; omega
      by_cases hab : k ≤ ab
      · have HABV2 := HABV
        clear HABV
        go_wp2_with (first | (go_at_call 17; refine (RMul_any k k _ (by omega) (by omega) (by omega) (by omega)).mono ?_; rintro e w' ⟨rfl, rfl⟩; rw [HSQ.out]) | (go_at_call 20; refine (toBelow (Sqrt_any sq _ (by omega) (by omega)) rfl).mono ?_; rintro e w3 ⟨rfl, hb3⟩; rw [HBE.out, HAB.out]))
        go_ret
        exact ⟨rfl, below_next (below_next hb hb2) hb3⟩
      · have hlt := HABV.out hab
        clear HABV
        go_wp2_with (first | (go_at_call 17; refine (RMul_any k k _ (by omega) (by omega) (by omega) (by omega)).mono ?_; rintro e w' ⟨rfl, rfl⟩; rw [HSQ.out]) | (go_at_call 20; refine (toBelow (Sqrt_any sq _ (by omega) (by omega)) rfl).mono ?_; rintro e w3 ⟨rfl, hb3⟩; rw [HBE.out, HAB.out]))
        go_ret
        exact ⟨rfl, below_next (below_next hb hb2) hb3⟩
end Go.Proofs.YtbijolohpfkihaaDoor.Fx
