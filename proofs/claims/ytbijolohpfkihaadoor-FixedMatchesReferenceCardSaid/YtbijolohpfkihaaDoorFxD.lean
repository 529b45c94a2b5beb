/- Contracts of the reference's Down, Up, Mul, Div, MulRatio, Valid. -/
import Derived.Test.YtbijolohpfkihaaDoorFxL
set_option linter.unusedVariables false
namespace Go.Proofs.YtbijolohpfkihaaDoor.Fx
open Go.RowKit Go.Proofs.YtbijolohpfkihaaDoorW.PrintWords

theorem down_up_pos {a b : Int} (hb : 0 < b) : (a.tmod b = 0 → dn a b = a.tdiv b ∧ up a b = a.tdiv b) ∧
    (a.tmod b ≠ 0 → (a < 0 → dn a b = a.tdiv b - 1 ∧ up a b = a.tdiv b) ∧ (0 ≤ a → dn a b = a.tdiv b ∧ up a b = a.tdiv b + 1)) := by
  unfold dn
  have hm := Int.emod_nonneg a (show b ≠ 0 by omega)
  rcases Int.lt_or_le a 0 with h | h
  · obtain ⟨n, rfl⟩ : ∃ n, a = -n := ⟨-a, by omega⟩
    have e1 : (-n).tdiv b = -(n / b) := by rw [Int.neg_tdiv, Int.tdiv_eq_ediv_of_nonneg (by omega)]
    have e2 : (-n).tmod b = -(n % b) := by rw [Int.neg_tmod, Int.tmod_eq_emod_of_nonneg (by omega)]
    rw [e1, e2]
    by_cases hz : n % b = 0
    · rw [up_exact (neg_ediv_exact hz).2, (neg_ediv_exact hz).1]
      exact ⟨fun _ => ⟨rfl, rfl⟩, fun h => absurd (by omega) h⟩
    · have h2 : 2 ≤ b := by
        rcases Int.lt_or_le b 2 with g | g
        · obtain rfl : b = 1 := by omega
          exact absurd (Int.emod_one n) hz
        · exact g
      have hp : 1 ≤ n % b := by have := Int.emod_nonneg n (show b ≠ 0 by omega); omega
      rw [up_next (neg_ediv_next h2 hp).2, (neg_ediv_next h2 hp).1]
      exact ⟨fun h => absurd h (by omega), fun _ => ⟨fun _ => ⟨rfl, by omega⟩, fun h => by omega⟩⟩
  · rw [Int.tdiv_eq_ediv_of_nonneg h, Int.tmod_eq_emod_of_nonneg h]
    by_cases hz : a % b = 0
    · rw [up_exact hz]; exact ⟨fun _ => ⟨rfl, rfl⟩, fun h => absurd hz h⟩
    · rw [up_next (by omega)]; exact ⟨fun h => absurd h hz, fun _ => ⟨fun h => by omega, fun _ => ⟨rfl, rfl⟩⟩⟩
theorem down_up {a b : Int} (hb : b ≠ 0) : (a.tmod b = 0 → dlo a b = a.tdiv b ∧ dhi a b = a.tdiv b) ∧
    (a.tmod b ≠ 0 → ((a < 0 ∧ 0 < b ∨ 0 ≤ a ∧ b < 0) → dlo a b = a.tdiv b - 1 ∧ dhi a b = a.tdiv b) ∧ ((a < 0 ∧ b < 0 ∨ 0 ≤ a ∧ 0 < b) → dlo a b = a.tdiv b ∧ dhi a b = a.tdiv b + 1)) := by
  by_cases h : b < 0
  · simp only [dlo, dhi, if_pos h]
    have := down_up_pos (a := -a) (b := -b) (by omega)
    have e1 : (-a).tdiv (-b) = a.tdiv b := by rw [Int.tdiv_neg, Int.neg_tdiv, Int.neg_neg]
    have e2 : (-a).tmod (-b) = -(a.tmod b) := by rw [Int.tmod_neg, Int.neg_tmod]
    rw [e1, e2] at this
    obtain ⟨h1, h2⟩ := this
    refine ⟨fun g => h1 (by omega), fun g => ?_⟩
    obtain ⟨h3, h4⟩ := h2 (by omega)
    have ha : a ≠ 0 := by intro e; subst e; simp at g
    exact ⟨fun k => h3 (by omega), fun k => h4 (by omega)⟩
  · simp only [dlo, dhi, if_neg h]
    obtain ⟨h1, h2⟩ := down_up_pos (a := a) (b := b) (by omega)
    exact ⟨h1, fun g => ⟨fun k => (h2 g).1 (by omega), fun k => (h2 g).2 (by omega)⟩⟩

theorem dlo_bd {a b c : Int} (hb : b ≠ 0) (h0 : -c ≤ a) (h1 : a ≤ c) (hc : 0 ≤ c) : -c ≤ dlo a b ∧ dlo a b ≤ c ∧ -c ≤ dhi a b ∧ dhi a b ≤ c + 1 := by
  by_cases h : b < 0
  · simp only [dlo, dhi, if_pos h]
    have := dn_bd (X := -a) (u := -b) (b := c) (by omega) (by omega) (by omega) hc
    have := up_bd (X := -a) (u := -b) (b := c) (by omega) (by omega) (by omega) hc
    omega
  · simp only [dlo, dhi, if_neg h]
    have := dn_bd (X := a) (u := b) (b := c) (by omega) (by omega) (by omega) hc
    have := up_bd (X := a) (u := b) (b := c) (by omega) (by omega) (by omega) hc
    omega

set_option maxHeartbeats 1000000 in
theorem DownUp_any (a b : Int) (w : World) (hb : b ≠ 0) (h0 : -4611686018427387904 ≤ a) (h1 : a ≤ 4611686018427387904) :
    (Calls Tryd.prog 32 #[.int .i64 a, .int .i64 b] w fun e w' => e = .returned (.int .i64 (dlo a b)) ∧ w = w') ∧
    (Calls Tryd.prog 33 #[.int .i64 a, .int .i64 b] w fun e w' => e = .returned (.int .i64 (dhi a b)) ∧ w = w') := by
  obtain ⟨T, hT⟩ : ∃ T, a.tdiv b = T := ⟨_, rfl⟩
  obtain ⟨R, hR⟩ : ∃ R, a.tmod b = R := ⟨_, rfl⟩
  have hd := down_up (a := a) hb
  have hbd := dlo_bd (a := a) (b := b) (c := 4611686018427387904) hb h0 h1 (by omega)
  rw [hT, hR] at hd
  obtain ⟨lo, hlo⟩ : ∃ lo, dlo a b = lo := ⟨_, rfl⟩
  obtain ⟨hi, hhi⟩ : ∃ hi, dhi a b = hi := ⟨_, rfl⟩
  rw [hlo, hhi] at hd hbd ⊢
  clear hlo hhi
  have HD := Aside0.mk hd
  by_cases hz : R = 0
  · obtain ⟨rfl, rfl⟩ := hd.1 hz
    have hz' : (R != 0) = false := by simpa using hz
    clear hd HD hz
    constructor
    · go_enter Tryd.func32, Tryd.ntmps32
      go_wp2
      go_ret
      exact ⟨rfl, rfl⟩
    · go_enter Tryd.func33, Tryd.ntmps33
      go_wp2
      go_ret
      exact ⟨rfl, rfl⟩
  · have hz' : (R != 0) = true := by simpa using hz
    have hd2 := hd.2 hz
    clear hd hz
    by_cases ha : a < 0
    · have ha' : decide (a < 0) = true := by simpa using ha
      by_cases hn : b < 0
      · have hn' : decide (b < 0) = true := by simpa using hn
        obtain ⟨rfl, e⟩ := hd2.2 (by omega)
        have E := Aside0.mk e
        clear e hd2 HD
        constructor
        · go_enter Tryd.func32, Tryd.ntmps32
          go_wp2
          go_ret
          exact ⟨rfl, rfl⟩
        · go_enter Tryd.func33, Tryd.ntmps33
          go_wp2
          go_ret
          exact ⟨by rw [E.out]; rfl, rfl⟩
      · have hn' : decide (b < 0) = false := by simpa using hn
        obtain ⟨e, rfl⟩ := hd2.1 (by omega)
        have E := Aside0.mk e
        clear e hd2 HD
        constructor
        · go_enter Tryd.func32, Tryd.ntmps32
          go_wp2
          go_ret
          exact ⟨by rw [E.out]; rfl, rfl⟩
        · go_enter Tryd.func33, Tryd.ntmps33
          go_wp2
          go_ret
          exact ⟨rfl, rfl⟩
    · have ha' : decide (a < 0) = false := by simpa using ha
      by_cases hn : b < 0
      · have hn' : decide (b < 0) = true := by simpa using hn
        obtain ⟨e, rfl⟩ := hd2.1 (by omega)
        have E := Aside0.mk e
        clear e hd2 HD
        constructor
        · go_enter Tryd.func32, Tryd.ntmps32
          go_wp2
          go_ret
          exact ⟨by rw [E.out]; rfl, rfl⟩
        · go_enter Tryd.func33, Tryd.ntmps33
          go_wp2
          go_ret
          exact ⟨rfl, rfl⟩
      · have hn' : decide (b < 0) = false := by simpa using hn
        obtain ⟨rfl, e⟩ := hd2.2 (by omega)
        have E := Aside0.mk e
        clear e hd2 HD
        constructor
        · go_enter Tryd.func32, Tryd.ntmps32
          go_wp2
          go_ret
          exact ⟨rfl, rfl⟩
        · go_enter Tryd.func33, Tryd.ntmps33
          go_wp2
          go_ret
          exact ⟨by rw [E.out]; rfl, rfl⟩

theorem RMul_any (a b : Int) (w : World) (ha : -2147483648 ≤ a) (ha' : a ≤ 2147483648) (hb : -2147483648 ≤ b) (hb' : b ≤ 2147483648) :
    Calls Tryd.prog 17 #[.int .i64 a, .int .i64 b] w fun e w' => e = .returned (.tuple #[.int .i64 (dn (a * b) 65536), .int .i64 (up (a * b) 65536)]) ∧ w = w' := by
  obtain ⟨hm, hm'⟩ := mul_bound ha ha' hb hb'
  have hD := fun w => (DownUp_any (a * b) 65536 w (by omega) hm hm')
  rw [show dlo (a * b) 65536 = dn (a * b) 65536 from rfl, show dhi (a * b) 65536 = up (a * b) 65536 from rfl] at hD
  go_enter Tryd.func17, Tryd.ntmps17
  go_wp2_with (first | (go_at_call 32; refine (hD _).1.mono ?_; rintro e w' ⟨rfl, rfl⟩) | (go_at_call 33; refine (hD _).2.mono ?_; rintro e w' ⟨rfl, rfl⟩))
  go_ret2
  exact ⟨rfl, rfl⟩
theorem RDiv_zero (a : Int) (w : World) :
    Calls Tryd.prog 19 #[.int .i64 a, .int .i64 0] w fun e w' => e = .returned (.tuple #[.int .i64 0, .int .i64 0, .int .i64 3]) ∧ w = w' := by
  go_enter Tryd.func19, Tryd.ntmps19
  go_wp2
  go_ret3
  exact ⟨rfl, rfl⟩
theorem RDiv_any (a b : Int) (w : World) (ha : -2147483648 ≤ a) (ha' : a ≤ 2147483648) (h0 : b ≠ 0) :
    Calls Tryd.prog 19 #[.int .i64 a, .int .i64 b] w fun e w' => e = .returned (.tuple #[.int .i64 (dlo (a * 65536) b), .int .i64 (dhi (a * 65536) b), .int .i64 0]) ∧ w = w' := by
  have hb0 : (b == 0) = false := by simpa using h0
  have hD := fun w => (DownUp_any (a * 65536) b w h0 (by omega) (by omega))
  go_enter Tryd.func19, Tryd.ntmps19
  go_wp2_with (first | (go_at_call 32; refine (hD _).1.mono ?_; rintro e w' ⟨rfl, rfl⟩) | (go_at_call 33; refine (hD _).2.mono ?_; rintro e w' ⟨rfl, rfl⟩))
  go_ret3
  exact ⟨rfl, rfl⟩
theorem RMulRatio_any (a n d : Int) (w : World) (ha : -2147483648 ≤ a) (ha' : a ≤ 2147483648) (hn : -1073741824 ≤ n) (hn' : n ≤ 1073741824) (hd : 1 ≤ d) (hd' : d ≤ 1073741824) :
    Calls Tryd.prog 23 #[.int .i64 a, .int .i64 n, .int .i64 d] w fun e w' => e = .returned (.tuple #[.int .i64 (dn (a * n) d), .int .i64 (up (a * n) d), .int .i64 0]) ∧ w = w' := by
  obtain ⟨hm, hm'⟩ := mul_bound ha ha' (by omega : -2147483648 ≤ n) (by omega)
  have t1 : decide (n < -1073741824) = false := by simp; omega
  have t2 : decide (1073741824 < n) = false := by simp; omega
  have t3 : decide (d < 1) = false := by simp; omega
  have t4 : decide (1073741824 < d) = false := by simp; omega
  have hD := fun w => (DownUp_any (a * n) d w (by omega) hm hm')
  rw [show dlo (a * n) d = dn (a * n) d from if_neg (by omega), show dhi (a * n) d = up (a * n) d from if_neg (by omega)] at hD
  go_enter Tryd.func23, Tryd.ntmps23
  go_wp2_with (first | (go_at_call 32; refine (hD _).1.mono ?_; rintro e w' ⟨rfl, rfl⟩) | (go_at_call 33; refine (hD _).2.mono ?_; rintro e w' ⟨rfl, rfl⟩))
  go_ret3
  exact ⟨rfl, rfl⟩
theorem RMulRatio_bad (a n d : Int) (w : World) (h : n < -1073741824 ∨ 1073741824 < n ∨ d < 1 ∨ 1073741824 < d) :
    Calls Tryd.prog 23 #[.int .i64 a, .int .i64 n, .int .i64 d] w fun e w' => e = .returned (.tuple #[.int .i64 0, .int .i64 0, .int .i64 1]) ∧ w = w' := by
  by_cases h1 : n < -1073741824
  · clear h
    go_enter Tryd.func23, Tryd.ntmps23
    go_wp2
    go_ret3
    exact ⟨rfl, rfl⟩
  by_cases h2 : 1073741824 < n
  · clear h
    go_enter Tryd.func23, Tryd.ntmps23
    go_wp2
    go_ret3
    exact ⟨rfl, rfl⟩
  by_cases h3 : d < 1
  · clear h
    go_enter Tryd.func23, Tryd.ntmps23
    go_wp2
    go_ret3
    exact ⟨rfl, rfl⟩
  have h4 : 1073741824 < d := by omega
  clear h
  go_enter Tryd.func23, Tryd.ntmps23
  go_wp2
  go_ret3
  exact ⟨rfl, rfl⟩
theorem RValid_any (x : Int) (w : World) :
    Calls Tryd.prog 14 #[.int .i64 x] w fun e w' => e = .returned (.bool (decide (-2147483648 < x) && decide (x < 2147483648))) ∧ w = w' := by
  by_cases h1 : -2147483648 < x
  · have h1' : decide (-2147483648 < x) = true := by simpa using h1
    clear h1
    go_enter Tryd.func14, Tryd.ntmps14
    go_wp2
    go_ret
    exact ⟨by simp [h1'], rfl⟩
  · have h1' : decide (-2147483648 < x) = false := by simpa using h1
    clear h1
    go_enter Tryd.func14, Tryd.ntmps14
    go_wp2
    go_ret
    exact ⟨by simp [h1'], rfl⟩
end Go.Proofs.YtbijolohpfkihaaDoor.Fx
