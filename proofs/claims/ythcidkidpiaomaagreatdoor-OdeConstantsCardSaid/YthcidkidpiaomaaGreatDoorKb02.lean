/- FxA -/
import Derived.Test.YthcidkidpiaomaaGreatDoorProg
import Derived.WalkKit
import Derived.WalkLawsBesides
import Derived.RegionTactic
import Derived.ChangeAlike
import Derived.Deep.QuietTactic
import Derived.BigQuiet
import Derived.KernelRfl
import Derived.Lib.Hide
import Derived.Test.YthcidkidpiaomaaGreatDoorKb01
section
set_option linter.unusedVariables false
namespace Go.Proofs.YthcidkidpiaomaaGreatDoor.Fx
open Go.RowKit Go.Proofs.YthcidkidpiaomaaGreatDoorW.PrintWords
theorem roundUp_pos (r : Int) (w : World) (h : 1 ≤ r) :
    Calls Tryz.prog 165 #[.int .i64 r] w fun e w' => e = .returned (.int .i64 1) ∧ w = w' := by
  go_enter Tryz.func165, Tryz.ntmps165
  go_wp2
  all_goals (go_ret; refine ⟨?_, rfl⟩)
  all_goals first | rfl | (have e : r = 1 := by omega); subst e; rfl
theorem roundUp_zero (w : World) :
    Calls Tryz.prog 165 #[.int .i64 0] w fun e w' => e = .returned (.int .i64 0) ∧ w = w' := by
  go_enter Tryz.func165, Tryz.ntmps165
  go_wp2
  go_ret; exact ⟨rfl, rfl⟩
def dn (a b : Int) : Int := a / b
def up (a b : Int) : Int := if a % b = 0 then a / b else a / b + 1
theorem up_exact {a b : Int} (h : a % b = 0) : up a b = a / b := by simp [up, h]
theorem up_next {a b : Int} (h : 1 ≤ a % b) : up a b = a / b + 1 := by unfold up; rw [if_neg (by omega)]
theorem floorCeil_pos (a b : Int) (w : World) (h0 : 0 ≤ a) (h1 : a ≤ 9223372036854775807) (hb : 2 ≤ b) (hb1 : b ≤ 9223372036854775807) (hr : 1 ≤ a % b) :
    Calls Tryz.prog 164 #[.int .i64 a, .int .i64 b, .func (Fn.func 165) #[] #[]] w
      fun e w' => e = .returned (.tuple #[.int .i64 (a / b), .int .i64 (up a b)]) ∧ Drawn0 w w' := by
  have hq : 0 ≤ a / b := Int.ediv_nonneg h0 (by omega)
  have hq1 : a / b ≤ 4611686018427387904 := Int.le_of_lt_add_one (Int.ediv_lt_of_lt_mul (by omega) (by omega))
  have hm : a % b < b := Int.emod_lt_of_pos _ (by omega)
  rw [up_next hr]
  go_enter Tryz.func164, Tryz.ntmps164
  go_wp2
  go_quiet (fail)
  go_wp2_with (first | (go_at_call 165; refine (roundUp_pos _ _ hr).mono ?_; rintro e w' ⟨rfl, rfl⟩))
  go_ret2
  exact ⟨rfl, ⟨_, rfl⟩⟩
theorem floorCeil_zero (a b : Int) (w : World) (h0 : 0 ≤ a) (h1 : a ≤ 9223372036854775807) (hb : 1 ≤ b) (hb1 : b ≤ 9223372036854775807) (hr : a % b = 0) :
    Calls Tryz.prog 164 #[.int .i64 a, .int .i64 b, .func (Fn.func 165) #[] #[]] w
      fun e w' => e = .returned (.tuple #[.int .i64 (a / b), .int .i64 (up a b)]) ∧ Drawn0 w w' := by
  have hq : 0 ≤ a / b := Int.ediv_nonneg h0 (by omega)
  have hq1 : a / b ≤ 9223372036854775807 := Int.le_trans (Int.ediv_le_self _ h0) h1
  rw [up_exact hr]
  go_enter Tryz.func164, Tryz.ntmps164
  go_wp2
  go_quiet (fail)
  go_wp2_with (first | (go_at_call 165; refine (roundUp_zero _).mono ?_; rintro e w' ⟨rfl, rfl⟩))
  go_ret2
  exact ⟨rfl, ⟨_, rfl⟩⟩
theorem floorCeil_neg (n b : Int) (w : World) (h0 : 1 ≤ n) (h1 : n ≤ 9223372036854775807) (hb : 2 ≤ b) (hb1 : b ≤ 9223372036854775807) (hr : 1 ≤ n % b) :
    Calls Tryz.prog 164 #[.int .i64 (-n), .int .i64 b, .func (Fn.func 165) #[] #[]] w
      fun e w' => e = .returned (.tuple #[.int .i64 (-(n / b) - 1), .int .i64 (-(n / b))]) ∧ Drawn0 w w' := by
  have hq : 0 ≤ n / b := Int.ediv_nonneg (by omega) (by omega)
  have hq1 : n / b ≤ 4611686018427387904 := Int.le_of_lt_add_one (Int.ediv_lt_of_lt_mul (by omega) (by omega))
  have hm : n % b < b := Int.emod_lt_of_pos _ (by omega)
  have ht : n.tdiv b = n / b := Int.tdiv_eq_ediv_of_nonneg (by omega)
  have hrr : 1 ≤ -(n % b) + b := by omega
  go_enter Tryz.func164, Tryz.ntmps164
  go_wp2
  go_quiet (fail)
  go_wp2_with (first | (go_at_call 165; refine (roundUp_pos _ _ hrr).mono ?_; rintro e w' ⟨rfl, rfl⟩))
  go_ret2
  exact ⟨rfl, ⟨_, rfl⟩⟩
theorem floorCeil_negz (n b : Int) (w : World) (h0 : 1 ≤ n) (h1 : n ≤ 9223372036854775807) (hb : 1 ≤ b) (hb1 : b ≤ 9223372036854775807) (hr : n % b = 0) :
    Calls Tryz.prog 164 #[.int .i64 (-n), .int .i64 b, .func (Fn.func 165) #[] #[]] w
      fun e w' => e = .returned (.tuple #[.int .i64 (-(n / b)), .int .i64 (-(n / b))]) ∧ Drawn0 w w' := by
  have hq : 0 ≤ n / b := Int.ediv_nonneg (by omega) (by omega)
  have hq1 : n / b ≤ 9223372036854775807 := Int.le_trans (Int.ediv_le_self _ (by omega)) h1
  have ht : n.tdiv b = n / b := Int.tdiv_eq_ediv_of_nonneg (by omega)
  go_enter Tryz.func164, Tryz.ntmps164
  go_wp2
  go_quiet (fail)
  go_wp2_with (first | (go_at_call 165; refine (roundUp_zero _).mono ?_; rintro e w' ⟨rfl, rfl⟩))
  go_ret2
  exact ⟨rfl, ⟨_, rfl⟩⟩
theorem neg_ediv_exact {n b : Int} (h : n % b = 0) : (-n) / b = -(n / b) ∧ (-n) % b = 0 := by
  have hd : b ∣ n := Int.dvd_of_emod_eq_zero h
  refine ⟨Int.neg_ediv_of_dvd hd, Int.emod_eq_zero_of_dvd ((Int.dvd_neg).2 hd)⟩
theorem neg_ediv_next {n b : Int} (hb : 2 ≤ b) (h : 1 ≤ n % b) : (-n) / b = -(n / b) - 1 ∧ 1 ≤ (-n) % b := by
  have e : -n = b * (-(n / b) - 1) + (b - n % b) := by
    have := Int.mul_ediv_add_emod n b
    rw [Int.mul_sub, Int.mul_neg]; omega
  have hm : n % b < b := Int.emod_lt_of_pos _ (by omega)
  have h1 : (-n) / b = -(n / b) - 1 := by
    generalize n / b = q at *
    generalize n % b = r at *
    rw [e, Int.mul_add_ediv_left _ _ (by omega), Int.ediv_eq_zero_of_lt (by omega) (by omega)]; omega
  refine ⟨h1, ?_⟩
  have := Int.mul_ediv_add_emod (-n) b
  rw [h1, Int.mul_sub, Int.mul_neg] at this
  have := Int.mul_ediv_add_emod n b
  omega
theorem floorCeil_any (a b : Int) (w : World) (h0 : -9223372036854775807 ≤ a) (h1 : a ≤ 9223372036854775807) (hb : 1 ≤ b) (hb1 : b ≤ 9223372036854775807) :
    Calls Tryz.prog 164 #[.int .i64 a, .int .i64 b, .func (Fn.func 165) #[] #[]] w
      fun e w' => e = .returned (.tuple #[.int .i64 (dn a b), .int .i64 (up a b)]) ∧ Drawn0 w w' := by
  unfold dn
  by_cases hz : a % b = 0
  · by_cases hn : 0 ≤ a
    · exact floorCeil_zero a b w hn h1 hb hb1 hz
    · obtain ⟨n, rfl⟩ : ∃ n, a = -n := ⟨-a, by omega⟩
      have hz' : n % b = 0 := by have := (neg_ediv_exact hz).2; rwa [Int.neg_neg] at this
      rw [up_exact hz, (neg_ediv_exact hz').1]
      exact floorCeil_negz n b w (by omega) (by omega) hb hb1 hz'
  · have h2 : 2 ≤ b := by
      rcases Int.lt_or_le b 2 with h | h
      · obtain rfl : b = 1 := by omega
        exact absurd (Int.emod_one a) hz
      · exact h
    have hp : 1 ≤ a % b := by have := Int.emod_nonneg a (show b ≠ 0 by omega); omega
    by_cases hn : 0 ≤ a
    · exact floorCeil_pos a b w hn h1 h2 hb1 hp
    · obtain ⟨n, rfl⟩ : ∃ n, a = -n := ⟨-a, by omega⟩
      have hp' : 1 ≤ n % b := by have := (neg_ediv_next h2 hp).2; rwa [Int.neg_neg] at this
      rw [up_next hp, (neg_ediv_next h2 hp').1, show -(n / b) - 1 + 1 = -(n / b) from by omega]
      exact floorCeil_neg n b w (by omega) (by omega) h2 hb1 hp'
def dlo (a b : Int) : Int := if b < 0 then dn (-a) (-b) else dn a b
def dhi (a b : Int) : Int := if b < 0 then up (-a) (-b) else up a b
theorem divide_any (a b : Int) (w : World) (h0 : -9223372036854775807 ≤ a) (h1 : a ≤ 9223372036854775807) (hb : b ≠ 0) (hb0 : -9223372036854775807 ≤ b) (hb1 : b ≤ 9223372036854775807) :
    Calls Tryz.prog 150 #[.int .i64 a, .int .i64 b] w fun e w' => e = .returned (.tuple #[.int .i64 (dlo a b), .int .i64 (dhi a b)]) ∧ Drawn0 w w' := by
  by_cases hn : b < 0
  · simp only [dlo, dhi, if_pos hn]
    go_enter Tryz.func150, Tryz.ntmps150
    go_wp2_with (first | (go_at_call 164; refine (floorCeil_any (-a) (-b) _ (by omega) (by omega) (by omega) (by omega)).mono ?_; rintro e w' ⟨rfl, hd⟩))
    go_ret2
    exact ⟨rfl, hd⟩
  · simp only [dlo, dhi, if_neg hn]
    go_enter Tryz.func150, Tryz.ntmps150
    go_wp2_with (first | (go_at_call 164; refine (floorCeil_any a b _ (by omega) (by omega) (by omega) (by omega)).mono ?_; rintro e w' ⟨rfl, hd⟩))
    go_ret2
    exact ⟨rfl, hd⟩
theorem mul_bound {a b : Int} (ha : -2147483648 ≤ a) (ha' : a ≤ 2147483648) (hb : -2147483648 ≤ b) (hb' : b ≤ 2147483648) : -4611686018427387904 ≤ a * b ∧ a * b ≤ 4611686018427387904 := by
  constructor
  · rcases Int.le_total 0 a with h | h
    · have := Int.mul_le_mul_of_nonneg_left hb h; omega
    · have := Int.mul_le_mul_of_nonpos_left h hb'; omega
  · rcases Int.le_total 0 a with h | h
    · have := Int.mul_le_mul_of_nonneg_left hb' h; omega
    · have := Int.mul_le_mul_of_nonpos_left h hb; omega
theorem Mul_any (a b : Int) (w : World) (ha : -2147483648 ≤ a) (ha' : a ≤ 2147483648) (hb : -2147483648 ≤ b) (hb' : b ≤ 2147483648) :
    Calls Tryz.prog 119 #[.int .i64 a, .int .i64 b] w fun e w' => e = .returned (.tuple #[.int .i64 (dn (a * b) 65536), .int .i64 (up (a * b) 65536)]) ∧ Drawn0 w w' := by
  obtain ⟨hm, hm'⟩ := mul_bound ha ha' hb hb'
  go_enter Tryz.func119, Tryz.ntmps119
  have HD := fun w => divide_any (a * b) 65536 w (by omega) (by omega) (by omega) (by omega) (by omega)
  rw [show dlo (a * b) 65536 = dn (a * b) 65536 from rfl, show dhi (a * b) 65536 = up (a * b) 65536 from rfl] at HD
  go_wp2_with (first | (go_at_call 150; refine (HD _).mono ?_; rintro e w' ⟨rfl, hd⟩))
  go_ret2
  exact ⟨rfl, hd⟩
theorem Div_any (a b : Int) (w : World) (ha : -2147483648 ≤ a) (ha' : a ≤ 2147483648) (hb : -2147483648 ≤ b) (hb' : b ≤ 2147483648) (h0 : b ≠ 0) :
    Calls Tryz.prog 149 #[.int .i64 a, .int .i64 b] w fun e w' => e = .returned (.tuple #[.int .i64 (dlo (a * 65536) b), .int .i64 (dhi (a * 65536) b), .int .i64 0]) ∧ Drawn0 w w' := by
  have hb0 : (b == 0) = false := by simpa using h0
  go_enter Tryz.func149, Tryz.ntmps149
  go_wp2_with (first | (go_at_call 150; refine (divide_any (a * 65536) b _ (by omega) (by omega) (by omega) (by omega) (by omega)).mono ?_; rintro e w' ⟨rfl, hd⟩))
  go_ret3
  exact ⟨rfl, hd⟩
theorem Valid_any (x : Int) (w : World) :
    Calls Tryz.prog 141 #[.int .i64 x] w fun e w' => e = .returned (.bool (decide (-2147483648 < x) && decide (x < 2147483648))) ∧ Drawn0 w w' := by
  by_cases h1 : -2147483648 < x
  · have h1' : decide (-2147483648 < x) = true := by simpa using h1
    clear h1
    go_enter Tryz.func141, Tryz.ntmps141
    go_wp2
    go_ret
    exact ⟨by simp [h1'], Drawn0.refl _⟩
  · have h1' : decide (-2147483648 < x) = false := by simpa using h1
    clear h1
    go_enter Tryz.func141, Tryz.ntmps141
    go_wp2
    go_ret
    exact ⟨by simp [h1'], Drawn0.refl _⟩
end Go.Proofs.YthcidkidpiaomaaGreatDoor.Fx
end
