/- Plain arithmetic of package fixed: the integer square root and Newton's iteration. No program in it. -/
import Derived.Lib.Hide
set_option linter.unusedVariables false
namespace Go.Proofs.YtbijolohpfkihaaDoor.Fx

/-- the integer square root -/
def isqN : Nat → Nat
  | 0 => 0
  | n + 1 => if (isqN n + 1) * (isqN n + 1) ≤ n + 1 then isqN n + 1 else isqN n
theorem isqN_spec (n : Nat) : isqN n * isqN n ≤ n ∧ n < (isqN n + 1) * (isqN n + 1) := by
  induction n with
  | zero => simp [isqN]
  | succ n ih =>
    obtain ⟨h1, h2⟩ := ih
    unfold isqN
    split
    · rename_i h
      refine ⟨h, ?_⟩
      have e : (isqN n + 1 + 1) * (isqN n + 1 + 1) = (isqN n + 1) * (isqN n + 1) + 2 * (isqN n + 1) + 1 := by
        generalize isqN n + 1 = k
        rw [Nat.add_mul, Nat.mul_add]; omega
      omega
    · exact ⟨by omega, by omega⟩
def isq (n : Int) : Int := (isqN n.toNat : Nat)
theorem isq_nonneg (n : Int) : 0 ≤ isq n := by unfold isq; omega
theorem isq_spec {n : Int} (h : 0 ≤ n) : isq n * isq n ≤ n ∧ n < (isq n + 1) * (isq n + 1) := by
  obtain ⟨m, rfl⟩ := Int.eq_ofNat_of_zero_le h
  have := isqN_spec m
  unfold isq
  rw [Int.toNat_natCast]
  exact ⟨by exact_mod_cast this.1, by exact_mod_cast this.2⟩
theorem sq_lt {a b : Int} (ha : 0 ≤ a) (h : a < b) : a * a < b * b := by
  have h1 : a * a ≤ a * b := Int.mul_le_mul_of_nonneg_left (by omega) ha
  have h2 : a * b < b * b := Int.mul_lt_mul_of_pos_right h (by omega)
  omega
theorem sq_le {a b : Int} (ha : 0 ≤ a) (h : a ≤ b) : a * a ≤ b * b := by
  rcases Int.lt_or_eq_of_le h with h | h
  · exact Int.le_of_lt (sq_lt ha h)
  · subst h; exact Int.le_refl _
theorem lt_of_sq {a b : Int} (hb : 0 ≤ b) (h : a * a < b * b) : a < b := by
  rcases Int.lt_or_le a b with g | g
  · exact g
  · have := sq_le hb g; omega
theorem le_of_sq {a b : Int} (hb : 0 ≤ b) (h : a * a ≤ b * b) : a ≤ b := by
  rcases Int.lt_or_le b a with g | g
  · have := sq_lt hb g; omega
  · exact g
theorem isq_unique {n s : Int} (hs : 0 ≤ s) (h1 : s * s ≤ n) (h2 : n < (s + 1) * (s + 1)) : isq n = s := by
  have hn : 0 ≤ n := Int.le_trans (Int.mul_nonneg hs hs) h1
  obtain ⟨a, b⟩ := isq_spec hn
  have c := isq_nonneg n
  have d1 : isq n < s + 1 := lt_of_sq (by omega) (by omega)
  have d2 : s < isq n + 1 := lt_of_sq (by omega) (by omega)
  omega
theorem isq_le_of_lt_sq {n b : Int} (hn : 0 ≤ n) (hb : 0 ≤ b) (h : n < (b + 1) * (b + 1)) : isq n ≤ b := by
  have := (isq_spec hn).1
  have := lt_of_sq (a := isq n) (b := b + 1) (by omega) (by omega)
  omega

/-- One round of Newton's iteration from above stays above. -/
theorem newton_above {n x : Int} (hn : 0 ≤ n) (hx : 0 < x) : isq n ≤ (x + n / x) / 2 := by
  have hs := isq_nonneg n
  obtain ⟨h1, _⟩ := isq_spec hn
  have hdm := Int.mul_ediv_add_emod n x
  have hm := Int.emod_lt_of_pos n hx
  have hm0 := Int.emod_nonneg n (show x ≠ 0 by omega)
  have hq : 0 ≤ n / x := Int.ediv_nonneg hn (by omega)
  generalize isq n = s at *
  generalize n / x = q at *
  generalize n % x = r at *
  -- 2 s ≤ x + q, else s*s > n
  rcases Int.lt_or_le (x + q) (2 * s) with h | h
  · exfalso
    -- x + q + 1 ≤ 2 s ; n < x (q + 1) ; 4 x (q+1) ≤ (x + q + 1)^2 ≤ 4 s^2
    have e1 : n < x * (q + 1) := by rw [Int.mul_add]; omega
    have e2 : 4 * (x * (q + 1)) ≤ (x + (q + 1)) * (x + (q + 1)) := by
      generalize q + 1 = p
      have : 0 ≤ (x - p) * (x - p) := by
        rcases Int.le_total 0 (x - p) with g | g
        · exact Int.mul_nonneg g g
        · exact Int.mul_nonneg_of_nonpos_of_nonpos g g
      rw [Int.sub_mul, Int.mul_sub, Int.mul_sub] at this
      rw [Int.add_mul, Int.mul_add, Int.mul_add]
      have := Int.mul_comm p x
      omega
    have e3 : (x + (q + 1)) * (x + (q + 1)) ≤ (2 * s) * (2 * s) := sq_le (by omega) (by omega)
    have e4 : (2 * s) * (2 * s) = 4 * (s * s) := by rw [Int.mul_assoc, Int.mul_left_comm s 2 s]; omega
    omega
  · omega
/-- Where the iteration does not fall, it has come to the root. -/
theorem newton_stop {n x : Int} (hn : 0 ≤ n) (hx : 0 < x) (ha : isq n ≤ x) (h : x ≤ (x + n / x) / 2) : isq n = x := by
  obtain ⟨h1, h2⟩ := isq_spec hn
  have hdm := Int.mul_ediv_add_emod n x
  have hm0 := Int.emod_nonneg n (show x ≠ 0 by omega)
  have hq : x ≤ n / x := by omega
  have : x * x ≤ x * (n / x) := Int.mul_le_mul_of_nonneg_left hq (by omega)
  have h3 : x < isq n + 1 := lt_of_sq (by have := isq_nonneg n; omega) (by omega)
  omega

/-- the root's ceiling -/
def rup (n : Int) : Int := if isq n * isq n < n then isq n + 1 else isq n
end Go.Proofs.YtbijolohpfkihaaDoor.Fx
