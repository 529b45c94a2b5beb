/- Plain laws of the checksum: one bit's step is additive and one to one; eight steps are one look-up in the table. -/
import Derived.ProofKit
set_option linter.unusedVariables false
namespace Go.Proofs.YteljhjljigbcjaaGreatDoor.Cv

/-- one bit's step -/
def fr (c : Nat) : Nat := c >>> 1 ^^^ (if c % 2 = 1 then 3988292384 else 0)
def frs : Nat → Nat → Nat
  | 0, c => c
  | k + 1, c => frs k (fr c)

theorem odd_xor (a b : Nat) : (a ^^^ b) % 2 = (a % 2 + b % 2) % 2 := by
  have h : (a ^^^ b) % 2 ^ 1 = a % 2 ^ 1 ^^^ b % 2 ^ 1 := Nat.xor_mod_two_pow
  rw [show (2 : Nat) ^ 1 = 2 from rfl] at h
  rw [h]
  rcases Nat.mod_two_eq_zero_or_one a with ha | ha <;> rcases Nat.mod_two_eq_zero_or_one b with hb | hb <;> rw [ha, hb] <;> rfl
theorem xor_lc (a b c : Nat) : a ^^^ (b ^^^ c) = b ^^^ (a ^^^ c) := by rw [← Nat.xor_assoc, Nat.xor_comm a b, Nat.xor_assoc]
theorem xor_zero_eq {a b : Nat} (h : a ^^^ b = 0) : a = b := by
  have h5 := congrArg (· ^^^ b) h
  simpa [Nat.xor_assoc] using h5
theorem fr_xor (a b : Nat) : fr (a ^^^ b) = fr a ^^^ fr b := by
  unfold fr
  rw [Nat.shiftRight_xor_distrib, odd_xor]
  rcases Nat.mod_two_eq_zero_or_one a with ha | ha <;> rcases Nat.mod_two_eq_zero_or_one b with hb | hb <;> rw [ha, hb] <;> simp [Nat.xor_assoc]
  · rw [Nat.xor_comm 3988292384]
  · rw [Nat.xor_comm 3988292384, Nat.xor_assoc, Nat.xor_self, Nat.xor_zero]
theorem frs_xor : ∀ (k a b : Nat), frs k (a ^^^ b) = frs k a ^^^ frs k b := by
  intro k
  induction k with
  | zero => intro a b; rfl
  | succ k ih => intro a b; simp only [frs]; rw [fr_xor, ih]
theorem fr_lt {c : Nat} (h : c < 2 ^ 32) : fr c < 2 ^ 32 := by
  unfold fr
  have h1 : c >>> 1 < 2 ^ 32 := by rw [Nat.shiftRight_eq_div_pow]; omega
  split
  · exact Nat.xor_lt_two_pow h1 (by decide)
  · rw [Nat.xor_zero]; exact h1
theorem frs_lt : ∀ (k c : Nat), c < 2 ^ 32 → frs k c < 2 ^ 32 := by
  intro k
  induction k with
  | zero => intro c h; exact h
  | succ k ih => intro c h; exact ih _ (fr_lt h)
theorem fr_zero {c : Nat} (h : c < 2 ^ 32) (hz : fr c = 0) : c = 0 := by
  unfold fr at hz
  rw [Nat.shiftRight_eq_div_pow] at hz
  split at hz
  · have := xor_zero_eq hz
    omega
  · rw [Nat.xor_zero] at hz
    omega
theorem frs_zero : ∀ (k c : Nat), c < 2 ^ 32 → frs k c = 0 → c = 0 := by
  intro k
  induction k with
  | zero => intro c h hz; exact hz
  | succ k ih => intro c h hz; exact fr_zero h (ih _ (fr_lt h) hz)
theorem fr_even (m : Nat) : fr (2 * m) = m := by
  unfold fr
  rw [if_neg (by omega), Nat.xor_zero, Nat.shiftRight_eq_div_pow]; omega
theorem frs_shift (c : Nat) : frs 8 (256 * c) = c := by
  simp only [frs]
  rw [show 256 * c = 2 * (2 * (2 * (2 * (2 * (2 * (2 * (2 * c))))))) from by omega]
  simp only [fr_even]
/-- a byte's step by the table -/
theorem step_tab (c x : Nat) (hx : x < 256) : frs 8 (c ^^^ x) = c >>> 8 ^^^ frs 8 (c % 256 ^^^ x) := by
  have e : c = 256 * (c / 256) ^^^ c % 256 := by
    have := Nat.two_pow_add_eq_or_of_lt (i := 8) (b := c % 256) (by omega) (c / 256)
    apply Nat.eq_of_testBit_eq
    intro i
    rw [Nat.testBit_xor, show 256 * (c / 256) = 2 ^ 8 * (c / 256) from rfl, Nat.testBit_two_pow_mul, show c % 256 = c % 2 ^ 8 from rfl, Nat.testBit_mod_two_pow]
    by_cases h : i < 8
    · simp [h, Nat.not_le.2 h]
    · rw [show c / 256 = c / 2 ^ 8 from rfl, Nat.testBit_div_two_pow]
      simp [h, Nat.not_lt.1 h]
  have e2 : c ^^^ x = 256 * (c / 256) ^^^ (c % 256 ^^^ x) := by
    rw [← Nat.xor_assoc, ← e]
  rw [e2, frs_xor, frs_shift, Nat.shiftRight_eq_div_pow]

/-- the register behind a text -/
def crcS : List UInt8 → Nat → Nat
  | [], c => c
  | x :: r, c => crcS r (frs 8 (c ^^^ x.toNat))
/-- the checksum -/
def crc (l : List UInt8) : Nat := crcS l 4294967295 ^^^ 4294967295

theorem crcS_lt : ∀ (l : List UInt8) (c : Nat), c < 2 ^ 32 → crcS l c < 2 ^ 32 := by
  intro l
  induction l with
  | nil => intro c h; exact h
  | cons x r ih =>
    intro c h
    exact ih _ (frs_lt 8 _ (Nat.xor_lt_two_pow h (Nat.lt_of_lt_of_le x.toNat_lt (by decide))))
theorem crcS_xor : ∀ (l m : List UInt8) (c d : Nat), l.length = m.length → crcS (List.zipWith (· ^^^ ·) l m) (c ^^^ d) = crcS l c ^^^ crcS m d := by
  intro l
  induction l with
  | nil => intro m c d h; cases m with
    | nil => rfl
    | cons y s => simp at h
  | cons x r ih =>
    intro m c d h
    cases m with
    | nil => simp at h
    | cons y s =>
      simp only [List.zipWith_cons_cons, crcS]
      rw [← ih s _ _ (by simpa using h), ← frs_xor, UInt8.toNat_xor]
      congr 2
      rw [Nat.xor_assoc, Nat.xor_assoc]
      congr 1
      rw [← Nat.xor_assoc, ← Nat.xor_assoc, Nat.xor_comm d]
theorem crcS_inj : ∀ (l : List UInt8) (c d : Nat), c < 2 ^ 32 → d < 2 ^ 32 → crcS l c = crcS l d → c = d := by
  intro l
  induction l with
  | nil => intro c d _ _ h; exact h
  | cons x r ih =>
    intro c d hc hd h
    have hx : x.toNat < 2 ^ 32 := Nat.lt_of_lt_of_le x.toNat_lt (by decide)
    have h1 := ih _ _ (frs_lt 8 _ (Nat.xor_lt_two_pow hc hx)) (frs_lt 8 _ (Nat.xor_lt_two_pow hd hx)) h
    have h2 : frs 8 ((c ^^^ x.toNat) ^^^ (d ^^^ x.toNat)) = 0 := by rw [frs_xor, h1, Nat.xor_self]
    have h3 := frs_zero 8 _ (Nat.xor_lt_two_pow (Nat.xor_lt_two_pow hc hx) (Nat.xor_lt_two_pow hd hx)) h2
    have h4 := xor_zero_eq h3
    have h5 := congrArg (· ^^^ x.toNat) h4
    simpa [Nat.xor_assoc] using h5
end Go.Proofs.YteljhjljigbcjaaGreatDoor.Cv
