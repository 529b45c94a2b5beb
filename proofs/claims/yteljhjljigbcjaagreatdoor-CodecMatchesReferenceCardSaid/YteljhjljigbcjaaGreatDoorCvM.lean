/- Plain laws of the codec's varints: what the encoding is, what the decoder answers, and that the one undoes the other. -/
import Derived.ProofKit
set_option linter.unusedVariables false
namespace Go.Proofs.YteljhjljigbcjaaGreatDoor.Cv

/-- seven bits a byte, the lowest first, the top bit set on all but the last -/
def enc (u : Nat) : List UInt8 :=
  if h : u < 128 then [UInt8.ofNat u] else UInt8.ofNat (u % 128 + 128) :: enc (u / 128)
termination_by u
decreasing_by omega

/-- the number behind the zigzag -/
def zig (n : Int) : Nat := if 0 ≤ n then 2 * n.toNat else 2 * (-n).toNat - 1
def zag (u : Nat) : Int := if u % 2 = 0 then (u / 2 : Nat) else -((u / 2 : Nat) : Int) - 1

theorem zag_zig (n : Int) : zag (zig n) = n := by
  unfold zag zig
  by_cases h : 0 ≤ n
  · rw [if_pos h, if_pos (by omega)]; omega
  · rw [if_neg h, if_neg (by omega)]; omega
theorem zig_lt (n : Int) (h0 : -9223372036854775808 ≤ n) (h1 : n ≤ 9223372036854775807) : zig n < 2 ^ 64 := by
  unfold zig; split <;> omega
theorem zig_zag (u : Nat) : zig (zag u) = u := by
  unfold zag zig
  by_cases h : u % 2 = 0
  · rw [if_pos h, if_pos (by omega)]; omega
  · rw [if_neg h, if_neg (by omega)]; omega

/-- what a read of a varint answers: the number and how many bytes it took, or the error -/
inductive Rd
  | ok (u k : Nat)
  | bad (e : Int)

/-- the decoder: i bytes are read, acc is what they hold -/
def dec : List UInt8 → Nat → Nat → Rd
  | [], _, _ => .bad 271
  | x :: r, i, acc =>
    if (i = 9 ∧ x.toNat ≠ 1) ∨ (0 < i ∧ x.toNat = 0) then .bad 272
    else if x.toNat < 128 then .ok (acc + x.toNat * 128 ^ i) (i + 1)
    else dec r (i + 1) (acc + x.toNat % 128 * 128 ^ i)

theorem enc_small {u : Nat} (h : u < 128) : enc u = [UInt8.ofNat u] := by rw [enc, dif_pos h]
theorem enc_big {u : Nat} (h : ¬ u < 128) : enc u = UInt8.ofNat (u % 128 + 128) :: enc (u / 128) := by rw [enc, dif_neg h]
theorem toNat_of (n : Nat) (h : n < 256) : (UInt8.ofNat n).toNat = n := by
  rw [UInt8.toNat_ofNat']; exact Nat.mod_eq_of_lt h
theorem enc_pos (u : Nat) : 1 ≤ (enc u).length := by
  by_cases h : u < 128
  · rw [enc_small h]; simp
  · rw [enc_big h]; simp
theorem enc_len : ∀ (k u : Nat), u < 128 ^ k → 1 ≤ k → (enc u).length ≤ k := by
  intro k
  induction k with
  | zero => intro u _ h; omega
  | succ k ih =>
    intro u hu _
    by_cases h : u < 128
    · rw [enc_small h]; simp
    · rw [enc_big h, List.length_cons]
      rw [Nat.pow_succ] at hu
      rcases Nat.eq_zero_or_pos k with hk | hk
      · subst hk; simp at hu; omega
      · have := ih (u / 128) (by omega) hk
        omega
/-- the decoder undoes the encoder, whatever stands behind -/
theorem dec_enc (rest : List UInt8) : ∀ (u i acc : Nat), u * 128 ^ i < 2 ^ 64 → i ≤ 9 → (0 < i → 0 < u) → dec (enc u ++ rest) i acc = .ok (acc + u * 128 ^ i) (i + (enc u).length) := by
  intro u
  induction u using Nat.strongRecOn with
  | ind u ih =>
    intro i acc hu hi hz
    have h9 : i = 9 → u < 2 := by
      intro h
      subst h
      rw [show (128 : Nat) ^ 9 = 9223372036854775808 from by decide] at hu
      omega
    by_cases h : u < 128
    · rw [enc_small h]
      simp only [List.cons_append, List.nil_append, dec, List.length_cons, List.length_nil, toNat_of u (by omega)]
      rw [if_neg (by omega), if_pos h]
    · rw [enc_big h]
      simp only [List.cons_append, dec, List.length_cons, toNat_of (u % 128 + 128) (by omega)]
      have hi9 : i ≠ 9 := fun e => h (by have := h9 e; omega)
      rw [if_neg (by omega), if_neg (by omega)]
      have hs : u / 128 * 128 ^ (i + 1) + u % 128 * 128 ^ i = u * 128 ^ i := by
        rw [Nat.pow_succ, Nat.mul_comm (128 ^ i) 128, ← Nat.mul_assoc, ← Nat.add_mul]
        congr 1; omega
      rw [ih (u / 128) (by omega) (i + 1) _ (by omega) (by omega) (fun _ => by omega), show (u % 128 + 128) % 128 = u % 128 from by omega]
      congr 1 <;> omega
/-- a proper prefix of an encoding is cut -/
theorem dec_cut : ∀ (u i acc k : Nat), u * 128 ^ i < 2 ^ 64 → i ≤ 9 → (0 < i → 0 < u) → k < (enc u).length → dec ((enc u).take k) i acc = .bad 271 := by
  intro u
  induction u using Nat.strongRecOn with
  | ind u ih =>
    intro i acc k hu hi hz hk
    cases k with
    | zero => rfl
    | succ k =>
      have h9 : i = 9 → u < 2 := by
        intro h
        subst h
        rw [show (128 : Nat) ^ 9 = 9223372036854775808 from by decide] at hu
        omega
      by_cases h : u < 128
      · rw [enc_small h] at hk; simp at hk
      · rw [enc_big h, List.length_cons] at hk
        rw [enc_big h]
        simp only [List.take_succ_cons, dec, toNat_of (u % 128 + 128) (by omega)]
        have hi9 : i ≠ 9 := fun e => h (by have := h9 e; omega)
        rw [if_neg (by omega), if_neg (by omega)]
        have hs : u / 128 * 128 ^ (i + 1) + u % 128 * 128 ^ i = u * 128 ^ i := by
          rw [Nat.pow_succ, Nat.mul_comm (128 ^ i) 128, ← Nat.mul_assoc, ← Nat.add_mul]
          congr 1; omega
        exact ih (u / 128) (by omega) (i + 1) _ k (by omega) (by omega) (fun _ => by omega) (by omega)
/-- the varint of a number -/
def vint (n : Int) : List UInt8 := enc (zig n)
theorem vint_len (n : Int) (h0 : -9223372036854775808 ≤ n) (h1 : n ≤ 9223372036854775807) : 1 ≤ (vint n).length ∧ (vint n).length ≤ 10 :=
  ⟨enc_pos _, enc_len 10 _ (Nat.lt_of_lt_of_le (zig_lt n h0 h1) (by decide)) (by omega)⟩
end Go.Proofs.YteljhjljigbcjaaGreatDoor.Cv
