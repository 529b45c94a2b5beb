/- Bit operations on unsigned numbers as the walk shows them: xor as the plain one, the zigzag of a varint. -/
import Derived.Laws.BitsLemmas
import Derived.ProofKit
import Derived.Test.YteljhjljigbcjaaGreatDoorCvM
set_option linter.unusedVariables false
namespace Go.Proofs.YteljhjljigbcjaaGreatDoor.Cv
open Go.RowKit

theorem bits_xor_nat (k : IntKind) (j : Nat) (hj : j ≤ k.bits) (hk : ∀ n : Int, 0 ≤ n → n < 2 ^ j → k.wrap n = n) (a b : Nat) (ha : a < 2 ^ j) (hb : b < 2 ^ j) :
    bits .xor k a b = ((a ^^^ b : Nat) : Int) := by
  have hp : 2 ^ j ≤ 2 ^ k.bits := Nat.pow_le_pow_right (by decide) hj
  have ha' : a % 2 ^ k.bits = a := Nat.mod_eq_of_lt (Nat.lt_of_lt_of_le ha hp)
  have hb' : b % 2 ^ k.bits = b := Nat.mod_eq_of_lt (Nat.lt_of_lt_of_le hb hp)
  have cast : ∀ n : Nat, n < 2 ^ j → ((n : Nat) : Int) < 2 ^ j := fun n h => by exact_mod_cast h
  simp only [bits, BitVec.ofInt_natCast, BitVec.toNat_xor, BitVec.toNat_ofNat, ha', hb']
  exact hk _ (Int.natCast_nonneg _) (cast _ (Nat.xor_lt_two_pow ha hb))
theorem wrap_u64 (n : Int) : IntKind.u64.wrap n = n % 18446744073709551616 := by simp [IntKind.wrap, IntKind.bits, IntKind.signed]
theorem wraps_u64 (n : Int) (h0 : 0 ≤ n) (h1 : n < 2 ^ 64) : IntKind.u64.wrap n = n := by rw [wrap_u64]; omega
theorem wraps_u32 (n : Int) (h0 : 0 ≤ n) (h1 : n < 2 ^ 32) : IntKind.u32.wrap n = n := by rw [IntKind.wrap_u32]; omega
theorem xor_ones (a : Nat) (h : a < 2 ^ 64) : a ^^^ 18446744073709551615 = 18446744073709551615 - a := by
  have e := congrArg BitVec.toNat (BitVec.xor_allOnes (x := BitVec.ofNat 64 a))
  rw [BitVec.toNat_xor, BitVec.toNat_allOnes, BitVec.toNat_not, BitVec.toNat_ofNat, Nat.mod_eq_of_lt h] at e
  exact e
/-- the zigzag -/
theorem zig_bits (n : Int) (n0 : -9223372036854775808 ≤ n) (n1 : n ≤ 9223372036854775807) :
    bits BinOp.xor IntKind.u64 (IntKind.u64.wrap (wrap64 (n * 2))) (IntKind.u64.wrap (n / 9223372036854775808)) = (zig n : Nat) := by
  have e1 : IntKind.u64.wrap (wrap64 (n * 2)) = (n * 2) % 18446744073709551616 := by rw [wrap_u64]; unfold wrap64; omega
  rw [e1, wrap_u64]
  unfold zig
  by_cases h : 0 ≤ n
  · rw [if_pos h, show n / 9223372036854775808 % 18446744073709551616 = ((0 : Nat) : Int) from by omega, show n * 2 % 18446744073709551616 = ((2 * n.toNat : Nat) : Int) from by omega, bits_xor_nat .u64 64 (by decide) wraps_u64 _ _ (by omega) (by decide), Nat.xor_zero]
  · rw [if_neg h, show n / 9223372036854775808 % 18446744073709551616 = ((18446744073709551615 : Nat) : Int) from by omega, show n * 2 % 18446744073709551616 = ((18446744073709551616 - 2 * (-n).toNat : Nat) : Int) from by omega, bits_xor_nat .u64 64 (by decide) wraps_u64 _ _ (by omega) (by decide), xor_ones _ (by omega)]
    congr 1; omega
end Go.Proofs.YteljhjljigbcjaaGreatDoor.Cv
