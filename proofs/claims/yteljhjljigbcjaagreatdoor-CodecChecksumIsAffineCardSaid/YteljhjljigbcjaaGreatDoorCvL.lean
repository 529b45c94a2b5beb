/- Plain laws of the checksum: it is affine, and one byte changed changes it. -/
import Derived.Test.YteljhjljigbcjaaGreatDoorCvC
set_option linter.unusedVariables false
namespace Go.Proofs.YteljhjljigbcjaaGreatDoor.Cv

theorem zip_zero : ∀ (l : List UInt8), List.zipWith (· ^^^ ·) l (List.replicate l.length 0) = l := by
  intro l
  induction l with
  | nil => rfl
  | cons x r ih => simp only [List.length_cons, List.replicate_succ, List.zipWith_cons_cons, ih, UInt8.xor_zero]
/-- the checksum is affine -/
theorem crc_affine (a b : List UInt8) (h : a.length = b.length) : crc (List.zipWith (· ^^^ ·) a b) = crc a ^^^ crc b ^^^ crc (List.replicate a.length 0) := by
  have h1 := crcS_xor a b 4294967295 4294967295 h
  have hl : (List.zipWith (· ^^^ ·) a b).length = a.length := by simp; omega
  have h2 := crcS_xor (List.zipWith (· ^^^ ·) a b) (List.replicate a.length 0) (4294967295 ^^^ 4294967295) 4294967295 (by rw [hl]; simp)
  have h3 := zip_zero (List.zipWith (· ^^^ ·) a b)
  rw [hl] at h3
  rw [h3, h1, Nat.xor_self, Nat.zero_xor] at h2
  unfold crc
  rw [h2]
  obtain ⟨x, hx⟩ : ∃ x, crcS a 4294967295 = x := ⟨_, rfl⟩
  obtain ⟨y, hy⟩ : ∃ y, crcS b 4294967295 = y := ⟨_, rfl⟩
  obtain ⟨z, hz⟩ : ∃ z, crcS (List.replicate a.length 0) 4294967295 = z := ⟨_, rfl⟩
  rw [hx, hy, hz]
  generalize 4294967295 = F
  rw [Nat.xor_assoc x F, xor_lc F y F, Nat.xor_self, Nat.xor_zero, ← Nat.xor_assoc (x ^^^ y) z F]
theorem crcS_append : ∀ (l m : List UInt8) (c : Nat), crcS (l ++ m) c = crcS m (crcS l c) := by
  intro l
  induction l with
  | nil => intro m c; rfl
  | cons x r ih => intro m c; exact ih m _
/-- one byte changed changes the checksum -/
theorem crc_change (p r : List UInt8) (x y : UInt8) (h : crc (p ++ x :: r) = crc (p ++ y :: r)) : x = y := by
  have h1 : crcS (p ++ x :: r) 4294967295 = crcS (p ++ y :: r) 4294967295 := by
    have := congrArg (· ^^^ 4294967295) h
    simpa [crc, Nat.xor_assoc] using this
  rw [crcS_append, crcS_append] at h1
  simp only [crcS] at h1
  obtain ⟨c, hc⟩ : ∃ c, crcS p 4294967295 = c := ⟨_, rfl⟩
  have hcl : c < 2 ^ 32 := by rw [← hc]; exact crcS_lt p _ (by decide)
  rw [hc] at h1
  have hx : x.toNat < 2 ^ 32 := Nat.lt_of_lt_of_le x.toNat_lt (by decide)
  have hy : y.toNat < 2 ^ 32 := Nat.lt_of_lt_of_le y.toNat_lt (by decide)
  have h2 := crcS_inj r _ _ (frs_lt 8 _ (Nat.xor_lt_two_pow hcl hx)) (frs_lt 8 _ (Nat.xor_lt_two_pow hcl hy)) h1
  have h3 : frs 8 ((c ^^^ x.toNat) ^^^ (c ^^^ y.toNat)) = 0 := by rw [frs_xor, h2, Nat.xor_self]
  have h4 := frs_zero 8 _ (Nat.xor_lt_two_pow (Nat.xor_lt_two_pow hcl hx) (Nat.xor_lt_two_pow hcl hy)) h3
  have h5 := xor_zero_eq h4
  have h6 := congrArg (c ^^^ ·) h5
  simp only [← Nat.xor_assoc, Nat.xor_self, Nat.zero_xor] at h6
  exact UInt8.toNat_inj.1 h6
end Go.Proofs.YteljhjljigbcjaaGreatDoor.Cv
