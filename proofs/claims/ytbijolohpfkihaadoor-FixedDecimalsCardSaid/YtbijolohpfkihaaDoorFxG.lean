/- The reference's Format answers as 'fmtL': plain laws over the printed functions. -/
import Derived.Test.YtbijolohpfkihaaDoorPFormatx
import Derived.Test.YtbijolohpfkihaaDoorFxL
set_option linter.unusedVariables false
namespace Go.Proofs.YtbijolohpfkihaaDoor.Fx
open Go.RowKit Go.Proofs.YtbijolohpfkihaaDoorW.PrintWords Go.Proofs.YtbijolohpfkihaaDoor.PFormat

theorem append_mk (a b : List UInt8) : (⟨a.toArray⟩ : ByteArray) ++ ⟨b.toArray⟩ = ⟨(a ++ b).toArray⟩ := by
  apply ByteArray.ext
  rw [ByteArray.data_append]
  simp
theorem size_mk2 (l : List UInt8) : ByteArray.size ⟨l.toArray⟩ = l.length := by simp [ByteArray.size]
theorem fmtInt_eq : ∀ (u k : Nat), u + 1 < k → u ≤ 10000000000 → armillaryref01_FormatInt.f k (u : Int) = some ⟨(Lib.decDigits u).toArray⟩ := by
  intro u
  induction u using Nat.strongRecOn with
  | _ u ih =>
    intro k hk hu
    obtain ⟨k, rfl⟩ : ∃ m, k = m + 1 := ⟨k - 1, by omega⟩
    rw [armillaryref01_FormatInt.f]
    by_cases h : u < 10
    · rw [if_pos (by omega)]
      unfold Lib.decDigits
      rw [dif_pos h]
      unfold strOfNums
      rw [show wrap64 (48 + (u : Int)) % 256 = 48 + (u : Int) from by unfold wrap64; omega]
      simp only [List.map_cons, List.map_nil]
      rw [show (48 + (u : Int)).toNat = 48 + u from by omega]
    · rw [if_neg (by omega)]
      have e1 : wrap64 (Int.tdiv (u : Int) 10) = ((u / 10 : Nat) : Int) := by rw [Int.tdiv_eq_ediv_of_nonneg (by omega)]; unfold wrap64; omega
      have e2 : Int.tmod (u : Int) 10 = ((u % 10 : Nat) : Int) := by rw [Int.tmod_eq_emod_of_nonneg (by omega)]; omega
      rw [e1, e2, ih (u / 10) (by omega) k (by omega) (by omega), ih (u % 10) (by omega) k (by omega) (by omega)]
      simp only [Option.bind_some]
      have l1 := decDigits_len (u / 10)
      have l2 := decDigits_len (u % 10)
      rw [size_mk2, size_mk2, if_pos (by omega), append_mk]
      have e3 : Lib.decDigits (u % 10) = [UInt8.ofNat (48 + u % 10)] := by unfold Lib.decDigits; rw [dif_pos (by omega)]
      have e4 : Lib.decDigits u = Lib.decDigits (u / 10) ++ [UInt8.ofNat (48 + u % 10)] := by rw [Lib.decDigits, dif_neg h]
      rw [e3, e4]
theorem fmt_l0 : ∀ (g m : Nat) (f : Int) (l : List UInt8), 0 ≤ f → f < 65536 → (65536 : Int) ∣ f * 2 ^ g → l.length + g ≤ 70000 → 20 < m →
    armillaryref01_Format.l0 (m + g + 1) ⟨l.toArray⟩ f = some ⟨(l ++ fracL g f).toArray⟩ := by
  intro g
  induction g with
  | zero =>
    intro m f l h0 h1 hd _ _
    rw [Int.pow_zero, Int.mul_one] at hd
    have := Int.emod_eq_zero_of_dvd hd
    rw [armillaryref01_Format.l0, if_neg (by omega)]
    simp [fracL]
  | succ g ih =>
    intro m f l h0 h1 hd hl hm
    rw [show m + (g + 1) + 1 = (m + g + 1) + 1 from by omega, armillaryref01_Format.l0]
    by_cases hf : f > 0
    · rw [if_pos hf]
      have e0 : wrap64 (f * 10) = f * 10 := by unfold wrap64; omega
      have q0 : 0 ≤ f * 10 / 65536 := by omega
      have q1 : f * 10 / 65536 ≤ 9 := by omega
      have e1 : wrap64 (Int.tdiv (wrap64 (f * 10)) 65536) = ((f * 10 / 65536).toNat : Int) := by rw [e0, Int.tdiv_eq_ediv_of_nonneg (by omega)]; generalize f * 10 / 65536 = e at *; unfold wrap64; omega
      have e2 : Int.tmod (wrap64 (f * 10)) 65536 = f * 10 % 65536 := by rw [e0, Int.tmod_eq_emod_of_nonneg (by omega)]
      rw [e1, e2, fmtInt_eq _ _ (by omega) (by omega), Option.bind_some]
      have e3 : Lib.decDigits (f * 10 / 65536).toNat = [UInt8.ofNat (48 + (f * 10 / 65536).toNat)] := by unfold Lib.decDigits; rw [dif_pos (by omega)]
      rw [e3, size_mk2, size_mk2, if_pos (by simp only [List.length_cons, List.length_nil]; omega), append_mk, ih m _ _ (by omega) (by omega) (dvd_round hd) (by rw [List.length_append, List.length_cons, List.length_nil]; omega) hm]
      simp only [fracL]
      rw [if_neg (by omega), List.append_assoc]; rfl
    · rw [if_neg hf]
      simp only [fracL]
      rw [if_pos (by omega), List.append_nil]
theorem fmt_pos (x : Int) (h0 : 0 ≤ x) (h1 : x < 2147483648) (k : Nat) (hk : 33000 < k) : armillaryref01_Format.f k x = some ⟨(fmtP x).toArray⟩ := by
  obtain ⟨k, rfl⟩ : ∃ m, k = m + 1 := ⟨k - 1, by omega⟩
  have e1 : wrap64 (Int.tdiv x 65536) = ((x / 65536).toNat : Int) := by rw [Int.tdiv_eq_ediv_of_nonneg h0]; unfold wrap64; omega
  have e2 : Int.tmod x 65536 = x % 65536 := Int.tmod_eq_emod_of_nonneg h0
  rw [armillaryref01_Format.f, if_neg (by omega), e1, e2, fmtInt_eq _ _ (by omega) (by omega), Option.bind_some]
  have hl := decDigits_len (x / 65536).toNat
  unfold fmtP
  by_cases hf : x % 65536 = 0
  · rw [if_neg (by omega), if_pos hf, List.append_nil]
    obtain ⟨k, rfl⟩ : ∃ m, k = m + 1 := ⟨k - 1, by omega⟩
    rw [armillaryref01_Format.j0]
    obtain ⟨k, rfl⟩ : ∃ m, k = m + 1 := ⟨k - 1, by omega⟩
    rw [armillaryref01_Format.l0, if_neg (by omega)]
  · rw [if_pos (by omega), if_neg hf, size_mk2, if_pos (by omega), show (⟨#[46]⟩ : ByteArray) = ⟨([46] : List UInt8).toArray⟩ from rfl, append_mk]
    obtain ⟨k, rfl⟩ : ∃ m, k = (m + 16 + 1) + 1 := ⟨k - 18, by omega⟩
    rw [armillaryref01_Format.j0, fmt_l0 16 k _ _ (by omega) (by omega) (dvd_start _) (by rw [List.length_append, List.length_cons, List.length_nil]; omega) (by omega), List.append_assoc]
    rfl
theorem fracL_len : ∀ (g : Nat) (f : Int), (fracL g f).length ≤ g := by
  intro g
  induction g with
  | zero => intro f; simp [fracL]
  | succ g ih =>
    intro f
    simp only [fracL]
    split
    · simp
    · simp only [List.length_cons]; have := ih (f * 10 % 65536); omega
theorem fmtP_len (x : Int) (h0 : 0 ≤ x) (h1 : x < 2147483649) : (fmtP x).length ≤ 40000 := by
  have hl := decDigits_len (x / 65536).toNat
  have := fracL_len 16 (x % 65536)
  unfold fmtP
  rw [List.length_append]
  split
  · simp only [List.length_nil]; omega
  · simp only [List.length_cons]; omega
/-- R1.Format answers as 'fmtL'. -/
theorem RFormat_any (x : Int) (w : World) (h0 : -2147483648 < x) (h1 : x < 2147483648) :
    Calls Tryd.prog 27 #[.int .i64 x] w fun e w' => e = .returned (.string ⟨(fmtL x).toArray⟩) ∧ Below w.heap.size w w' := by
  have key : armillaryref01_Format.f 33010 x = some ⟨(fmtL x).toArray⟩ := by
    unfold fmtL
    by_cases h : x < 0
    · rw [if_pos h, show (33010 : Nat) = 33009 + 1 from rfl, armillaryref01_Format.f, if_pos h, show wrap64 (-x) = -x from by unfold wrap64; omega, fmt_pos (-x) (by omega) (by omega) _ (by omega), Option.bind_some]
      have := fmtP_len (-x) (by omega) (by omega)
      rw [size_mk2, if_pos (by omega), show (⟨#[45]⟩ : ByteArray) = ⟨([45] : List UInt8).toArray⟩ from rfl, append_mk]; rfl
    · rw [if_neg h]; exact fmt_pos x (by omega) h1 _ (by omega)
  exact armillaryref01_Format.calls 33010 x _ w key
/-- R1.FormatInt at numbers from 0 on. -/
theorem RFormatInt_any (u : Nat) (w : World) (hu : u ≤ 10000000000) :
    Calls Tryd.prog 30 #[.int .i64 u] w fun e w' => e = .returned (.string ⟨(Lib.decDigits u).toArray⟩) ∧ Below w.heap.size w w' :=
  armillaryref01_FormatInt.calls (u + 2) u _ w (fmtInt_eq u (u + 2) (by omega) hu)
end Go.Proofs.YtbijolohpfkihaaDoor.Fx
