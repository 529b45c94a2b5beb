/- The decimal representation of a number, as a text: plain laws. -/
import Derived.Test.YtbijolohpfkihaaDoorFxV
set_option linter.unusedVariables false
namespace Go.Proofs.YtbijolohpfkihaaDoor.Fx

theorem byte48 (d : Int) (h0 : 0 ≤ d) (h1 : d ≤ 9) : (UInt8.ofNat (48 + d.toNat)).toNat = 48 + d.toNat := toNat48 _ (by omega)
theorem fracL_dig : ∀ (g : Nat) (f : Int), 0 ≤ f → f < 65536 → ∀ c ∈ fracL g f, dig c = true := by
  intro g
  induction g with
  | zero => intro f _ _ c hc; cases hc
  | succ g ih =>
    intro f h0 h1 c hc
    simp only [fracL] at hc
    split at hc
    · cases hc
    · rcases List.mem_cons.1 hc with rfl | hc
      · have := byte48 (f * 10 / 65536) (by omega) (by omega)
        unfold dig; rw [this]; simp; omega
      · exact ih _ (by omega) (by omega) c hc
theorem fracL_nil {g : Nat} {f : Int} (hg : 1 ≤ g) (h : 0 ≤ f) : fracL g f = [] ↔ f = 0 := by
  obtain ⟨g, rfl⟩ : ∃ m, g = m + 1 := ⟨g - 1, by omega⟩
  simp only [fracL]
  split
  · simp; omega
  · simp; omega
theorem fracL_val : ∀ (g : Nat) (f : Int), 0 ≤ f → f < 65536 → (65536 : Int) ∣ f * 2 ^ g → val ((fracL g f).map fun b => (b.toNat : Int) - 48) * 65536 = f * 10 ^ (fracL g f).length := by
  intro g
  induction g with
  | zero =>
    intro f h0 h1 hd
    rw [Int.pow_zero, Int.mul_one] at hd
    have := Int.emod_eq_zero_of_dvd hd
    have e : f = 0 := by omega
    subst e; simp [fracL, val]
  | succ g ih =>
    intro f h0 h1 hd
    simp only [fracL]
    split
    · have e : f = 0 := by omega
      subst e; simp [val]
    · have hi := ih (f * 10 % 65536) (by omega) (by omega) (dvd_round hd)
      have hb := byte48 (f * 10 / 65536) (by omega) (by omega)
      simp only [List.map_cons, val, List.length_map, List.length_cons, Int.pow_succ]
      rw [hb]
      generalize (fracL g (f * 10 % 65536)).length = n at *
      generalize (10 : Int) ^ n = p at *
      rw [Int.add_mul, hi]
      have e := Int.mul_ediv_add_emod (f * 10) 65536
      have q0 : 0 ≤ f * 10 / 65536 := by omega
      generalize f * 10 / 65536 = q at *
      generalize f * 10 % 65536 = r at *
      have e1 : ((48 + q.toNat : Nat) : Int) - 48 = q := by omega
      rw [e1]
      have e2 : (65536 * q + r) * p = f * 10 * p := by rw [e]
      rw [Int.add_mul] at e2
      rw [Int.mul_comm p 10, ← Int.mul_assoc f 10 p, ← e2, Int.mul_right_comm q p 65536, Int.mul_comm q 65536]
theorem fracL_last : ∀ (g : Nat) (f : Int), 0 < f → f < 65536 → (65536 : Int) ∣ f * 2 ^ g → ∃ l c, fracL g f = l ++ [c] ∧ c ≠ 48 := by
  intro g
  induction g with
  | zero =>
    intro f h0 h1 hd
    rw [Int.pow_zero, Int.mul_one] at hd
    have := Int.emod_eq_zero_of_dvd hd
    omega
  | succ g ih =>
    intro f h0 h1 hd
    simp only [fracL]
    rw [if_neg (by omega)]
    by_cases hz : f * 10 % 65536 = 0
    · refine ⟨[], UInt8.ofNat (48 + (f * 10 / 65536).toNat), ?_, ?_⟩
      · have : fracL g (f * 10 % 65536) = [] := by
          rw [hz]
          cases g with
          | zero => rfl
          | succ g => simp [fracL]
        rw [this]; rfl
      · intro e
        have := congrArg UInt8.toNat e
        rw [byte48 _ (by omega) (by omega)] at this
        have e48 : (48 : UInt8).toNat = 48 := rfl
        omega
    · obtain ⟨l, c, e, hc⟩ := ih (f * 10 % 65536) (by omega) (by omega) (dvd_round hd)
      exact ⟨_ :: l, c, by rw [e]; rfl, hc⟩

/-- the parts of the representation of a -/
def fmtD (a : Int) : List UInt8 := Lib.decDigits (a.natAbs / 65536)
def fmtF (a : Int) : List UInt8 := fracL 16 ((a.natAbs : Int) % 65536)
theorem fmtP_txt (x : Int) (h : 0 ≤ x) : fmtP x = Lib.decDigits (x / 65536).toNat ++ (if fracL 16 (x % 65536) = [] then [] else 46 :: fracL 16 (x % 65536)) := by
  unfold fmtP
  by_cases hz : x % 65536 = 0
  · rw [if_pos hz, if_pos ((fracL_nil (by omega) (by omega)).2 hz)]
  · rw [if_neg hz, if_neg (fun e => hz ((fracL_nil (by omega) (by omega)).1 e))]
theorem fmtL_txt (a : Int) : fmtL a = txt (decide (a < 0)) (fmtD a) (fmtF a) := by
  unfold fmtL txt fmtD fmtF
  by_cases h : a < 0
  · rw [if_pos h, fmtP_txt _ (by omega), show ((-a) / 65536).toNat = a.natAbs / 65536 from by omega, show (-a) % 65536 = (a.natAbs : Int) % 65536 from by omega]
    simp [h]
  · rw [if_neg h, fmtP_txt _ (by omega), show (a / 65536).toNat = a.natAbs / 65536 from by omega, show a % 65536 = (a.natAbs : Int) % 65536 from by omega]
    simp [h]
theorem fmt_vals (a : Int) : txtLo (decN (fmtD a) 0) (fmtF a) = a.natAbs ∧ txtHi (decN (fmtD a) 0) (fmtF a) = a.natAbs := by
  have hd := (decDigits_facts (a.natAbs / 65536)).2.2.1
  have hv := fracL_val 16 ((a.natAbs : Int) % 65536) (by omega) (by omega) (dvd_start _)
  have hp := pow10_pos (fmtF a).length
  unfold txtLo txtHi fmtD
  rw [hd]
  unfold fmtF at hp ⊢
  rw [hv, (dn_exact (by omega)).1, (dn_exact (by omega)).2]
  omega
where
  dn_exact {A d : Int} (hd : 0 < d) : dn (A * d) d = A ∧ up (A * d) d = A := by
    have e : A * d % d = 0 := Int.mul_emod_left _ _
    refine ⟨Int.mul_ediv_cancel _ (by omega), ?_⟩
    rw [up_exact e]; exact Int.mul_ediv_cancel _ (by omega)
theorem parse_fmt (a : Int) (h0 : -2147483648 < a) (h1 : a < 2147483648) : parseL (fmtL a) = (a, a, 0, 0) := by
  obtain ⟨d1, d2, d3, _⟩ := decDigits_facts (a.natAbs / 65536)
  obtain ⟨v1, v2⟩ := fmt_vals a
  rw [fmtL_txt, parse_txt (D := fmtD a) (F := fmtF a) d1 d2 (fracL_dig 16 _ (by omega) (by omega)) (by show decN (Lib.decDigits (a.natAbs / 65536)) 0 < 32768; rw [d3]; omega) (by rw [v2]; omega), v1, v2]
  by_cases h : a < 0
  · simp only [h, decide_true, if_true]
    rw [show -(a.natAbs : Int) = a from by omega]
  · simp only [h, decide_false]
    rw [show (a.natAbs : Int) = a from by omega]; rfl
end Go.Proofs.YtbijolohpfkihaaDoor.Fx
