/- Plain laws of decimal texts: what Parse makes of a list of bytes. No program in it. -/
import Derived.Lib.ParseIntB
import Derived.Lib.Hide
set_option linter.unusedVariables false
namespace Go.Proofs.YtbijolohpfkihaaDoor.Fx

def dig (c : UInt8) : Bool := decide (48 ≤ c.toNat) && decide (c.toNat ≤ 57)
/-- the first place at or behind i that is no digit -/
def skp (l : List UInt8) (i : Nat) : Nat := i + ((l.drop i).takeWhile dig).length
theorem skp_ge (l : List UInt8) (i : Nat) : i ≤ skp l i := by unfold skp; omega
theorem skp_le (l : List UInt8) (i : Nat) (h : i ≤ l.length) : skp l i ≤ l.length := by
  unfold skp
  have : ((l.drop i).takeWhile dig).length ≤ (l.drop i).length := (List.takeWhile_sublist _).length_le
  rw [List.length_drop] at this
  omega
theorem skp_end (l : List UInt8) (i : Nat) (h : l.length ≤ i) : skp l i = i := by
  unfold skp; rw [List.drop_eq_nil_of_le h]; simp
theorem skp_stop (l : List UInt8) (i : Nat) (h : i < l.length) (hd : dig l[i] = false) : skp l i = i := by
  unfold skp; rw [List.drop_eq_getElem_cons h, List.takeWhile_cons, if_neg (by simp [hd])]; rfl
theorem skp_next (l : List UInt8) (i : Nat) (h : i < l.length) (hd : dig l[i] = true) : skp l i = skp l (i + 1) := by
  unfold skp; rw [List.drop_eq_getElem_cons h, List.takeWhile_cons, if_pos hd]; simp; omega
theorem skp_dig (l : List UInt8) (i : Nat) : ∀ j (hj : j < l.length), i ≤ j → j < skp l i → dig l[j] = true := by
  intro j hj h1 h2
  unfold skp at h2
  have hk : j - i < ((l.drop i).takeWhile dig).length := by omega
  have hall : ∀ (m : List UInt8) (x : UInt8), x ∈ m.takeWhile dig → dig x = true := by
    intro m
    induction m with
    | nil => simp
    | cons a t ih =>
      intro x hx
      cases h : dig a
      · simp [h] at hx
      · simp only [List.takeWhile_cons, h, if_true, List.mem_cons] at hx
        rcases hx with rfl | hx
        · exact h
        · exact ih x hx
  have hpre : ∀ (m : List UInt8) (k : Nat) (hk : k < (m.takeWhile dig).length), ∃ hk' : k < m.length, (m.takeWhile dig)[k] = m[k] := by
    intro m k hk
    have hs := List.takeWhile_prefix (p := dig) (l := m)
    exact ⟨Nat.lt_of_lt_of_le hk hs.length_le, hs.getElem hk⟩
  obtain ⟨hk', e⟩ := hpre (l.drop i) (j - i) hk
  have := hall (l.drop i) _ (List.getElem_mem hk)
  rw [e, List.getElem_drop] at this
  simpa [show i + (j - i) = j from by omega] using this

/-- the number that decimal digits spell -/
def decN : List UInt8 → Nat → Nat
  | [], acc => acc
  | c :: r, acc => decN r (acc * 10 + (c.toNat - 48))
theorem decN_ge (l : List UInt8) : ∀ acc, acc ≤ decN l acc := by
  induction l with
  | nil => intro acc; exact Nat.le_refl _
  | cons c r ih => intro acc; have := ih (acc * 10 + (c.toNat - 48)); simp only [decN]; omega
theorem parseUintM_ok (M : Nat) (hM : M ≤ 18446744073709551615) (l : List UInt8) : ∀ acc, (∀ c ∈ l, dig c = true) → decN l acc ≤ M → Lib.parseUintM M acc l = .ok (decN l acc) := by
  induction l with
  | nil => intro acc _ _; simp only [Lib.parseUintM, decN]
  | cons c r ih =>
    intro acc hl h
    have hc := hl c (List.mem_cons_self ..)
    simp only [dig, Bool.and_eq_true, decide_eq_true_eq] at hc
    have hge := decN_ge r (acc * 10 + (c.toNat - 48))
    have hd : decN (c :: r) acc = decN r (acc * 10 + (c.toNat - 48)) := rfl
    rw [hd] at h ⊢
    rw [Lib.parseUintM, if_pos hc, if_neg (by omega), if_neg (by omega)]
    exact ih _ (fun x hx => hl x (List.mem_cons_of_mem _ hx)) h
theorem parseUintM_range (M : Nat) (l : List UInt8) : ∀ acc, (∀ c ∈ l, dig c = true) → acc ≤ M → M < decN l acc → Lib.parseUintM M acc l = .range := by
  induction l with
  | nil => intro acc _ h h'; rw [decN] at h'; omega
  | cons c r ih =>
    intro acc hl hacc h
    have hc := hl c (List.mem_cons_self ..)
    simp only [dig, Bool.and_eq_true, decide_eq_true_eq] at hc
    have hd : decN (c :: r) acc = decN r (acc * 10 + (c.toNat - 48)) := rfl
    rw [hd] at h
    rw [Lib.parseUintM, if_pos hc]
    by_cases h1 : 1844674407370955162 ≤ acc
    · rw [if_pos h1]
    · rw [if_neg h1]
      by_cases h2 : M < acc * 10 + (c.toNat - 48)
      · rw [if_pos h2]
      · rw [if_neg h2]
        exact ih _ (fun x hx => hl x (List.mem_cons_of_mem _ hx)) (by omega) h
theorem pow64 : (2 ^ 64 - 1 : Nat) = 18446744073709551615 := by decide
theorem pow63 : (2 ^ (64 - 1) : Nat) = 9223372036854775808 := by decide
theorem parseIntB_ok (l : List UInt8) (hne : l ≠ []) (hl : ∀ c ∈ l, dig c = true) (h : decN l 0 < 9223372036854775808) : Lib.parseIntB 64 l = .ok (decN l 0 : Int) := by
  match l, hne with
  | c :: r, _ =>
    have hc := hl c (List.mem_cons_self ..)
    simp only [dig, Bool.and_eq_true, decide_eq_true_eq] at hc
    have e : Lib.parseUintB 64 (if c.toNat = 43 ∨ c.toNat = 45 then r else c :: r) = .ok (decN (c :: r) 0) := by
      rw [if_neg (by omega)]
      unfold Lib.parseUintB
      rw [if_neg (by simp), pow64]
      exact parseUintM_ok _ (Nat.le_refl _) _ _ hl (by omega)
    unfold Lib.parseIntB
    simp only [e, pow63]
    rw [if_neg (by omega), if_neg (by omega), if_neg (by omega)]
theorem parseIntB_range (l : List UInt8) (hne : l ≠ []) (hl : ∀ c ∈ l, dig c = true) (h : 9223372036854775808 ≤ decN l 0) : Lib.parseIntB 64 l = .range := by
  match l, hne with
  | c :: r, _ =>
    have hc := hl c (List.mem_cons_self ..)
    simp only [dig, Bool.and_eq_true, decide_eq_true_eq] at hc
    by_cases h2 : decN (c :: r) 0 ≤ 18446744073709551615
    · have e : Lib.parseUintB 64 (if c.toNat = 43 ∨ c.toNat = 45 then r else c :: r) = .ok (decN (c :: r) 0) := by
        rw [if_neg (by omega)]
        unfold Lib.parseUintB
        rw [if_neg (by simp), pow64]
        exact parseUintM_ok _ (Nat.le_refl _) _ _ hl h2
      unfold Lib.parseIntB
      simp only [e, pow63]
      rw [if_pos (by omega)]
    · have e : Lib.parseUintB 64 (if c.toNat = 43 ∨ c.toNat = 45 then r else c :: r) = .range := by
        rw [if_neg (by omega)]
        unfold Lib.parseUintB
        rw [if_neg (by simp), pow64]
        exact parseUintM_range _ _ _ hl (by omega) (by omega)
      unfold Lib.parseIntB
      simp only [e]
end Go.Proofs.YtbijolohpfkihaaDoor.Fx
