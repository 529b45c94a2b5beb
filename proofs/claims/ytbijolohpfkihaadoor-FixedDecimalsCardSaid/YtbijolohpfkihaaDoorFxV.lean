/- What Parse makes of a decimal text that is written out: plain laws. -/
import Derived.Test.YtbijolohpfkihaaDoorFxF
import Derived.Test.YtbijolohpfkihaaDoorFxR
set_option linter.unusedVariables false
namespace Go.Proofs.YtbijolohpfkihaaDoor.Fx

/-- the number that a list of digits spells -/
def val : List Int → Int
  | [] => 0
  | d :: t => d * 10 ^ t.length + val t
theorem pow10_pos (n : Nat) : (0 : Int) < 10 ^ n := Int.pow_pos (by omega)
theorem val_bd {ds : List Int} (h : Digs ds) : 0 ≤ val ds ∧ val ds < 10 ^ ds.length := by
  induction ds with
  | nil => simp [val]
  | cons d t ih =>
    obtain ⟨i0, i1⟩ := ih (fun x hx => h x (List.mem_cons_of_mem _ hx))
    have hd := h d (List.mem_cons_self ..)
    have hp := pow10_pos t.length
    simp only [val, List.length_cons, Int.pow_succ]
    have h1 : 0 ≤ d * 10 ^ t.length := Int.mul_nonneg hd.1 (Int.le_of_lt hp)
    have h2 : d * 10 ^ t.length ≤ 9 * 10 ^ t.length := Int.mul_le_mul_of_nonneg_right hd.2 (Int.le_of_lt hp)
    omega
theorem val_zero {ds : List Int} (h : Digs ds) : val ds = 0 ↔ ds.any (· != 0) = false := by
  induction ds with
  | nil => simp [val]
  | cons d t ih =>
    have ht : Digs t := fun x hx => h x (List.mem_cons_of_mem _ hx)
    obtain ⟨i0, i1⟩ := val_bd ht
    have hd := h d (List.mem_cons_self ..)
    have hp := pow10_pos t.length
    simp only [val, List.any_cons, Bool.or_eq_false_iff]
    rw [← ih ht, bne_eq_false_iff_eq]
    constructor
    · intro e
      rcases Int.lt_or_eq_of_le hd.1 with g | g
      · have := Int.mul_pos g hp; omega
      · rw [← g, Int.zero_mul] at e
        exact ⟨g.symm, by omega⟩
    · rintro ⟨e1, e2⟩; rw [e1, e2]; omega
theorem dbl_val (ds : List Int) : (dbl ds).2 * 10 ^ ds.length + val (dbl ds).1 = 2 * val ds := by
  induction ds with
  | nil => simp [dbl, val]
  | cons d t ih =>
    simp only [dbl, val, List.length_cons, dbl_len, Int.pow_succ]
    generalize (dbl t).2 = c at *
    generalize (10 : Int) ^ t.length = p at *
    have e := Int.mul_ediv_add_emod (2 * d + c) 10
    generalize (2 * d + c) / 10 = q at *
    generalize (2 * d + c) % 10 = r at *
    have e2 : q * (p * 10) + r * p = (2 * d + c) * p := by
      rw [← e, Int.add_mul, Int.mul_comm p 10, ← Int.mul_assoc, Int.mul_comm q 10]
    rw [Int.add_mul, Int.mul_assoc] at e2
    omega
theorem sf_len (k : Nat) : ∀ (ds : List Int) (out : Int), (sf k ds out).1.length = ds.length := by
  induction k with
  | zero => intro ds out; rfl
  | succ k ih => intro ds out; simp only [sf]; rw [ih, dbl_len]
theorem sf_digs' (k : Nat) : ∀ (ds : List Int) (out : Int), Digs ds → Digs (sf k ds out).1 := by
  induction k with
  | zero => intro ds out h; exact h
  | succ k ih => intro ds out h; exact ih _ _ (dbl_ok h).1
theorem sf_val (k : Nat) : ∀ (ds : List Int) (out : Int), (sf k ds out).2 * 10 ^ ds.length + val (sf k ds out).1 = 2 ^ k * (out * 10 ^ ds.length + val ds) := by
  induction k with
  | zero => intro ds out; simp only [sf, Int.pow_zero]; omega
  | succ k ih =>
    intro ds out
    have h1 := ih (dbl ds).1 (2 * out + (dbl ds).2)
    rw [dbl_len] at h1
    simp only [sf]
    rw [h1, Int.pow_succ, Int.mul_assoc]
    congr 1
    have h2 := dbl_val ds
    rw [Int.add_mul, Int.mul_assoc]
    generalize out * 10 ^ ds.length = x at *
    omega
/-- the fraction: what is carried out, and whether anything is left -/
theorem sf_frac {ds : List Int} (h : Digs ds) : (sf 16 ds 0).2 = dn (val ds * 65536) (10 ^ ds.length) ∧ ((sf 16 ds 0).1.any (· != 0) = true ↔ val ds * 65536 % 10 ^ ds.length ≠ 0) := by
  have hv := sf_val 16 ds 0
  rw [Int.zero_mul, Int.zero_add, show (2 : Int) ^ 16 = 65536 from rfl, Int.mul_comm 65536] at hv
  have hd := sf_digs' 16 ds 0 h
  obtain ⟨b0, b1⟩ := val_bd hd
  rw [sf_len] at b1
  have hp := pow10_pos ds.length
  have hz := val_zero hd
  generalize (10 : Int) ^ ds.length = p at *
  generalize (sf 16 ds 0).2 = o at *
  generalize hr : val (sf 16 ds 0).1 = r at *
  have e1 : val ds * 65536 / p = o := by
    rw [← hv, Int.mul_comm o p, Int.mul_add_ediv_left _ _ (by omega), Int.ediv_eq_zero_of_lt b0 b1]; omega
  have e2 : val ds * 65536 % p = r := by
    have := Int.mul_ediv_add_emod (val ds * 65536) p
    rw [e1, Int.mul_comm p o] at this; omega
  refine ⟨e1.symm, ?_⟩
  rw [e2]
  cases hc : (sf 16 ds 0).1.any (· != 0)
  · simp [hz.2 hc]
  · simp; intro h'; rw [hz.1 h'] at hc; cases hc

theorem takeWhile_dig {D R : List UInt8} (hD : ∀ c ∈ D, dig c = true) (hR : ∀ c, R.head? = some c → dig c = false) : (D ++ R).takeWhile dig = D := by
  induction D with
  | nil =>
    cases R with
    | nil => rfl
    | cons c r => rw [List.nil_append, List.takeWhile_cons, if_neg (by rw [hR c rfl]; simp)]
  | cons a t ih =>
    rw [List.cons_append, List.takeWhile_cons, if_pos (hD a (List.mem_cons_self ..)), ih (fun x hx => hD x (List.mem_cons_of_mem _ hx))]
theorem skp_app {P D R : List UInt8} (hD : ∀ c ∈ D, dig c = true) (hR : ∀ c, R.head? = some c → dig c = false) : skp (P ++ (D ++ R)) P.length = P.length + D.length := by
  unfold skp
  rw [List.drop_left, takeWhile_dig hD hR]
theorem dig45 : dig 45 = false := by decide
theorem dig46 : dig 46 = false := by decide
/-- a text that is written out: sign, integer part, and a fraction behind a point -/
def txt (neg : Bool) (D F : List UInt8) : List UInt8 := (if neg then [45] else []) ++ (D ++ (if F = [] then [] else 46 :: F))
theorem hp_nil : Lib.hasPrefix [] [45] = false := rfl
theorem hp_cons (a : UInt8) (t : List UInt8) : Lib.hasPrefix (a :: t) [45] = ((45 : UInt8) == a) := by unfold Lib.hasPrefix; simp only [List.isPrefixOf, Bool.and_true]
theorem txt_st {neg : Bool} {D F : List UInt8} (hD : ∀ c ∈ D, dig c = true) (hne : D ≠ []) : stN (txt neg D F) = (if neg then [45] else [] : List UInt8).length := by
  obtain ⟨a, t, rfl⟩ := List.exists_cons_of_ne_nil hne
  have ha := hD a (List.mem_cons_self ..)
  cases neg with
  | true => rfl
  | false =>
    have e : txt false (a :: t) F = a :: (t ++ (if F = [] then [] else 46 :: F)) := by simp [txt]
    rw [e]
    unfold stN
    rw [hp_cons, if_neg]
    · rfl
    · rw [beq_iff_eq]
      intro e
      rw [← e] at ha
      exact absurd ha (by decide)
theorem core_int {P D : List UInt8} (hD : ∀ c ∈ D, dig c = true) (hne : D ≠ []) (hst : stN (P ++ D) = P.length) :
    ptN (P ++ D) = P.length + D.length ∧ enN (P ++ D) = (P ++ D).length ∧ badN (P ++ D) = false ∧ intL (P ++ D) = D ∧ frL (P ++ D) = [] := by
  have hDl : 0 < D.length := by cases D with | nil => exact absurd rfl hne | cons a t => simp
  have hpt : ptN (P ++ D) = P.length + D.length := by
    unfold ptN; rw [hst]
    have := skp_app (P := P) (D := D) (R := []) hD (by intro c hc; cases hc)
    rwa [List.append_nil] at this
  have hlen : (P ++ D).length = P.length + D.length := List.length_append
  have hdot : dotN (P ++ D) = false := by unfold dotN; rw [hpt, List.getElem?_eq_none (by omega)]; simp
  have hen : enN (P ++ D) = (P ++ D).length := by unfold enN; rw [hdot, hpt, hlen]; rfl
  refine ⟨hpt, hen, ?_, ?_, ?_⟩
  · unfold badN
    rw [hst, hpt, hen, hlen]
    simp only [Bool.or_eq_false_iff, decide_eq_false_iff_not]
    omega
  · unfold intL
    rw [hst, hpt, Nat.add_sub_cancel_left, List.drop_left, List.take_length]
  · unfold frL
    rw [hpt, hen, hlen, List.drop_eq_nil_of_le (by omega), List.take_nil]
theorem core_frac {P D F : List UInt8} (hD : ∀ c ∈ D, dig c = true) (hne : D ≠ []) (hF : ∀ c ∈ F, dig c = true) (hnf : F ≠ []) (hst : stN (P ++ (D ++ 46 :: F)) = P.length) :
    ptN (P ++ (D ++ 46 :: F)) = P.length + D.length ∧ enN (P ++ (D ++ 46 :: F)) = (P ++ (D ++ 46 :: F)).length ∧ badN (P ++ (D ++ 46 :: F)) = false ∧ intL (P ++ (D ++ 46 :: F)) = D ∧ frL (P ++ (D ++ 46 :: F)) = F := by
  have hDl : 0 < D.length := by cases D with | nil => exact absurd rfl hne | cons a t => simp
  have hFl : 0 < F.length := by cases F with | nil => exact absurd rfl hnf | cons a t => simp
  have hpt : ptN (P ++ (D ++ 46 :: F)) = P.length + D.length := by
    unfold ptN; rw [hst]
    exact skp_app (P := P) (D := D) (R := 46 :: F) hD (by intro c hc; cases hc; exact dig46)
  have hlen : (P ++ (D ++ 46 :: F)).length = P.length + D.length + F.length + 1 := by simp; omega
  have hassoc : P ++ (D ++ 46 :: F) = (P ++ (D ++ [46])) ++ F := by simp
  have hl2 : (P ++ (D ++ [46])).length = P.length + D.length + 1 := by simp; omega
  have hget : (P ++ (D ++ 46 :: F))[P.length + D.length]? = some 46 := by
    rw [List.getElem?_append_right (by omega), Nat.add_sub_cancel_left, List.getElem?_append_right (by omega), Nat.sub_self]; rfl
  have hdot : dotN (P ++ (D ++ 46 :: F)) = true := by
    unfold dotN; rw [hpt, hst, hget, decide_eq_true (by omega)]; rfl
  have hen : enN (P ++ (D ++ 46 :: F)) = (P ++ (D ++ 46 :: F)).length := by
    unfold enN
    rw [hdot, hpt, if_pos rfl, hlen, hassoc, ← hl2]
    have := skp_app (P := P ++ (D ++ [46])) (D := F) (R := []) hF (by intro c hc; cases hc)
    rw [List.append_nil] at this
    rw [this]; omega
  refine ⟨hpt, hen, ?_, ?_, ?_⟩
  · unfold badN
    rw [hst, hpt, hen, hlen]
    simp only [Bool.or_eq_false_iff, decide_eq_false_iff_not]
    omega
  · unfold intL
    rw [hst, hpt, Nat.add_sub_cancel_left, List.drop_left, List.take_left]
  · unfold frL
    rw [hpt, hen, hlen, show min (P.length + D.length + 1) (P.length + D.length + F.length + 1) = P.length + D.length + 1 from by omega, hassoc, ← hl2, List.drop_left, List.take_of_length_le (by omega)]
theorem sign_len (neg : Bool) : (if neg then [45] else [] : List UInt8).length = (if neg then 1 else 0) := by cases neg <;> rfl
theorem txt_parts {neg : Bool} {D F : List UInt8} (hD : ∀ c ∈ D, dig c = true) (hne : D ≠ []) (hF : ∀ c ∈ F, dig c = true) :
    stN (txt neg D F) = (if neg then 1 else 0) ∧ ptN (txt neg D F) = (if neg then 1 else 0) + D.length ∧ enN (txt neg D F) = (txt neg D F).length ∧ badN (txt neg D F) = false ∧ intL (txt neg D F) = D ∧ frL (txt neg D F) = F := by
  have hst := txt_st (neg := neg) (D := D) (F := F) hD hne
  rw [← sign_len neg]
  refine ⟨hst, ?_⟩
  by_cases hf : F = []
  · subst hf
    have e : txt neg D [] = (if neg then [45] else []) ++ D := by simp [txt]
    rw [e] at hst ⊢
    exact core_int hD hne hst
  · have e : txt neg D F = (if neg then [45] else []) ++ (D ++ 46 :: F) := by unfold txt; rw [if_neg hf]
    rw [e] at hst ⊢
    exact core_frac hD hne hF hf hst

/-- the two bounds of the number N + V/10^n -/
def txtLo (N : Nat) (F : List UInt8) : Int := N * 65536 + dn (val (F.map fun b => (b.toNat : Int) - 48) * 65536) (10 ^ F.length)
def txtHi (N : Nat) (F : List UInt8) : Int := N * 65536 + up (val (F.map fun b => (b.toNat : Int) - 48) * 65536) (10 ^ F.length)
theorem parse_txt {neg : Bool} {D F : List UInt8} (hD : ∀ c ∈ D, dig c = true) (hne : D ≠ []) (hF : ∀ c ∈ F, dig c = true) (hN : decN D 0 < 32768) (hhi : txtHi (decN D 0) F < 2147483648) :
    parseL (txt neg D F) = if neg then (-txtHi (decN D 0) F, -txtLo (decN D 0) F, 0, 0) else (txtLo (decN D 0) F, txtHi (decN D 0) F, 0, 0) := by
  obtain ⟨h1, h2, h3, h4, h5, h6⟩ := txt_parts (neg := neg) hD hne hF
  have hi : intN (txt neg D F) = decN D 0 := by unfold intN; rw [h5]
  have hdg : Digs (F.map fun b => (b.toNat : Int) - 48) := dig_digs hF
  have hfr : frN (txt neg D F) = F.map fun b => (b.toNat : Int) - 48 := by unfold frN; rw [h6]
  obtain ⟨f1, f2⟩ := sf_frac hdg
  rw [List.length_map] at f1 f2
  have hlo : loN (txt neg D F) = txtLo (decN D 0) F := by unfold loN txtLo; rw [hi, hfr, f1]
  have hhi' : hiN (txt neg D F) = txtHi (decN D 0) F := by
    unfold hiN
    rw [hlo, hfr]
    unfold txtHi txtLo
    by_cases hz : val (F.map fun b => (b.toNat : Int) - 48) * 65536 % 10 ^ F.length = 0
    · rw [if_neg (fun h => f2.1 h hz), up_exact hz]; rfl
    · have hp := pow10_pos F.length
      have := Int.emod_nonneg (val (F.map fun b => (b.toNat : Int) - 48) * 65536) (show (10 : Int) ^ F.length ≠ 0 by omega)
      rw [if_pos (f2.2 hz), up_next (by omega)]; unfold dn; omega
  unfold parseL
  rw [h4, hi, hhi', hlo, h1, if_neg (show ¬ (false = true) by simp), if_neg (by omega)]
  cases neg <;> rfl

theorem decN_app (l : List UInt8) (c : UInt8) : ∀ acc, decN (l ++ [c]) acc = decN l acc * 10 + (c.toNat - 48) := by
  induction l with
  | nil => intro acc; rfl
  | cons a t ih => intro acc; exact ih _
theorem toNat48 (u : Nat) (h : u < 10) : (UInt8.ofNat (48 + u)).toNat = 48 + u := by rw [UInt8.toNat_ofNat']; omega
theorem decDigits_facts (u : Nat) : (∀ c ∈ Lib.decDigits u, dig c = true) ∧ Lib.decDigits u ≠ [] ∧ decN (Lib.decDigits u) 0 = u ∧ ((Lib.decDigits u).head? = some 48 → u = 0) := by
  induction u using Nat.strongRecOn with
  | _ u ih =>
    unfold Lib.decDigits
    split
    · rename_i h
      have ht := toNat48 u h
      refine ⟨?_, by simp, ?_, ?_⟩
      · intro c hc
        rw [List.mem_singleton] at hc
        subst hc
        unfold dig; rw [ht]; simp; omega
      · simp only [decN]; rw [ht]; omega
      · intro e
        simp only [List.head?_cons, Option.some.injEq] at e
        have := congrArg UInt8.toNat e
        rw [ht] at this
        have e48 : (48 : UInt8).toNat = 48 := rfl
        omega
    · rename_i h
      obtain ⟨i1, i2, i3, i4⟩ := ih (u / 10) (by omega)
      have ht := toNat48 (u % 10) (by omega)
      refine ⟨?_, by simp, ?_, ?_⟩
      · intro c hc
        rcases List.mem_append.1 hc with g | g
        · exact i1 c g
        · rw [List.mem_singleton] at g
          subst g
          unfold dig; rw [ht]; simp; omega
      · rw [decN_app, i3, ht]; omega
      · intro e
        obtain ⟨a, t, hat⟩ := List.exists_cons_of_ne_nil i2
        rw [hat, List.cons_append, List.head?_cons] at e
        rw [hat, List.head?_cons] at i4
        have := i4 e
        omega
theorem decDigits_lenk : ∀ (k u : Nat), u < 10 ^ (k + 1) → (Lib.decDigits u).length ≤ k + 1 := by
  intro k
  induction k with
  | zero => intro u h; unfold Lib.decDigits; rw [dif_pos (by omega)]; simp
  | succ k ih =>
    intro u h
    unfold Lib.decDigits
    split
    · simp
    · rw [List.length_append]
      have := ih (u / 10) (by rw [Nat.pow_succ] at h; omega)
      simp only [List.length_cons, List.length_nil]; omega
end Go.Proofs.YtbijolohpfkihaaDoor.Fx
