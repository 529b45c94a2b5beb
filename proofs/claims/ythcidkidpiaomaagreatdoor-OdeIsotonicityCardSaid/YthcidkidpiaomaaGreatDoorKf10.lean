/- FxV FxU OdS OdV -/
import Derived.Test.YthcidkidpiaomaaGreatDoorKf02
import Derived.Test.YthcidkidpiaomaaGreatDoorKf03
import Derived.Test.YthcidkidpiaomaaGreatDoorKf07
section
set_option linter.unusedVariables false
namespace Go.Proofs.YthcidkidpiaomaaGreatDoor.Fx
def val : List Int → Int
  | [] => 0
  | d :: t => d * 10 ^ t.length + val t
theorem pow10_pos (n : Nat) : (0 : Int) < 10 ^ n := Int.pow_pos (by omega)
theorem val_bd {ds : List Int} (h : Digs ds) : 0 ≤ val ds ∧ val ds < 10 ^ ds.length := by
  induction ds with
  | nil => simp [val]
  | cons d t ih =>
    obtain ⟨i0, i1⟩ := ih (fun x hx => h x (List.mem_cons_of_mem _ hx))
    have hd := h d (List.mem_cons_self ..)
    have hp := pow10_pos t.length
    simp only [val, List.length_cons, Int.pow_succ]
    have h1 : 0 ≤ d * 10 ^ t.length := Int.mul_nonneg hd.1 (Int.le_of_lt hp)
    have h2 : d * 10 ^ t.length ≤ 9 * 10 ^ t.length := Int.mul_le_mul_of_nonneg_right hd.2 (Int.le_of_lt hp)
    omega
theorem val_zero {ds : List Int} (h : Digs ds) : val ds = 0 ↔ ds.any (· != 0) = false := by
  induction ds with
  | nil => simp [val]
  | cons d t ih =>
    have ht : Digs t := fun x hx => h x (List.mem_cons_of_mem _ hx)
    obtain ⟨i0, i1⟩ := val_bd ht
    have hd := h d (List.mem_cons_self ..)
    have hp := pow10_pos t.length
    simp only [val, List.any_cons, Bool.or_eq_false_iff]
    rw [← ih ht, bne_eq_false_iff_eq]
    constructor
    · intro e
      rcases Int.lt_or_eq_of_le hd.1 with g | g
      · have := Int.mul_pos g hp; omega
      · rw [← g, Int.zero_mul] at e
        exact ⟨g.symm, by omega⟩
    · rintro ⟨e1, e2⟩; rw [e1, e2]; omega
theorem dbl_val (ds : List Int) : (dbl ds).2 * 10 ^ ds.length + val (dbl ds).1 = 2 * val ds := by
  induction ds with
  | nil => simp [dbl, val]
  | cons d t ih =>
    simp only [dbl, val, List.length_cons, dbl_len, Int.pow_succ]
    generalize (dbl t).2 = c at *
    generalize (10 : Int) ^ t.length = p at *
    have e := Int.mul_ediv_add_emod (2 * d + c) 10
    generalize (2 * d + c) / 10 = q at *
    generalize (2 * d + c) % 10 = r at *
    have e2 : q * (p * 10) + r * p = (2 * d + c) * p := by
      rw [← e, Int.add_mul, Int.mul_comm p 10, ← Int.mul_assoc, Int.mul_comm q 10]
    rw [Int.add_mul, Int.mul_assoc] at e2
    omega
theorem sf_len (k : Nat) : ∀ (ds : List Int) (out : Int), (sf k ds out).1.length = ds.length := by
  induction k with
  | zero => intro ds out; rfl
  | succ k ih => intro ds out; simp only [sf]; rw [ih, dbl_len]
theorem sf_digs' (k : Nat) : ∀ (ds : List Int) (out : Int), Digs ds → Digs (sf k ds out).1 := by
  induction k with
  | zero => intro ds out h; exact h
  | succ k ih => intro ds out h; exact ih _ _ (dbl_ok h).1
theorem sf_val (k : Nat) : ∀ (ds : List Int) (out : Int), (sf k ds out).2 * 10 ^ ds.length + val (sf k ds out).1 = 2 ^ k * (out * 10 ^ ds.length + val ds) := by
  induction k with
  | zero => intro ds out; simp only [sf, Int.pow_zero]; omega
  | succ k ih =>
    intro ds out
    have h1 := ih (dbl ds).1 (2 * out + (dbl ds).2)
    rw [dbl_len] at h1
    simp only [sf]
    rw [h1, Int.pow_succ, Int.mul_assoc]
    congr 1
    have h2 := dbl_val ds
    rw [Int.add_mul, Int.mul_assoc]
    generalize out * 10 ^ ds.length = x at *
    omega
theorem sf_frac {ds : List Int} (h : Digs ds) : (sf 16 ds 0).2 = dn (val ds * 65536) (10 ^ ds.length) ∧ ((sf 16 ds 0).1.any (· != 0) = true ↔ val ds * 65536 % 10 ^ ds.length ≠ 0) := by
  have hv := sf_val 16 ds 0
  rw [Int.zero_mul, Int.zero_add, show (2 : Int) ^ 16 = 65536 from rfl, Int.mul_comm 65536] at hv
  have hd := sf_digs' 16 ds 0 h
  obtain ⟨b0, b1⟩ := val_bd hd
  rw [sf_len] at b1
  have hp := pow10_pos ds.length
  have hz := val_zero hd
  generalize (10 : Int) ^ ds.length = p at *
  generalize (sf 16 ds 0).2 = o at *
  generalize hr : val (sf 16 ds 0).1 = r at *
  have e1 : val ds * 65536 / p = o := by
    rw [← hv, Int.mul_comm o p, Int.mul_add_ediv_left _ _ (by omega), Int.ediv_eq_zero_of_lt b0 b1]; omega
  have e2 : val ds * 65536 % p = r := by
    have := Int.mul_ediv_add_emod (val ds * 65536) p
    rw [e1, Int.mul_comm p o] at this; omega
  refine ⟨e1.symm, ?_⟩
  rw [e2]
  cases hc : (sf 16 ds 0).1.any (· != 0)
  · simp [hz.2 hc]
  · simp; intro h'; rw [hz.1 h'] at hc; cases hc
theorem takeWhile_dig {D R : List UInt8} (hD : ∀ c ∈ D, dig c = true) (hR : ∀ c, R.head? = some c → dig c = false) : (D ++ R).takeWhile dig = D := by
  induction D with
  | nil =>
    cases R with
    | nil => rfl
    | cons c r => rw [List.nil_append, List.takeWhile_cons, if_neg (by rw [hR c rfl]; simp)]
  | cons a t ih =>
    rw [List.cons_append, List.takeWhile_cons, if_pos (hD a (List.mem_cons_self ..)), ih (fun x hx => hD x (List.mem_cons_of_mem _ hx))]
theorem skp_app {P D R : List UInt8} (hD : ∀ c ∈ D, dig c = true) (hR : ∀ c, R.head? = some c → dig c = false) : skp (P ++ (D ++ R)) P.length = P.length + D.length := by
  unfold skp
  rw [List.drop_left, takeWhile_dig hD hR]
theorem dig46 : dig 46 = false := by decide
def txt (neg : Bool) (D F : List UInt8) : List UInt8 := (if neg then [45] else []) ++ (D ++ (if F = [] then [] else 46 :: F))
theorem hp_cons (a : UInt8) (t : List UInt8) : Lib.hasPrefix (a :: t) [45] = ((45 : UInt8) == a) := by unfold Lib.hasPrefix; simp only [List.isPrefixOf, Bool.and_true]
theorem txt_st {neg : Bool} {D F : List UInt8} (hD : ∀ c ∈ D, dig c = true) (hne : D ≠ []) : stN (txt neg D F) = (if neg then [45] else [] : List UInt8).length := by
  obtain ⟨a, t, rfl⟩ := List.exists_cons_of_ne_nil hne
  have ha := hD a (List.mem_cons_self ..)
  cases neg with
  | true => rfl
  | false =>
    have e : txt false (a :: t) F = a :: (t ++ (if F = [] then [] else 46 :: F)) := by simp [txt]
    rw [e]
    unfold stN
    rw [hp_cons, if_neg]
    · rfl
    · rw [beq_iff_eq]
      intro e
      rw [← e] at ha
      exact absurd ha (by decide)
theorem core_int {P D : List UInt8} (hD : ∀ c ∈ D, dig c = true) (hne : D ≠ []) (hst : stN (P ++ D) = P.length) :
    ptN (P ++ D) = P.length + D.length ∧ enN (P ++ D) = (P ++ D).length ∧ badN (P ++ D) = false ∧ intL (P ++ D) = D ∧ frL (P ++ D) = [] := by
  have hDl : 0 < D.length := by cases D with | nil => exact absurd rfl hne | cons a t => simp
  have hpt : ptN (P ++ D) = P.length + D.length := by
    unfold ptN; rw [hst]
    have := skp_app (P := P) (D := D) (R := []) hD (by intro c hc; cases hc)
    rwa [List.append_nil] at this
  have hlen : (P ++ D).length = P.length + D.length := List.length_append
  have hdot : dotN (P ++ D) = false := by unfold dotN; rw [hpt, List.getElem?_eq_none (by omega)]; simp
  have hen : enN (P ++ D) = (P ++ D).length := by unfold enN; rw [hdot, hpt, hlen]; rfl
  refine ⟨hpt, hen, ?_, ?_, ?_⟩
  · unfold badN
    rw [hst, hpt, hen, hlen]
    simp only [Bool.or_eq_false_iff, decide_eq_false_iff_not]
    omega
  · unfold intL
    rw [hst, hpt, Nat.add_sub_cancel_left, List.drop_left, List.take_length]
  · unfold frL
    rw [hpt, hen, hlen, List.drop_eq_nil_of_le (by omega), List.take_nil]
theorem core_frac {P D F : List UInt8} (hD : ∀ c ∈ D, dig c = true) (hne : D ≠ []) (hF : ∀ c ∈ F, dig c = true) (hnf : F ≠ []) (hst : stN (P ++ (D ++ 46 :: F)) = P.length) :
    ptN (P ++ (D ++ 46 :: F)) = P.length + D.length ∧ enN (P ++ (D ++ 46 :: F)) = (P ++ (D ++ 46 :: F)).length ∧ badN (P ++ (D ++ 46 :: F)) = false ∧ intL (P ++ (D ++ 46 :: F)) = D ∧ frL (P ++ (D ++ 46 :: F)) = F := by
  have hDl : 0 < D.length := by cases D with | nil => exact absurd rfl hne | cons a t => simp
  have hFl : 0 < F.length := by cases F with | nil => exact absurd rfl hnf | cons a t => simp
  have hpt : ptN (P ++ (D ++ 46 :: F)) = P.length + D.length := by
    unfold ptN; rw [hst]
    exact skp_app (P := P) (D := D) (R := 46 :: F) hD (by intro c hc; cases hc; exact dig46)
  have hlen : (P ++ (D ++ 46 :: F)).length = P.length + D.length + F.length + 1 := by simp; omega
  have hassoc : P ++ (D ++ 46 :: F) = (P ++ (D ++ [46])) ++ F := by simp
  have hl2 : (P ++ (D ++ [46])).length = P.length + D.length + 1 := by simp; omega
  have hget : (P ++ (D ++ 46 :: F))[P.length + D.length]? = some 46 := by
    rw [List.getElem?_append_right (by omega), Nat.add_sub_cancel_left, List.getElem?_append_right (by omega), Nat.sub_self]; rfl
  have hdot : dotN (P ++ (D ++ 46 :: F)) = true := by
    unfold dotN; rw [hpt, hst, hget, decide_eq_true (by omega)]; rfl
  have hen : enN (P ++ (D ++ 46 :: F)) = (P ++ (D ++ 46 :: F)).length := by
    unfold enN
    rw [hdot, hpt, if_pos rfl, hlen, hassoc, ← hl2]
    have := skp_app (P := P ++ (D ++ [46])) (D := F) (R := []) hF (by intro c hc; cases hc)
    rw [List.append_nil] at this
    rw [this]; omega
  refine ⟨hpt, hen, ?_, ?_, ?_⟩
  · unfold badN
    rw [hst, hpt, hen, hlen]
    simp only [Bool.or_eq_false_iff, decide_eq_false_iff_not]
    omega
  · unfold intL
    rw [hst, hpt, Nat.add_sub_cancel_left, List.drop_left, List.take_left]
  · unfold frL
    rw [hpt, hen, hlen, show min (P.length + D.length + 1) (P.length + D.length + F.length + 1) = P.length + D.length + 1 from by omega, hassoc, ← hl2, List.drop_left, List.take_of_length_le (by omega)]
theorem sign_len (neg : Bool) : (if neg then [45] else [] : List UInt8).length = (if neg then 1 else 0) := by cases neg <;> rfl
theorem txt_parts {neg : Bool} {D F : List UInt8} (hD : ∀ c ∈ D, dig c = true) (hne : D ≠ []) (hF : ∀ c ∈ F, dig c = true) :
    stN (txt neg D F) = (if neg then 1 else 0) ∧ ptN (txt neg D F) = (if neg then 1 else 0) + D.length ∧ enN (txt neg D F) = (txt neg D F).length ∧ badN (txt neg D F) = false ∧ intL (txt neg D F) = D ∧ frL (txt neg D F) = F := by
  have hst := txt_st (neg := neg) (D := D) (F := F) hD hne
  rw [← sign_len neg]
  refine ⟨hst, ?_⟩
  by_cases hf : F = []
  · subst hf
    have e : txt neg D [] = (if neg then [45] else []) ++ D := by simp [txt]
    rw [e] at hst ⊢
    exact core_int hD hne hst
  · have e : txt neg D F = (if neg then [45] else []) ++ (D ++ 46 :: F) := by unfold txt; rw [if_neg hf]
    rw [e] at hst ⊢
    exact core_frac hD hne hF hf hst
def txtLo (N : Nat) (F : List UInt8) : Int := N * 65536 + dn (val (F.map fun b => (b.toNat : Int) - 48) * 65536) (10 ^ F.length)
def txtHi (N : Nat) (F : List UInt8) : Int := N * 65536 + up (val (F.map fun b => (b.toNat : Int) - 48) * 65536) (10 ^ F.length)
theorem parse_txt {neg : Bool} {D F : List UInt8} (hD : ∀ c ∈ D, dig c = true) (hne : D ≠ []) (hF : ∀ c ∈ F, dig c = true) (hN : decN D 0 < 32768) (hhi : txtHi (decN D 0) F < 2147483648) :
    parseL (txt neg D F) = if neg then (-txtHi (decN D 0) F, -txtLo (decN D 0) F, 0, 0) else (txtLo (decN D 0) F, txtHi (decN D 0) F, 0, 0) := by
  obtain ⟨h1, h2, h3, h4, h5, h6⟩ := txt_parts (neg := neg) hD hne hF
  have hi : intN (txt neg D F) = decN D 0 := by unfold intN; rw [h5]
  have hdg : Digs (F.map fun b => (b.toNat : Int) - 48) := dig_digs hF
  have hfr : frN (txt neg D F) = F.map fun b => (b.toNat : Int) - 48 := by unfold frN; rw [h6]
  obtain ⟨f1, f2⟩ := sf_frac hdg
  rw [List.length_map] at f1 f2
  have hlo : loN (txt neg D F) = txtLo (decN D 0) F := by unfold loN txtLo; rw [hi, hfr, f1]
  have hhi' : hiN (txt neg D F) = txtHi (decN D 0) F := by
    unfold hiN
    rw [hlo, hfr]
    unfold txtHi txtLo
    by_cases hz : val (F.map fun b => (b.toNat : Int) - 48) * 65536 % 10 ^ F.length = 0
    · rw [if_neg (fun h => f2.1 h hz), up_exact hz]; rfl
    · have hp := pow10_pos F.length
      have := Int.emod_nonneg (val (F.map fun b => (b.toNat : Int) - 48) * 65536) (show (10 : Int) ^ F.length ≠ 0 by omega)
      rw [if_pos (f2.2 hz), up_next (by omega)]; unfold dn; omega
  unfold parseL
  rw [h4, hi, hhi', hlo, h1, if_neg (show ¬ (false = true) by simp), if_neg (by omega)]
  cases neg <;> rfl
theorem decN_app (l : List UInt8) (c : UInt8) : ∀ acc, decN (l ++ [c]) acc = decN l acc * 10 + (c.toNat - 48) := by
  induction l with
  | nil => intro acc; rfl
  | cons a t ih => intro acc; exact ih _
theorem toNat48 (u : Nat) (h : u < 10) : (UInt8.ofNat (48 + u)).toNat = 48 + u := by rw [UInt8.toNat_ofNat']; omega
theorem decDigits_facts (u : Nat) : (∀ c ∈ Lib.decDigits u, dig c = true) ∧ Lib.decDigits u ≠ [] ∧ decN (Lib.decDigits u) 0 = u ∧ ((Lib.decDigits u).head? = some 48 → u = 0) := by
  induction u using Nat.strongRecOn with
  | _ u ih =>
    unfold Lib.decDigits
    split
    · rename_i h
      have ht := toNat48 u h
      refine ⟨?_, by simp, ?_, ?_⟩
      · intro c hc
        rw [List.mem_singleton] at hc
        subst hc
        unfold dig; rw [ht]; simp; omega
      · simp only [decN]; rw [ht]; omega
      · intro e
        simp only [List.head?_cons, Option.some.injEq] at e
        have := congrArg UInt8.toNat e
        rw [ht] at this
        have e48 : (48 : UInt8).toNat = 48 := rfl
        omega
    · rename_i h
      obtain ⟨i1, i2, i3, i4⟩ := ih (u / 10) (by omega)
      have ht := toNat48 (u % 10) (by omega)
      refine ⟨?_, by simp, ?_, ?_⟩
      · intro c hc
        rcases List.mem_append.1 hc with g | g
        · exact i1 c g
        · rw [List.mem_singleton] at g
          subst g
          unfold dig; rw [ht]; simp; omega
      · rw [decN_app, i3, ht]; omega
      · intro e
        obtain ⟨a, t, hat⟩ := List.exists_cons_of_ne_nil i2
        rw [hat, List.cons_append, List.head?_cons] at e
        rw [hat, List.head?_cons] at i4
        have := i4 e
        omega
theorem decDigits_lenk : ∀ (k u : Nat), u < 10 ^ (k + 1) → (Lib.decDigits u).length ≤ k + 1 := by
  intro k
  induction k with
  | zero => intro u h; unfold Lib.decDigits; rw [dif_pos (by omega)]; simp
  | succ k ih =>
    intro u h
    unfold Lib.decDigits
    split
    · simp
    · rw [List.length_append]
      have := ih (u / 10) (by rw [Nat.pow_succ] at h; omega)
      simp only [List.length_cons, List.length_nil]; omega
end Go.Proofs.YthcidkidpiaomaaGreatDoor.Fx
end
section
set_option linter.unusedVariables false
namespace Go.Proofs.YthcidkidpiaomaaGreatDoor.Fx
theorem byte48 (d : Int) (h0 : 0 ≤ d) (h1 : d ≤ 9) : (UInt8.ofNat (48 + d.toNat)).toNat = 48 + d.toNat := toNat48 _ (by omega)
theorem fracL_dig : ∀ (g : Nat) (f : Int), 0 ≤ f → f < 65536 → ∀ c ∈ fracL g f, dig c = true := by
  intro g
  induction g with
  | zero => intro f _ _ c hc; cases hc
  | succ g ih =>
    intro f h0 h1 c hc
    simp only [fracL] at hc
    split at hc
    · cases hc
    · rcases List.mem_cons.1 hc with rfl | hc
      · have := byte48 (f * 10 / 65536) (by omega) (by omega)
        unfold dig; rw [this]; simp; omega
      · exact ih _ (by omega) (by omega) c hc
theorem fracL_nil {g : Nat} {f : Int} (hg : 1 ≤ g) (h : 0 ≤ f) : fracL g f = [] ↔ f = 0 := by
  obtain ⟨g, rfl⟩ : ∃ m, g = m + 1 := ⟨g - 1, by omega⟩
  simp only [fracL]
  split
  · simp; omega
  · simp; omega
theorem fracL_val : ∀ (g : Nat) (f : Int), 0 ≤ f → f < 65536 → (65536 : Int) ∣ f * 2 ^ g → val ((fracL g f).map fun b => (b.toNat : Int) - 48) * 65536 = f * 10 ^ (fracL g f).length := by
  intro g
  induction g with
  | zero =>
    intro f h0 h1 hd
    rw [Int.pow_zero, Int.mul_one] at hd
    have := Int.emod_eq_zero_of_dvd hd
    have e : f = 0 := by omega
    subst e; simp [fracL, val]
  | succ g ih =>
    intro f h0 h1 hd
    simp only [fracL]
    split
    · have e : f = 0 := by omega
      subst e; simp [val]
    · have hi := ih (f * 10 % 65536) (by omega) (by omega) (dvd_round hd)
      have hb := byte48 (f * 10 / 65536) (by omega) (by omega)
      simp only [List.map_cons, val, List.length_map, List.length_cons, Int.pow_succ]
      rw [hb]
      generalize (fracL g (f * 10 % 65536)).length = n at *
      generalize (10 : Int) ^ n = p at *
      rw [Int.add_mul, hi]
      have e := Int.mul_ediv_add_emod (f * 10) 65536
      have q0 : 0 ≤ f * 10 / 65536 := by omega
      generalize f * 10 / 65536 = q at *
      generalize f * 10 % 65536 = r at *
      have e1 : ((48 + q.toNat : Nat) : Int) - 48 = q := by omega
      rw [e1]
      have e2 : (65536 * q + r) * p = f * 10 * p := by rw [e]
      rw [Int.add_mul] at e2
      rw [Int.mul_comm p 10, ← Int.mul_assoc f 10 p, ← e2, Int.mul_right_comm q p 65536, Int.mul_comm q 65536]
def fmtD (a : Int) : List UInt8 := Lib.decDigits (a.natAbs / 65536)
def fmtF (a : Int) : List UInt8 := fracL 16 ((a.natAbs : Int) % 65536)
theorem fmtP_txt (x : Int) (h : 0 ≤ x) : fmtP x = Lib.decDigits (x / 65536).toNat ++ (if fracL 16 (x % 65536) = [] then [] else 46 :: fracL 16 (x % 65536)) := by
  unfold fmtP
  by_cases hz : x % 65536 = 0
  · rw [if_pos hz, if_pos ((fracL_nil (by omega) (by omega)).2 hz)]
  · rw [if_neg hz, if_neg (fun e => hz ((fracL_nil (by omega) (by omega)).1 e))]
theorem fmtL_txt (a : Int) : fmtL a = txt (decide (a < 0)) (fmtD a) (fmtF a) := by
  unfold fmtL txt fmtD fmtF
  by_cases h : a < 0
  · rw [if_pos h, fmtP_txt _ (by omega), show ((-a) / 65536).toNat = a.natAbs / 65536 from by omega, show (-a) % 65536 = (a.natAbs : Int) % 65536 from by omega]
    simp [h]
  · rw [if_neg h, fmtP_txt _ (by omega), show (a / 65536).toNat = a.natAbs / 65536 from by omega, show a % 65536 = (a.natAbs : Int) % 65536 from by omega]
    simp [h]
theorem fmt_vals (a : Int) : txtLo (decN (fmtD a) 0) (fmtF a) = a.natAbs ∧ txtHi (decN (fmtD a) 0) (fmtF a) = a.natAbs := by
  have hd := (decDigits_facts (a.natAbs / 65536)).2.2.1
  have hv := fracL_val 16 ((a.natAbs : Int) % 65536) (by omega) (by omega) (dvd_start _)
  have hp := pow10_pos (fmtF a).length
  unfold txtLo txtHi fmtD
  rw [hd]
  unfold fmtF at hp ⊢
  rw [hv, (dn_exact (by omega)).1, (dn_exact (by omega)).2]
  omega
where
  dn_exact {A d : Int} (hd : 0 < d) : dn (A * d) d = A ∧ up (A * d) d = A := by
    have e : A * d % d = 0 := Int.mul_emod_left _ _
    refine ⟨Int.mul_ediv_cancel _ (by omega), ?_⟩
    rw [up_exact e]; exact Int.mul_ediv_cancel _ (by omega)
theorem parse_fmt (a : Int) (h0 : -2147483648 < a) (h1 : a < 2147483648) : parseL (fmtL a) = (a, a, 0, 0) := by
  obtain ⟨d1, d2, d3, _⟩ := decDigits_facts (a.natAbs / 65536)
  obtain ⟨v1, v2⟩ := fmt_vals a
  rw [fmtL_txt, parse_txt (D := fmtD a) (F := fmtF a) d1 d2 (fracL_dig 16 _ (by omega) (by omega)) (by show decN (Lib.decDigits (a.natAbs / 65536)) 0 < 32768; rw [d3]; omega) (by rw [v2]; omega), v1, v2]
  by_cases h : a < 0
  · simp only [h, decide_true, if_true]
    rw [show -(a.natAbs : Int) = a from by omega]
  · simp only [h, decide_false]
    rw [show (a.natAbs : Int) = a from by omega]; rfl
end Go.Proofs.YthcidkidpiaomaaGreatDoor.Fx
end
section
set_option linter.unusedVariables false
namespace Go.Proofs.YthcidkidpiaomaaGreatDoor.Od
def At (L : List UInt8) (p : Nat) (T : List UInt8) : Prop := L.drop p = T ∧ p ≤ L.length
section
variable {nl : Bool} {L : List UInt8} {p q : Nat} {x a R : List UInt8} {c : UInt8}
theorem At.zero : At L 0 L := ⟨rfl, Nat.zero_le _⟩
theorem At.next (h : At L p (a ++ R)) : At L (p + a.length) R := by
  obtain ⟨h1, h2⟩ := h
  have h3 : L.length - p = (a ++ R).length := by rw [← h1, List.length_drop]
  rw [List.length_append] at h3
  exact ⟨by rw [← List.drop_drop, h1, List.drop_left], by omega⟩
theorem At.next1 (h : At L p (c :: R)) : At L (p + 1) R := At.next (a := [c]) h
theorem At.get (h : At L p (c :: R)) : L[p]? = some c := by
  have h1 : (L.drop p)[0]? = some c := by rw [h.1]; rfl
  rw [List.getElem?_drop] at h1
  exact h1
theorem At.fin (h : At L p []) : p = L.length := by
  have := congrArg List.length h.1
  rw [List.length_drop] at this
  have h2 := h.2
  simp only [List.length_nil] at this
  omega
theorem At.none (h : At L p []) : L[p]? = none := by rw [h.fin]; simp
theorem At.len (h : At L p x) : p + x.length = L.length := by
  have := congrArg List.length h.1
  rw [List.length_drop] at this
  have := h.2
  omega
theorem sub_at (h : At L p (x ++ R)) : sub L p (p + x.length) = x := by
  unfold sub
  rw [h.1, Nat.add_sub_cancel_left, List.take_left]
theorem takeWhile_all (f : UInt8 → Bool) {D R : List UInt8} (hD : ∀ c ∈ D, f c = true) (hR : ∀ c, R.head? = some c → f c = false) : (D ++ R).takeWhile f = D := by
  induction D with
  | nil =>
    cases R with
    | nil => rfl
    | cons c r => rw [List.nil_append, List.takeWhile_cons, if_neg (by rw [hR c rfl]; simp)]
  | cons a t ih =>
    rw [List.cons_append, List.takeWhile_cons, if_pos (hD a (List.mem_cons_self ..)), ih (fun x hx => hD x (List.mem_cons_of_mem _ hx))]
theorem skp_text (f : UInt8 → Bool) (h : At L p (x ++ R)) (hx : ∀ c ∈ x, f c = true) (hR : ∀ c, R.head? = some c → f c = false) : skp f L p = p + x.length := by
  unfold skp
  rw [h.1, takeWhile_all f hx hR]
theorem skp_none (f : UInt8 → Bool) (h : At L p R) (hR : ∀ c, R.head? = some c → f c = false) : skp f L p = p := skp_text (x := []) f h (by simp) hR
theorem ch_kind (h : isCh c = true) : isLt c = false ∧ isDg c = false ∧ isWs c = false := by
  simp only [isCh, List.contains_eq_mem, List.mem_cons, List.not_mem_nil, or_false, decide_eq_true_eq] at h
  rcases h with rfl | rfl | rfl | rfl | rfl | rfl | rfl | rfl | rfl | rfl | rfl <;> decide
theorem lt_kind (h : isLt c = true) : isDg c = false ∧ isWs c = false ∧ isCh c = false := by
  have h1 : 97 ≤ c.toNat ∧ c.toNat ≤ 122 := by simpa [isLt, UInt8.le_iff_toNat_le] using h
  refine ⟨?_, ?_, ?_⟩
  · simp [isDg, UInt8.le_iff_toNat_le]; omega
  · simp only [isWs, Bool.or_eq_false_iff, beq_eq_false_iff_ne]
    refine ⟨⟨?_, ?_⟩, ?_⟩ <;> (rintro rfl; simp at h1)
  · cases hc : isCh c with
    | false => rfl
    | true => rw [(ch_kind hc).1] at h; cases h
theorem dg_kind (h : isDg c = true) : isLt c = false ∧ isWs c = false ∧ isCh c = false := by
  have h1 : 48 ≤ c.toNat ∧ c.toNat ≤ 57 := by simpa [isDg, UInt8.le_iff_toNat_le] using h
  refine ⟨?_, ?_, ?_⟩
  · simp [isLt, UInt8.le_iff_toNat_le]; omega
  · simp only [isWs, Bool.or_eq_false_iff, beq_eq_false_iff_ne]
    refine ⟨⟨?_, ?_⟩, ?_⟩ <;> (rintro rfl; simp at h1)
  · cases hc : isCh c with
    | false => rfl
    | true => rw [(ch_kind hc).2.1] at h; cases h
theorem tok_end (h : At L q []) : tokAt nl L q = ⟨0, q, q⟩ := by unfold tokAt; rw [h.none]
theorem tok_ch (h : At L q (c :: R)) (hc : isCh c = true) : tokAt nl L q = ⟨3, q, q + 1⟩ := by
  unfold tokAt
  rw [h.get]
  simp only
  rw [if_neg (by rw [(ch_kind hc).1]; simp), if_neg (by rw [(ch_kind hc).2.1]; simp), if_pos (by rw [hc]; simp)]
theorem tok_nl (h : At L q (10 :: R)) : tokAt true L q = ⟨3, q, q + 1⟩ := by
  unfold tokAt
  rw [h.get]
  simp only
  rw [if_neg (by decide), if_neg (by decide), if_pos (by decide)]
theorem tok_word (h : At L q (c :: x ++ R)) (h0 : isLt c = true) (hx : ∀ d ∈ x, isLD d = true) (hR : ∀ d, R.head? = some d → isLD d = false) : tokAt nl L q = ⟨1, q, q + (c :: x).length⟩ := by
  have hs := skp_text isLD h (by intro d hd; rcases List.mem_cons.1 hd with rfl | hd; · simp [isLD, h0]
                                 · exact hx d hd) hR
  unfold tokAt
  rw [At.get (R := x ++ R) h]
  simp only
  rw [if_pos h0, hs]
theorem dig_dg (h : Fx.dig c = true) : isDg c = true := by
  unfold Fx.dig at h
  unfold isDg
  simpa [UInt8.le_iff_toNat_le] using h
def Stop (R : List UInt8) : Prop := ∀ c, R.head? = some c → isLD c = false ∧ c ≠ 46
theorem tok_num {D F : List UInt8} (h : At L q (D ++ (if F = [] then [] else 46 :: F) ++ R)) (hD : ∀ c ∈ D, isDg c = true) (hne : D ≠ []) (hF : ∀ c ∈ F, isDg c = true) (hR : Stop R) :
    tokAt nl L q = ⟨2, q, q + (D ++ (if F = [] then [] else 46 :: F)).length⟩ := by
  obtain ⟨d, D', rfl⟩ := List.exists_cons_of_ne_nil hne
  have hd := hD d (List.mem_cons_self ..)
  have hR' : ∀ c, R.head? = some c → isDg c = false := fun c hc => by
    have := (hR c hc).1
    simp only [isLD, Bool.or_eq_false_iff] at this
    exact this.2
  have hE : numEnd L q = q + ((d :: D') ++ (if F = [] then [] else 46 :: F)).length := by
    by_cases hf : F = []
    · subst hf
      simp only [if_true, List.append_nil] at h ⊢
      have hs := skp_text isDg h hD hR'
      have hn := h.next
      unfold numEnd
      simp only
      rw [hs, if_neg]
      rintro ⟨h46, -⟩
      cases R with
      | nil => rw [hn.none] at h46; cases h46
      | cons r R =>
        rw [hn.get] at h46
        have := (hR r rfl).2
        injection h46 with h46
        exact this h46
    · rw [if_neg hf] at h ⊢
      have h1 : At L q ((d :: D') ++ (46 :: F ++ R)) := by simpa using h
      have hs := skp_text isDg h1 hD (by intro c hc; simp at hc; subst hc; decide)
      have hn := h1.next
      have hn1 := At.next1 (R := F ++ R) hn
      have hs2 := skp_text isDg hn1 hF hR'
      obtain ⟨f, F', rfl⟩ := List.exists_cons_of_ne_nil hf
      unfold numEnd
      simp only
      rw [hs, if_pos ⟨At.get (R := (f :: F') ++ R) hn, by rw [At.get (R := F' ++ R) hn1]; simpa using hF f (List.mem_cons_self ..)⟩, hs2]
      simp only [List.length_append, List.length_cons]
      omega
  unfold tokAt
  rw [At.get (R := D' ++ (if F = [] then [] else 46 :: F) ++ R) (by simpa using h)]
  simp only
  rw [if_neg (by rw [(dg_kind hd).1]; simp), if_pos hd, hE]
theorem accept_tok {σ : PS} {t : Tok} (x : List UInt8) (hq : skp isWs L σ.pos = q) (ht : tokAt nl L q = t) :
    accept nl L x σ = if (t.kind = 3 ∨ t.kind = 1) ∧ sub L q t.hi = x then .ok true { σ with pos := q + x.length } else .ok false { σ with pos := q } := by
  have hlo : t.lo = q := by rw [← ht]; exact tokAt_lo nl L q
  have hp : peekT nl L σ.pos = t := by unfold peekT; rw [hq, ht]
  unfold accept
  rw [hp, hlo]
  have hi : isTok nl L x σ.pos = true ↔ (t.kind = 3 ∨ t.kind = 1) ∧ sub L q t.hi = x := by
    unfold isTok
    rw [hp]
    simp only [Bool.and_eq_true, Bool.or_eq_true, beq_iff_eq]
    constructor
    · rintro ⟨hk, hx⟩
      rw [Tok.txt, if_neg (by omega), hlo] at hx
      exact ⟨hk, hx⟩
    · rintro ⟨hk, hx⟩
      refine ⟨hk, ?_⟩
      rw [Tok.txt, if_neg (by omega), hlo]
      exact hx
  by_cases h : isTok nl L x σ.pos = true
  · rw [if_pos h, if_pos (hi.1 h)]
  · rw [if_neg h, if_neg (fun e => h (hi.2 e))]
def NotCh (nl : Bool) (L : List UInt8) (q : Nat) (d : UInt8) : Prop := ∀ σ : PS, skp isWs L σ.pos = q → accept nl L [d] σ = .ok false { σ with pos := q }
def IsCh (nl : Bool) (L : List UInt8) (q : Nat) (d : UInt8) : Prop := ∀ σ : PS, skp isWs L σ.pos = q → accept nl L [d] σ = .ok true { σ with pos := q + 1 }
theorem IsCh.of (h : At L q (c :: R)) (hc : isCh c = true) : IsCh nl L q c := fun σ hq => by
  rw [accept_tok [c] hq (tok_ch h hc), if_pos]
  · rfl
  · exact ⟨Or.inl rfl, sub_at (x := [c]) h⟩
theorem IsCh.ofNl (h : At L q (10 :: R)) : IsCh true L q 10 := fun σ hq => by
  rw [accept_tok [10] hq (tok_nl h), if_pos]
  · rfl
  · exact ⟨Or.inl rfl, sub_at (x := [10]) h⟩
theorem NotCh.at {d : UInt8} (h : At L q (c :: R)) (hd : c ≠ d) : NotCh nl L q d := fun σ hq => by
  rw [accept_tok [d] hq rfl, if_neg]
  rintro ⟨-, h2⟩
  unfold sub at h2
  rw [h.1] at h2
  cases hk : (tokAt nl L q).hi - q with
  | zero => rw [hk] at h2; cases h2
  | succ k => rw [hk, List.take_succ_cons] at h2; injection h2 with h2; exact hd h2
theorem NotCh.fin {d : UInt8} (h : At L q []) : NotCh nl L q d := fun σ hq => by
  rw [accept_tok [d] hq (tok_end h), if_neg (by rintro ⟨h1 | h1, -⟩ <;> cases h1)]
end
theorem bind_ok {α β : Type} {m : Pr α} {f : α → Pr β} {s s' : PS} {a : α} (h : m s = .ok a s') : (m.bind f) s = f a s' := by unfold Pr.bind; rw [h]
theorem map_ok {α β : Type} {m : Pr α} {f : α → β} {s s' : PS} {a : α} (h : m s = .ok a s') : (m.map f) s = .ok (f a) s' := bind_ok h
def vs : Tr → List Nat
  | .var n => [n]
  | .un _ a => vs a
  | .bin _ a b => vs a ++ vs b
  | _ => []
def rn : Tr → Nat → Tr
  | .var n, k => .var k
  | .un op a, k => .un op (rn a k)
  | .bin op a b, k => .bin op (rn a k) (rn b (k + (vs a).length))
  | t, _ => t
def wrd (L : List UInt8) (r : Nat × Nat) : List UInt8 := sub L r.1 r.2
def Reads (L : List UInt8) (vars : List (List UInt8)) (m : Pr Tr) (p q : Nat) (t : Tr) : Prop :=
  ∀ σ : PS, skp isWs L σ.pos = p → ∃ nm, m σ = .ok (rn t σ.names.length) ⟨q, σ.names ++ nm, σ.bad⟩ ∧ nm.map (wrd L) = (vs t).map (fun n => vars.getD n [])
def ReadsC (L : List UInt8) (vars : List (List UInt8)) (m : Tr → Pr Tr) (p q : Nat) (e t : Tr) : Prop :=
  ∀ (σ : PS) (k0 : Nat), skp isWs L σ.pos = p → σ.names.length = k0 + (vs e).length →
    ∃ nm, m (rn e k0) σ = .ok (rn t k0) ⟨q, σ.names ++ nm, σ.bad⟩ ∧ (vs e).map (fun n => vars.getD n []) ++ nm.map (wrd L) = (vs t).map (fun n => vars.getD n [])
section
variable {nl : Bool} {L : List UInt8} {vars : List (List UInt8)} {p q r : Nat}
theorem nm_len {t : Tr} {nm : List (Nat × Nat)} (h : nm.map (wrd L) = (vs t).map (fun n => vars.getD n [])) : nm.length = (vs t).length := by
  have := congrArg List.length h
  simpa using this
theorem Reads.chain {op : Pr Tr} {m : Tr → Pr Tr} {e t : Tr} (h : Reads L vars op p q e) (k : ReadsC L vars m (skp isWs L q) r e t) : Reads L vars (op.bind m) p r t := by
  intro σ hp
  obtain ⟨nm, h1, h2⟩ := h σ hp
  obtain ⟨nm', h3, h4⟩ := k ⟨q, σ.names ++ nm, σ.bad⟩ σ.names.length rfl (by simp [nm_len h2])
  refine ⟨nm ++ nm', ?_, by rw [List.map_append, h2, h4]⟩
  rw [bind_ok h1, h3, List.append_assoc]
theorem chain_eq (op : Pr Tr) (c d : List UInt8) (f g : Int) (k : Nat) (e : Tr) : Od.chain nl L op c d f g (k + 1) e = (Od.accept nl L c).bind fun b => if b then op.bind fun r => Od.chain nl L op c d f g k (Tr.bin f e r) else (Od.accept nl L d).bind fun b => if b then op.bind fun r => Od.chain nl L op c d f g k (Tr.bin g e r) else Pr.ret e := rfl
theorem ReadsC.stop {op : Pr Tr} {c d : UInt8} {f g : Int} {k : Nat} {e : Tr} (hc : NotCh nl L p c) (hd : NotCh nl L p d) : ReadsC L vars (Od.chain nl L op [c] [d] f g (k + 1)) p p e e := by
  intro σ k0 hp hl
  refine ⟨[], ?_, by simp⟩
  have hpp : skp isWs L p = p := by rw [← hp]; exact skp_idem isWs L _
  rw [chain_eq, bind_ok (hc σ hp), if_neg (by decide), bind_ok (hd { σ with pos := p } hpp), if_neg (by decide), List.append_nil]
  rfl
theorem ReadsC.first {op : Pr Tr} {c : UInt8} {d : List UInt8} {f g : Int} {k : Nat} {e a t : Tr} (hc : IsCh nl L p c) (h : Reads L vars op (skp isWs L (p + 1)) q a) (k' : ReadsC L vars (Od.chain nl L op [c] d f g k) (skp isWs L q) r (.bin f e a) t) :
    ReadsC L vars (Od.chain nl L op [c] d f g (k + 1)) p r e t := by
  intro σ k0 hp hl
  obtain ⟨nm, h1, h2⟩ := h { σ with pos := p + 1 } rfl
  obtain ⟨nm', h3, h4⟩ := k' ⟨q, σ.names ++ nm, σ.bad⟩ k0 rfl (by simp [nm_len h2, vs, hl]; omega)
  simp only at h1
  rw [hl] at h1
  refine ⟨nm ++ nm', ?_, ?_⟩
  · rw [chain_eq, bind_ok (hc σ hp), if_pos rfl, bind_ok h1]
    rw [show Tr.bin f (rn e k0) (rn a (k0 + (vs e).length)) = rn (.bin f e a) k0 from rfl, h3, List.append_assoc]
  · rw [List.map_append, h2, ← h4]
    simp [vs]
theorem ReadsC.second {op : Pr Tr} {c d : UInt8} {f g : Int} {k : Nat} {e a t : Tr} (hc : NotCh nl L p c) (hd : IsCh nl L p d) (h : Reads L vars op (skp isWs L (p + 1)) q a) (k' : ReadsC L vars (Od.chain nl L op [c] [d] f g k) (skp isWs L q) r (.bin g e a) t) :
    ReadsC L vars (Od.chain nl L op [c] [d] f g (k + 1)) p r e t := by
  intro σ k0 hp hl
  have hpp : skp isWs L p = p := by rw [← hp]; exact skp_idem isWs L _
  obtain ⟨nm, h1, h2⟩ := h { σ with pos := p + 1 } rfl
  obtain ⟨nm', h3, h4⟩ := k' ⟨q, σ.names ++ nm, σ.bad⟩ k0 rfl (by simp [nm_len h2, vs, hl]; omega)
  simp only at h1
  rw [hl] at h1
  refine ⟨nm ++ nm', ?_, ?_⟩
  · rw [chain_eq, bind_ok (hc σ hp), if_neg (by decide), bind_ok (hd { σ with pos := p } hpp), if_pos rfl, bind_ok h1]
    rw [show Tr.bin g (rn e k0) (rn a (k0 + (vs e).length)) = rn (.bin g e a) k0 from rfl, h3, List.append_assoc]
  · rw [List.map_append, h2, ← h4]
    simp [vs]
theorem factor_eq (sum : Pr Tr) (k : Nat) : Od.factor nl L sum (k + 1) = (Od.accept nl L [45]).bind fun b => if b then (Od.factor nl L sum k).map (Tr.un 4) else Od.atom nl L sum := rfl
theorem Reads.factor {sum : Pr Tr} {t : Tr} {k : Nat} (hn : NotCh nl L p 45) (h : Reads L vars (Od.atom nl L sum) p q t) : Reads L vars (Od.factor nl L sum (k + 1)) p q t := by
  intro σ hp
  have hpp : skp isWs L p = p := by rw [← hp]; exact skp_idem isWs L _
  obtain ⟨nm, h1, h2⟩ := h { σ with pos := p } hpp
  refine ⟨nm, ?_, h2⟩
  rw [factor_eq, bind_ok (hn σ hp), if_neg (by decide)]
  exact h1
theorem Reads.neg {sum : Pr Tr} {t : Tr} {k : Nat} (hn : IsCh nl L p 45) (h : Reads L vars (Od.factor nl L sum k) (skp isWs L (p + 1)) q t) : Reads L vars (Od.factor nl L sum (k + 1)) p q (.un 4 t) := by
  intro σ hp
  obtain ⟨nm, h1, h2⟩ := h { σ with pos := p + 1 } rfl
  refine ⟨nm, ?_, h2⟩
  rw [factor_eq, bind_ok (hn σ hp), if_pos rfl, map_ok h1]
  rfl
theorem expect_ch {c : UInt8} (h : IsCh nl L p c) (σ : PS) (hp : skp isWs L σ.pos = p) : Od.expect nl L [c] σ = .ok () { σ with pos := p + 1 } := by
  unfold Od.expect
  rw [bind_ok (h σ hp), if_pos rfl]
  rfl
theorem Reads.paren {sum : Pr Tr} {t : Tr} (hn : IsCh nl L p 40) (h : Reads L vars sum (skp isWs L (p + 1)) q t) (hc : IsCh nl L (skp isWs L q) 41) : Reads L vars (Od.paren nl L sum) p (skp isWs L q + 1) t := by
  intro σ hp
  obtain ⟨nm, h1, h2⟩ := h { σ with pos := p + 1 } rfl
  refine ⟨nm, ?_, h2⟩
  unfold Od.paren
  rw [bind_ok (expect_ch hn σ hp), bind_ok h1, bind_ok (expect_ch hc ⟨q, σ.names ++ nm, σ.bad⟩ rfl)]
  rfl
end
end Go.Proofs.YthcidkidpiaomaaGreatDoor.Od
end
section
set_option linter.unusedVariables false
namespace Go.Proofs.YthcidkidpiaomaaGreatDoor.Od
def ErrAt (L : List UInt8) (c : Int) (o : Nat) : Prop := (c = 70 ∧ o < L.length) ∨ (c = 71 ∧ o = L.length)
def Nice (L : List UInt8) {α : Type} (N0 : Nat) (m : Pr α) (P : α → Nat → Prop) : Prop :=
  ∀ s : PS, s.pos ≤ L.length → (∀ r ∈ s.names, r.1 < L.length) → N0 ≤ s.names.length →
    (∀ a s', m s = .ok a s' → s'.pos ≤ L.length ∧ s.names.length ≤ s'.names.length ∧ (∀ r ∈ s'.names, r.1 < L.length) ∧ P a s'.names.length) ∧ (∀ c o, m s = .err c o → ErrAt L c o)
def All {α : Type} : α → Nat → Prop := fun _ _ => True
def Vrs : Tr → Nat → Prop := fun t N => ∀ x ∈ flat t, x.op = 2 → 0 ≤ x.n ∧ x.n.toNat < N
theorem Vrs.mono {t : Tr} {N N' : Nat} (h : Vrs t N) (hN : N ≤ N') : Vrs t N' := fun x hx ho => by have := h x hx ho; omega
theorem Vrs.un {op : Int} {a : Tr} {N : Nat} (ho : op ≠ 2) (h : Vrs a N) : Vrs (.un op a) N := fun x hx hx2 => by
  rcases List.mem_cons.1 hx with rfl | hx
  · exact absurd hx2 ho
  · exact h x hx hx2
theorem Vrs.bin {op : Int} {a b : Tr} {N : Nat} (ho : op ≠ 2) (h : Vrs a N) (h' : Vrs b N) : Vrs (.bin op a b) N := fun x hx hx2 => by
  rcases List.mem_cons.1 hx with rfl | hx
  · exact absurd hx2 ho
  · rcases List.mem_append.1 hx with hx | hx
    · exact h x hx hx2
    · exact h' x hx hx2
theorem Vrs.num (lo hi : Int) (N : Nat) : Vrs (.num lo hi) N := fun x hx hx2 => by
  obtain rfl := List.mem_singleton.1 hx
  cases hx2
section
variable {nl : Bool} {L : List UInt8} {α β : Type} {N0 : Nat}
theorem Nice.bind {m : Pr α} {f : α → Pr β} {P : α → Nat → Prop} {Q : β → Nat → Prop} (h : Nice L N0 m P) (k : ∀ a N1, N0 ≤ N1 → P a N1 → Nice L N1 (f a) Q) : Nice L N0 (m.bind f) Q := by
  intro s h1 h2 h3
  obtain ⟨ho, he⟩ := h s h1 h2 h3
  cases hm : m s with
  | err c o =>
    refine ⟨fun a s' h => ?_, fun c' o' h => ?_⟩
    · unfold Pr.bind at h; rw [hm] at h; cases h
    · unfold Pr.bind at h; rw [hm] at h; injection h with e1 e2; subst e1; subst e2; exact he _ _ hm
  | ok a s1 =>
    obtain ⟨b1, b2, b3, b4⟩ := ho _ _ hm
    obtain ⟨ko, ke⟩ := k a s1.names.length (by omega) b4 s1 b1 b3 (Nat.le_refl _)
    rw [bind_ok hm]
    refine ⟨fun a' s' h => ?_, ke⟩
    obtain ⟨c1, c2, c3, c4⟩ := ko _ _ h
    exact ⟨c1, by omega, c3, c4⟩
theorem Nice.ret {P : α → Nat → Prop} (a : α) (h : ∀ N, N0 ≤ N → P a N) : Nice L N0 (Pr.ret a) P := by
  intro s h1 h2 h3
  refine ⟨fun a' s' e => ?_, fun c o e => by cases e⟩
  injection e with e1 e2
  subst e1; subst e2
  exact ⟨h1, Nat.le_refl _, h2, h _ h3⟩
theorem Nice.map {m : Pr α} {P : α → Nat → Prop} {Q : β → Nat → Prop} (f : α → β) (h : Nice L N0 m P) (k : ∀ a N1, N0 ≤ N1 → P a N1 → ∀ N, N1 ≤ N → Q (f a) N) : Nice L N0 (m.map f) Q := h.bind fun a N1 h1 h2 => Nice.ret _ (k a N1 h1 h2)
theorem Nice.fail {P : α → Nat → Prop} : Nice L N0 (Od.fail nl L : Pr α) P := by
  intro s h1 h2 h3
  refine ⟨fun a' s' e => (by cases e), fun c o e => ?_⟩
  unfold Od.fail errAt at e
  injection e with e1 e2
  have hk := peekT_ok nl L s.pos h1
  have := hk.le
  have := hk.len
  unfold ErrAt
  simp only at e1 e2
  subst e2
  by_cases h0 : (peekT nl L s.pos).kind = 0
  · rw [if_pos h0] at e1
    exact Or.inr ⟨e1.symm, hk.fin.1 h0⟩
  · rw [if_neg h0] at e1
    refine Or.inl ⟨e1.symm, ?_⟩
    have hne : (peekT nl L s.pos).lo ≠ L.length := fun e => h0 (hk.fin.2 e)
    omega
theorem Nice.at {m : Pr α} {P : α → Nat → Prop} (h : Nice L N0 m P) {s : PS} (h1 : s.pos ≤ L.length) (h2 : ∀ r ∈ s.names, r.1 < L.length) (h3 : N0 ≤ s.names.length) {q : Nat} (hq : q ≤ L.length) :
    (∀ a s', m { s with pos := q } = .ok a s' → s'.pos ≤ L.length ∧ s.names.length ≤ s'.names.length ∧ (∀ r ∈ s'.names, r.1 < L.length) ∧ P a s'.names.length) ∧ (∀ c o, m { s with pos := q } = .err c o → ErrAt L c o) := h { s with pos := q } hq h2 h3
theorem Nice.accept (t : List UInt8) : Nice L N0 (Od.accept nl L t) All := by
  intro s h1 h2 h3
  have hk := peekT_ok nl L s.pos h1
  have hle := hk.le
  have hlen := hk.len
  unfold Od.accept
  by_cases ht : isTok nl L t s.pos = true
  · have := isTok_hi h1 ht
    rw [if_pos ht]
    refine ⟨fun a' s' e => ?_, fun c o e => by cases e⟩
    injection e with e1 e2
    subst e2
    exact ⟨by show (peekT nl L s.pos).lo + t.length ≤ L.length; omega, Nat.le_refl _, h2, trivial⟩
  · rw [if_neg ht]
    refine ⟨fun a' s' e => ?_, fun c o e => by cases e⟩
    injection e with e1 e2
    subst e2
    exact ⟨by show (peekT nl L s.pos).lo ≤ L.length; omega, Nat.le_refl _, h2, trivial⟩
theorem Nice.ite {m m' : Pr α} {P : α → Nat → Prop} (b : Bool) (h : Nice L N0 m P) (h' : Nice L N0 m' P) : Nice L N0 (if b then m else m') P := by
  cases b
  · exact h'
  · exact h
theorem Nice.expect (t : List UInt8) : Nice L N0 (Od.expect nl L t) All := (Nice.accept t).bind fun b N1 _ _ => Nice.ite b (Nice.ret () fun _ _ => trivial) Nice.fail
theorem Nice.number : Nice L N0 (Od.number nl L) All := by
  intro s h1 h2 h3
  have hk := peekT_ok nl L s.pos h1
  have hle := hk.le
  have hlen := hk.len
  unfold Od.number
  simp only
  by_cases h0 : (peekT nl L s.pos).kind = 2
  · rw [if_pos h0]
    refine ⟨fun a' s' e => ?_, fun c o e => by cases e⟩
    injection e with e1 e2
    subst e2
    exact ⟨hlen, Nat.le_refl _, h2, trivial⟩
  · rw [if_neg h0]
    exact Nice.at (Nice.fail (P := All)) h1 h2 h3 (by omega)
theorem Nice.signed : Nice L N0 (Od.signed nl L) All := (Nice.accept _).bind fun b N1 _ _ => Nice.ite b (Nice.number.map _ fun _ _ _ _ _ _ => trivial) Nice.number
theorem Nice.paren {sum : Pr Tr} (h : ∀ N, Nice L N sum Vrs) : Nice L N0 (Od.paren nl L sum) Vrs :=
  (Nice.expect _).bind fun _ N1 _ _ => (h N1).bind fun t N2 _ ht => (Nice.expect _).bind fun _ N3 h3 _ => Nice.ret t fun N hN => ht.mono (by omega)
theorem Nice.bounds : Nice L N0 (Od.bounds nl L) Vrs :=
  Nice.signed.bind fun a _ _ _ => (Nice.expect _).bind fun _ _ _ _ => Nice.signed.bind fun b _ _ _ => (Nice.expect _).bind fun _ _ _ _ => Nice.ret _ fun N _ => Vrs.num _ _ N
theorem Nice.atom {sum : Pr Tr} (h : ∀ N, Nice L N sum Vrs) : Nice L N0 (Od.atom nl L sum) Vrs := by
  intro s h1 h2 h3
  have hk := peekT_ok nl L s.pos h1
  have hle := hk.le
  have hlen := hk.len
  have leaf : ∀ (t : Tr) (q : Nat), (∀ N, Vrs t N) → q ≤ L.length → (∀ a s', (Res.ok t { s with pos := q } : Res Tr) = .ok a s' → s'.pos ≤ L.length ∧ s.names.length ≤ s'.names.length ∧ (∀ r ∈ s'.names, r.1 < L.length) ∧ Vrs a s'.names.length) ∧ (∀ c o, (Res.ok t { s with pos := q } : Res Tr) = .err c o → ErrAt L c o) := by
    intro t q ht hq
    refine ⟨fun a' s' e => ?_, fun c o e => by cases e⟩
    injection e with e1 e2
    subst e1; subst e2
    exact ⟨hq, Nat.le_refl _, h2, ht _⟩
  have un : ∀ op, op ≠ 2 → Nice L N0 ((Od.paren nl L sum).map (Tr.un op)) Vrs := fun op ho => (Nice.paren h).map _ fun a N1 _ ha N hN => Vrs.un ho (ha.mono hN)
  unfold Od.atom
  simp only
  split
  · exact Nice.at (Nice.number.map (Q := Vrs) (fun r => Tr.num r.1 r.2) fun _ _ _ _ N _ => Vrs.num _ _ N) h1 h2 h3 (q := (peekT nl L s.pos).lo) (by omega)
  split
  · rename_i ht
    have := isTok_hi h1 ht
    simp only [List.length_cons, List.length_nil] at this
    exact Nice.at Nice.bounds h1 h2 h3 (by omega)
  split
  · rename_i ht
    have := isTok_hi h1 ht
    simp only [wAll, List.length_cons, List.length_nil] at this
    exact leaf _ _ (Vrs.num _ _) (by omega)
  split
  · rename_i ht
    have := isTok_hi h1 ht
    simp only [wT, List.length_cons, List.length_nil] at this
    exact leaf _ _ (fun N x hx hx2 => by obtain rfl := List.mem_singleton.1 hx; cases hx2) (by omega)
  split
  · rename_i ht
    have := isTok_hi h1 ht
    simp only [wSqr, List.length_cons, List.length_nil] at this
    exact Nice.at (un 5 (by decide)) h1 h2 h3 (by omega)
  split
  · rename_i ht
    have := isTok_hi h1 ht
    simp only [wSqrt, List.length_cons, List.length_nil] at this
    exact Nice.at (un 6 (by decide)) h1 h2 h3 (by omega)
  split
  · rename_i hk1
    have hs := hk.some (Or.inl hk1)
    refine ⟨fun a' s' e => ?_, fun c o e => by cases e⟩
    injection e with e1 e2
    subst e1; subst e2
    refine ⟨hlen, by simp, fun r hr => ?_, fun x hx hx2 => ?_⟩
    · rcases List.mem_append.1 hr with hr | hr
      · exact h2 r hr
      · obtain rfl := List.mem_singleton.1 hr
        show (peekT nl L s.pos).lo < L.length
        omega
    · obtain rfl := List.mem_singleton.1 hx
      simp
  split
  · exact Nice.at (Nice.paren h) h1 h2 h3 (by omega)
  · exact Nice.at Nice.fail h1 h2 h3 (by omega)
theorem Nice.factor {sum : Pr Tr} (h : ∀ N, Nice L N sum Vrs) : ∀ k N0, Nice L N0 (Od.factor nl L sum k) Vrs
  | 0, N0 => Nice.fail
  | k + 1, N0 => (Nice.accept _).bind fun b N1 _ _ => Nice.ite b ((Nice.factor h k N1).map _ fun a N2 _ ha N hN => Vrs.un (by decide) (ha.mono hN)) (Nice.atom h)
theorem Nice.chain {op : Pr Tr} (h : ∀ N, Nice L N op Vrs) (c d : List UInt8) (f g : Int) (hf : f ≠ 2) (hg : g ≠ 2) : ∀ k t N0, Vrs t N0 → Nice L N0 (Od.chain nl L op c d f g k t) Vrs
  | 0, t, N0, ht => Nice.fail
  | k + 1, t, N0, ht => by
    have go : ∀ (o : Int), o ≠ 2 → ∀ N1, N0 ≤ N1 → Nice L N1 (op.bind fun r => Od.chain nl L op c d f g k (Tr.bin o t r)) Vrs := fun o ho N1 h1 => (h N1).bind fun r N2 h2 hr => Nice.chain h c d f g hf hg k _ N2 (Vrs.bin ho (ht.mono (by omega)) hr)
    exact (Nice.accept c).bind fun b N1 h1 _ => Nice.ite b (go f hf N1 h1) ((Nice.accept d).bind fun b N2 h2 _ => Nice.ite b (go g hg N2 (by omega)) (Nice.ret t fun N hN => ht.mono (by omega)))
theorem Nice.product {sum : Pr Tr} (h : ∀ N, Nice L N sum Vrs) (k : Nat) (N0 : Nat) : Nice L N0 (Od.product nl L sum k) Vrs := (Nice.factor h k N0).bind fun e N1 _ he => Nice.chain (fun N => Nice.factor h k N) _ _ _ _ (by decide) (by decide) k e N1 he
theorem Nice.sum : ∀ n N0, Nice L N0 (Od.sum nl L n) Vrs
  | 0, N0 => Nice.fail
  | n + 1, N0 => (Nice.product (Nice.sum n) (L.length + 1) N0).bind fun e N1 _ he => Nice.chain (fun N => Nice.product (Nice.sum n) (L.length + 1) N) _ _ _ _ (by decide) (by decide) (L.length + 1) e N1 he
end
end Go.Proofs.YthcidkidpiaomaaGreatDoor.Od
end
